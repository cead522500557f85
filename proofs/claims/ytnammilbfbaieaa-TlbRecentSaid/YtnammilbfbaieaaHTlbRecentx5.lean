-- Written for this claim by wip/hook.py, by means of the kit's print and of hand-proved contracts.
import Derived.Test.YtnammilbfbaieaaHTlbRecentx0
import Derived.Test.YtnammilbfbaieaaHTlbRecentx2
import Derived.Test.YtnammilbfbaieaaHTlbRecentx3
import Derived.Test.YtnammilbfbaieaaHTlbRecentx4
namespace Go.Proofs.Ytnammilbfbaieaa.HTlbRecent
open Go.RowKit Go.Proofs.YtnammilbfbaieaaW.PrintWords Go.Proofs.YtnammilbfbaieaaW.PrintLast Go.Proofs.YtnammilbfbaieaaW.PrintMore
attribute [local go_sem] max2_int min2_int max_two min_two max_three min_three max_four min_four   -- for this text's walks alone
attribute [local go_sem] Instr.field asAgg
set_option linter.unusedVariables false
set_option linter.unusedSimpArgs false

/-! ### tlb_Fill: function 13 -/
def tlb_Fill.l0 : Nat → List Int → List (S49) → List (S49) → Int → Int → Int → Int → Int → Option (Int × Int × Int × (List (S49)) × List Int)
  | 0, _, _, _, _, _, _, _, _ => none
  | k + 1, x14, x16, x52, x53, x54, x184000, x184001, x184002 => if x54 < x53 then (if 0 ≤ x54 then (if x54 < (x52.length : Int) then (if 0 < (x16.length : Int) then (if ((rd_T49 x52 x54).f0) = ((rd_T49 x16 0).f0) then (tlb_Fill.l0 k x14 x16 x52 x53 (wrap64 (x54 + 1)) x184000 x184001 x184002) else (if x16.length < 11728124029610 then (tlb_Fill.l0 k x14 (x16 ++ [(⟨(rd_T49 x52 x54).f0, (rd_T49 x52 x54).f1, (rd_T49 x52 x54).f2, (rd_T49 x52 x54).f3⟩ : S49)]) x52 x53 (wrap64 (x54 + 1)) x184000 x184001 x184002) else (none))) else (none)) else (none)) else (none)) else (if 0 ≤ (mn (x16.length : Int) 8) then (if (mn (x16.length : Int) 8) ≤ (x16.length : Int) then ((api_TlbEntry_31.f (x16.take ((mn (x16.length : Int) 8) : Int).toNat)).bind fun t208 => (some (x184000, x184001, x184002, t208, x14))) else (none)) else (none))
def tlb_Fill.f (k : Nat) (l0 : List (S49)) (l1 : List Int) (a2 : Int) (a3 : Int) (a4 : Int) : Option (Int × Int × Int × (List (S49)) × List Int) := (paging_Walk.f k l1 a2 a3 a4).bind fun bt180 => (if bt180.2.2 = 0 then ((paging_Touch.f l1 bt180.2.1 a4).bind fun t190 => ((tlb_entry.f t190 bt180.2.1).bind fun t193 => ((tlb_all.f t193 18).bind fun t194 => ((tlb_all.f t193 4).bind fun t195 => (tlb_Fill.l0 k t190 (([(⟨(Int.tdiv a3 128) % 4294967296, (Int.tdiv bt180.1 128) % 4294967296, t194, t195⟩ : S49)] : List (S49))) l0 (l0.length : Int) 0 bt180.1 bt180.2.1 bt180.2.2))))) else ((api_TlbEntry_20.f l0).bind fun t184 => ((slices_Clone_uint32_uint32.f l1).bind fun t187 => (some (bt180.1, bt180.2.1, bt180.2.2, t184, t187)))))
theorem tlb_Fill.mono_l : ∀ k, (∀ y0 y1 y2 y3 y4 y5 y6 y7, LeO (tlb_Fill.l0 k y0 y1 y2 y3 y4 y5 y6 y7) (tlb_Fill.l0 (k + 1) y0 y1 y2 y3 y4 y5 y6 y7))
  | 0 => fun _ _ _ _ _ _ _ _ r h => by simp [tlb_Fill.l0] at h
  | k + 1 => by
    have ih0 := tlb_Fill.mono_l k
    · intro y0 y1 y2 y3 y4 y5 y6 y7
      unfold tlb_Fill.l0
      repeat' first
      | (with_reducible exact ih0 _ _ _ _ _ _ _ _)
      | (with_reducible exact paging_Walk.mono _ _ _ _ _)
      | (with_reducible exact LeO.refl _)
      | (with_reducible exact LeO.none _)
      | (with_reducible refine LeO.ite ?_ ?_)
      | (with_reducible refine LeO.bind ?_ (fun _ => ?_))
      | exact ih0 _ _ _ _ _ _ _ _
      | exact paging_Walk.mono _ _ _ _ _
      | exact LeO.none _
      | refine LeO.ite ?_ ?_
      | refine LeO.bind ?_ (fun _ => ?_)
theorem tlb_Fill.mono : ∀ a0 a1 a2 a3 a4 k, LeO (tlb_Fill.f k a0 a1 a2 a3 a4) (tlb_Fill.f (k + 1) a0 a1 a2 a3 a4) := by
  intro a0 a1 a2 a3 a4 k
  have ih0 := tlb_Fill.mono_l k
  unfold tlb_Fill.f
  repeat' first
      | (with_reducible exact ih0 _ _ _ _ _ _ _ _)
      | (with_reducible exact paging_Walk.mono _ _ _ _ _)
      | (with_reducible exact LeO.refl _)
      | (with_reducible exact LeO.none _)
      | (with_reducible refine LeO.ite ?_ ?_)
      | (with_reducible refine LeO.bind ?_ (fun _ => ?_))
      | exact ih0 _ _ _ _ _ _ _ _
      | exact paging_Walk.mono _ _ _ _ _
      | exact LeO.none _
      | refine LeO.ite ?_ ?_
      | refine LeO.bind ?_ (fun _ => ?_)
def tlb_Fill.T3 : Bool × List (List Nat × List Nat) := (true, [([], []), ([], []), ([1], [1]), ([], []), ([3, 2], [3]), ([0, 4, 0], [0]), ([2, 5, 0, 1, 2, 5], [2]), ([4, 6, 0, 1, 2, 3, 4, 5, 6], [4])])
def tlb_Fill.B3 : List Nat := [0, 0, 2, 0, 14, 31, 63, 127]
theorem tlb_Fill.tab3 : rtab .any (opsOf Try.f13 3) = tlb_Fill.T3 := by kernel_rfl
theorem tlb_Fill.bits3 : waitsOk tlb_Fill.T3.2 tlb_Fill.B3 = true := by kernel_rfl
def tlb_Fill.T6 : Bool × List (List Nat × List Nat) := (true, [([], []), ([0], [0]), ([], []), ([2], [2]), ([3], [3]), ([], []), ([5], [5]), ([], []), ([7, 6], [7]), ([1, 4, 6, 8], [1, 4, 6, 8]), ([9], [9]), ([10, 8, 0, 1, 2, 3, 4, 5, 6, 7, 8, 9, 10], [10])])
def tlb_Fill.B6 : List Nat := [0, 1, 0, 4, 12, 0, 32, 0, 224, 511, 1023, 2047]
theorem tlb_Fill.tab6 : rtab .any (opsOf Try.f13 6) = tlb_Fill.T6 := by kernel_rfl
theorem tlb_Fill.bits6 : waitsOk tlb_Fill.T6.2 tlb_Fill.B6 = true := by kernel_rfl
def tlb_Fill.T13 : Bool × List (List Nat × List Nat) := (true, [([], []), ([], []), ([], []), ([2], [2]), ([3], [3]), ([1, 4], [1, 4]), ([5], [5]), ([], []), ([0, 6, 0], [0]), ([6, 8, 0, 1, 2, 3, 4, 5, 6, 8], [6]), ([7, 9, 0, 1, 2, 3, 4, 5, 6, 7, 8, 9], [7])])
def tlb_Fill.B13 : List Nat := [0, 0, 0, 4, 12, 30, 62, 0, 127, 383, 1023]
theorem tlb_Fill.tab13 : rtab .any (opsOf Try.f13 13) = tlb_Fill.T13 := by kernel_rfl
theorem tlb_Fill.bits13 : waitsOk tlb_Fill.T13.2 tlb_Fill.B13 = true := by kernel_rfl
set_option maxHeartbeats 8000000 in
set_option maxRecDepth 100000 in
theorem tlb_Fill.calls (k : Nat) (A0 : Option Addr) (c0 : Nat) (l0 : List (S49)) (A1 : Option Addr) (c1 : Nat) (l1 : List Int) (a2 : Int) (a3 : Int) (a4 : Int) (r1 : Int) (r2 : Int) (r3 : Int) (r4 : List (S49)) (r5 : List Int) (w : World) (hr0 : Kd.C k49 w A0 l0.length l0) (hc0 : l0.length ≤ c0) (hr1 : Kd.C (Kd.int .u32) w A1 l1.length l1) (hc1 : l1.length ≤ c1) (h : tlb_Fill.f k l0 l1 a2 a3 a4 = some (r1, r2, r3, r4, r5)) :
    Calls Try.prog 13 #[.slice A0 l0.length c0, .slice A1 l1.length c1, .int .u32 a2, .int .u32 a3, .int .i64 a4] w fun e w' => ∃ v3_ v4_ : Value, e = .returned (.tuple #[.agg #[.int .u32 r1, .int .u32 r2, .int .i64 r3], v3_, v4_]) ∧ Kd.V k49 49 w' w.heap.size (fun k_ => (w.heap.size ≤ k_) ∧ some k_ ≠ (v4_ : Value).ownBlock) v3_ r4 ∧ Kd.R (Kd.int .u32) 23 w' w.heap.size (fun k_ => (w.heap.size ≤ k_)) v4_ r5 ∧ Below w.heap.size w w' := by
  have hu34 := Try.underlying34
  have hu49 := Try.underlying49
  have HR0 := Aside0.mk hr0
  have HC0 := Aside0.mk hc0
  clear hr0 hc0
  have HR1 := Aside0.mk hr1
  have HC1 := Aside0.mk hc1
  clear hr1 hc1
  have HB := Aside0.mk (Below.refl w.heap.size w)
  have H : ((paging_Walk.f k l1 a2 a3 a4).bind fun bt180 => (if bt180.2.2 = 0 then ((paging_Touch.f l1 bt180.2.1 a4).bind fun t190 => ((tlb_entry.f t190 bt180.2.1).bind fun t193 => ((tlb_all.f t193 18).bind fun t194 => ((tlb_all.f t193 4).bind fun t195 => (tlb_Fill.l0 k t190 (([(⟨(Int.tdiv a3 128) % 4294967296, (Int.tdiv bt180.1 128) % 4294967296, t194, t195⟩ : S49)] : List (S49))) l0 (l0.length : Int) 0 bt180.1 bt180.2.1 bt180.2.2))))) else ((api_TlbEntry_20.f l0).bind fun t184 => ((slices_Clone_uint32_uint32.f l1).bind fun t187 => (some (bt180.1, bt180.2.1, bt180.2.2, t184, t187)))))) = some (r1, r2, r3, r4, r5) := h
  clear h
  replace H := Option.bind_eq_some_iff.mp H
  obtain ⟨⟨t180, t181, t182⟩, A60, H⟩ := H
  replace H : (if t182 = 0 then ((paging_Touch.f l1 t181 a4).bind fun t190 => ((tlb_entry.f t190 t181).bind fun t193 => ((tlb_all.f t193 18).bind fun t194 => ((tlb_all.f t193 4).bind fun t195 => (tlb_Fill.l0 k t190 (([(⟨(Int.tdiv a3 128) % 4294967296, (Int.tdiv t180 128) % 4294967296, t194, t195⟩ : S49)] : List (S49))) l0 (l0.length : Int) 0 t180 t181 t182))))) else ((api_TlbEntry_20.f l0).bind fun t184 => ((slices_Clone_uint32_uint32.f l1).bind fun t187 => (some (t180, t181, t182, t184, t187))))) = some (r1, r2, r3, r4, r5) := H
  have A6 := Aside0.mk A60
  clear A60
  by_cases c7 : t182 = 0
  · rw [if_pos c7] at H
    have c7b0 : (t182 == 0) = true := beq_iff_eq.mpr c7
    have c7b1 : (t182 != 0) = false := bne_eq_false_iff_eq.mpr c7
    clear c7
    replace H := Option.bind_eq_some_iff.mp H
    obtain ⟨t190, A80, H⟩ := H
    replace H : ((tlb_entry.f t190 t181).bind fun t193 => ((tlb_all.f t193 18).bind fun t194 => ((tlb_all.f t193 4).bind fun t195 => (tlb_Fill.l0 k t190 (([(⟨(Int.tdiv a3 128) % 4294967296, (Int.tdiv t180 128) % 4294967296, t194, t195⟩ : S49)] : List (S49))) l0 (l0.length : Int) 0 t180 t181 t182)))) = some (r1, r2, r3, r4, r5) := H
    have A8 := Aside0.mk A80
    clear A80
    replace H := Option.bind_eq_some_iff.mp H
    obtain ⟨t193, A90, H⟩ := H
    replace H : ((tlb_all.f t193 18).bind fun t194 => ((tlb_all.f t193 4).bind fun t195 => (tlb_Fill.l0 k t190 (([(⟨(Int.tdiv a3 128) % 4294967296, (Int.tdiv t180 128) % 4294967296, t194, t195⟩ : S49)] : List (S49))) l0 (l0.length : Int) 0 t180 t181 t182))) = some (r1, r2, r3, r4, r5) := H
    have A9 := Aside0.mk A90
    clear A90
    replace H := Option.bind_eq_some_iff.mp H
    obtain ⟨t194, A100, H⟩ := H
    replace H : ((tlb_all.f t193 4).bind fun t195 => (tlb_Fill.l0 k t190 (([(⟨(Int.tdiv a3 128) % 4294967296, (Int.tdiv t180 128) % 4294967296, t194, t195⟩ : S49)] : List (S49))) l0 (l0.length : Int) 0 t180 t181 t182)) = some (r1, r2, r3, r4, r5) := H
    have A10 := Aside0.mk A100
    clear A100
    replace H := Option.bind_eq_some_iff.mp H
    obtain ⟨t195, A110, H⟩ := H
    replace H : (tlb_Fill.l0 k t190 (([(⟨(Int.tdiv a3 128) % 4294967296, (Int.tdiv t180 128) % 4294967296, t194, t195⟩ : S49)] : List (S49))) l0 (l0.length : Int) 0 t180 t181 t182) = some (r1, r2, r3, r4, r5) := H
    have A11 := Aside0.mk A110
    clear A110
    obtain ⟨y196, hy196⟩ : ∃ y_ : List (S49), y_ = (([(⟨(Int.tdiv a3 128) % 4294967296, (Int.tdiv t180 128) % 4294967296, t194, t195⟩ : S49)] : List (S49))) := ⟨_, rfl⟩
    replace H : (tlb_Fill.l0 k t190 y196 l0 (l0.length : Int) 0 t180 t181 t182) = some (r1, r2, r3, r4, r5) := by first | (rw [hy196]; with_reducible exact H) | (have H2_ := (Option.bind_some _ _).symm.trans H; rw [hy196]; with_reducible exact H2_) | (have H2_ := (Option.bind_some _ _).symm.trans H; with_reducible exact H2_) | with_reducible exact H | (rw [hy196]; exact H) | exact H
    have Ny196 := Aside0.mk hy196
    clear hy196
    have H' := Aside0.mk H
    clear H
    go_enter Try.func13, Try.ntmps13
    try go_wp2_with (first | ((with_reducible refine gate_dst (N := 10) rfl ?_); refine box_event ?hg (N := 10) ?hd (cs := #[.int .u32 0, .int .u32 0, .int .i64 0]) (t := 34) ?hr ?_; (case hd => rfl); (case hg => rfl); (case hr => first | (go_simp; done) | (go_simp; rfl)); intro gb179 hg w12 hbox hb; have n0_ := Aside0.mk (below_step (by repeat (first | (with_reducible first | exact HB.out | apply below_alloc | apply pw_below_drewN | apply below_drew1) | exact HB.out)) hb); have n1_ := Aside0.mk (hbox); have n2_ := Aside0.mk ((by rw [hg]; exact (below_size (by repeat (first | (with_reducible first | exact HB.out | apply below_alloc | apply pw_below_drewN | apply below_drew1) | exact HB.out))) : w.heap.size ≤ gb179)); have n3_ := Aside0.mk ((by rw [hg]; exact (below_size (by repeat (first | (with_reducible first | exact HB.out | apply below_alloc | apply pw_below_drewN | apply below_drew1) | exact HB.out))) : w.heap.size ≤ gb179)); clear HB; have HB := n0_; have BK179 := n1_; have GW179 := n2_; have GE179 := n3_; clear n0_ n1_ n2_ n3_; clear hb hbox hg) | ((with_reducible refine gate_callee (f := 10) rfl ?_); refine goesL_ (some 23) rfl rfl Try.func10 (by kernel_rfl) rfl #[.slice A1 l1.length c1, .int .u32 a2, .int .u32 a3, .int .i64 a4] rfl (by (try simp only [List.map_toArray, List.map_cons, List.map_nil]); first | done | rfl | (simp only [List.length_drop, List.length_take]; rfl)) ?_; (with_reducible refine (paging_Walk.calls k _ _ l1 a2 a3 a4 t180 t181 t182 _ ?side1 ?side2 A6.out).mono ?_); (case side1 => repeat (first | exact (Kd.C_below HR1.out HB.out) | (with_reducible refine Kd.C_alloc ?_ _) | (with_reducible refine Kd.C_drewN ?_ _) | (with_reducible refine Kd.C_drew ?_))); (case side2 => exact HC1.out); rintro e w13 ⟨rfl, hb⟩; refine ⟨_, rfl, ?_⟩; have n0_ := Aside0.mk (blk_below (g := gb179) (o := .cells #[.int .u32 0, .int .u32 0, .int .i64 0] 34 (0, 0)) (by (with_reducible repeat (first | refine blk_drewN ?_ _ | refine blk_drew ?_ | refine blk_alloc ?_ _)); exact BK179.out) hb); have n1_ := Aside0.mk (below_step (by repeat (first | (with_reducible first | exact HB.out | apply below_alloc | apply pw_below_drewN | apply below_drew1 | refine below_set ?_ GE179.out) | exact HB.out)) hb); clear BK179; clear HB; have BK179 := n0_; have HB := n1_; clear n0_ n1_; (try clear hb); (try clear hb2); (try clear hk); (try clear hi)) | ((with_reducible refine gate_dst (N := 13) rfl ?_); refine box_event ?hg (N := 13) ?hd (cs := #[.int .u32 0, .int .u32 0, .int .i64 0]) (t := 34) ?hr ?_; (case hd => rfl); (case hg => rfl); (case hr => first | (go_simp; done) | (go_simp; rfl)); intro gb183 hg w14 hbox hb; have n0_ := Aside0.mk (blk_below (g := gb179) (o := .cells #[.int .u32 0, .int .u32 0, .int .i64 0] 34 (0, 0)) (by (with_reducible repeat (first | refine blk_drewN ?_ _ | refine blk_drew ?_ | refine blk_alloc ?_ _)); exact BK179.out) hb); have n1_ := Aside0.mk (below_step (by repeat (first | (with_reducible first | exact HB.out | apply below_alloc | apply pw_below_drewN | apply below_drew1 | refine below_set ?_ GE179.out) | exact HB.out)) hb); have n2_ := Aside0.mk (hbox); have n3_ := Aside0.mk ((by rw [hg]; exact (below_size (by repeat (first | (with_reducible first | exact HB.out | apply below_alloc | apply pw_below_drewN | apply below_drew1 | refine below_set ?_ GE179.out) | exact HB.out))) : w.heap.size ≤ gb183)); have n4_ := Aside0.mk ((by rw [hg]; exact (below_size (by repeat (first | (with_reducible first | exact HB.out | apply below_alloc | apply pw_below_drewN | apply below_drew1 | refine below_set ?_ GE179.out) | exact HB.out))) : w.heap.size ≤ gb183)); have n5_ := Aside0.mk ((by rw [hg]; exact Nat.ne_of_lt (blk_lt (g := gb179) (o := .cells #[.int .u32 0, .int .u32 0, .int .i64 0] 34 (0, 0)) (by (with_reducible repeat (first | refine blk_drewN ?_ _ | refine blk_drew ?_ | refine blk_alloc ?_ _)); exact BK179.out)) : gb179 ≠ gb183)); have n6_ := Aside0.mk ((by rw [hg]; exact Nat.ne_of_gt (blk_lt (g := gb179) (o := .cells #[.int .u32 0, .int .u32 0, .int .i64 0] 34 (0, 0)) (by (with_reducible repeat (first | refine blk_drewN ?_ _ | refine blk_drew ?_ | refine blk_alloc ?_ _)); exact BK179.out)) : gb183 ≠ gb179)); clear BK179; clear HB; have BK179 := n0_; have HB := n1_; have BK183 := n2_; have GW183 := n3_; have GE183 := n4_; have NB179_183 := n5_; have NB183_179 := n6_; clear n0_ n1_ n2_ n3_ n4_ n5_ n6_; clear hb hbox hg; have hnb15 := NB183_179.out; have hnc15 := NB179_183.out; have hcz16_0 : w14.cell? ⟨gb183, 0, none⟩ = some (.int .u32 0) := (blk_cell BK183.out 0).trans rfl; have hcz16_1 : w14.cell? ⟨gb183, 1, none⟩ = some (.int .u32 0) := (blk_cell BK183.out 1).trans rfl; have hcz16_2 : w14.cell? ⟨gb183, 2, none⟩ = some (.int .i64 0) := (blk_cell BK183.out 2).trans rfl; have hfz16_0 := blk_frozen BK183.out 0; have hfz16_1 := blk_frozen BK183.out 1; have hfz16_2 := blk_frozen BK183.out 2) | ((with_reducible refine gate_callee (f := 12) rfl ?_); refine goesL_ (some 36) rfl rfl Try.func12 (by kernel_rfl) rfl #[.slice A1 l1.length c1, .int .u32 t181, .int .i64 a4] rfl (by (try simp only [List.map_toArray, List.map_cons, List.map_nil]); first | done | rfl | (simp only [List.length_drop, List.length_take]; rfl)) ?_; (with_reducible refine (paging_Touch.calls _ _ l1 t181 a4 t190 _ ?side1 ?side2 A8.out).mono ?_); (case side1 => exact Kd.C_below HR1.out (by repeat (first | (with_reducible first | exact HB.out | apply below_alloc | apply pw_below_drewN | apply below_drew1 | refine below_set ?_ GE179.out | refine below_set ?_ GE183.out) | exact HB.out))); (case side2 => exact HC1.out); rintro e w17 ⟨v191, rfl, ho0, hb⟩; refine ⟨_, rfl, ?_⟩; have n0_ := Aside0.mk (Kd.R_lower (Kd.R_newM (M := fun k_ => (w.heap.size ≤ k_)) ho0 (below_size (by repeat (first | (with_reducible first | exact HB.out | apply below_alloc | apply pw_below_drewN | apply below_drew1 | refine below_set ?_ GE179.out | refine below_set ?_ GE183.out) | exact HB.out))) (fun k_ h_ => h_)) (below_size (by repeat (first | (with_reducible first | exact HB.out | apply below_alloc | apply pw_below_drewN | apply below_drew1 | refine below_set ?_ GE179.out | refine below_set ?_ GE183.out) | exact HB.out)))); have n1_ := Aside0.mk (blk_below (g := gb179) (o := .cells #[.int .u32 0, .int .u32 0, .int .i64 0] 34 (0, 0)) (by (with_reducible repeat (first | refine blk_drewN ?_ _ | refine blk_drew ?_ | refine blk_alloc ?_ _)); refine blk_far ?_ NB179_183.out _; (with_reducible repeat (first | refine blk_drewN ?_ _ | refine blk_drew ?_ | refine blk_alloc ?_ _)); refine blk_far ?_ NB179_183.out _; (with_reducible repeat (first | refine blk_drewN ?_ _ | refine blk_drew ?_ | refine blk_alloc ?_ _)); refine blk_far ?_ NB179_183.out _; (with_reducible repeat (first | refine blk_drewN ?_ _ | refine blk_drew ?_ | refine blk_alloc ?_ _)); exact BK179.out) hb); have n2_ := Aside0.mk (blk_below (g := gb183) (o := .cells #[.int .u32 t180, .int .u32 t181, .int .i64 t182] 34 (0, 0)) (by (with_reducible repeat (first | refine blk_drewN ?_ _ | refine blk_drew ?_ | refine blk_alloc ?_ _)); refine blk_put (cs := #[.int .u32 t180, .int .u32 t181, .int .i64 0]) ?_ 2 _ rfl; (with_reducible repeat (first | refine blk_drewN ?_ _ | refine blk_drew ?_ | refine blk_alloc ?_ _)); refine blk_put (cs := #[.int .u32 t180, .int .u32 0, .int .i64 0]) ?_ 1 _ rfl; (with_reducible repeat (first | refine blk_drewN ?_ _ | refine blk_drew ?_ | refine blk_alloc ?_ _)); refine blk_put (cs := #[.int .u32 0, .int .u32 0, .int .i64 0]) ?_ 0 _ rfl; (with_reducible repeat (first | refine blk_drewN ?_ _ | refine blk_drew ?_ | refine blk_alloc ?_ _)); exact BK183.out) hb); have n3_ := Aside0.mk (below_step (by repeat (first | (with_reducible first | exact HB.out | apply below_alloc | apply pw_below_drewN | apply below_drew1 | refine below_set ?_ GE179.out | refine below_set ?_ GE183.out) | exact HB.out)) hb); clear BK179; clear BK183; clear HB; have HO192 := n0_; have BK179 := n1_; have BK183 := n2_; have HB := n3_; clear n0_ n1_ n2_ n3_; (try clear hb); (try clear hb2); (try clear hk); (try clear hi); (try clear ho0); have hcz18_0 : w17.cell? ⟨gb183, 0, none⟩ = some (.int .u32 t180) := (blk_cell BK183.out 0).trans rfl; have hcz18_1 : w17.cell? ⟨gb183, 1, none⟩ = some (.int .u32 t181) := (blk_cell BK183.out 1).trans rfl; have hcz18_2 : w17.cell? ⟨gb183, 2, none⟩ = some (.int .i64 t182) := (blk_cell BK183.out 2).trans rfl; have hfz18_0 := blk_frozen BK183.out 0; have hfz18_1 := blk_frozen BK183.out 1; have hfz18_2 := blk_frozen BK183.out 2; obtain ⟨Ao19, co19, eo19⟩ := Kd.R_slice HO192.out; subst eo19) | ((with_reducible refine gate_callee (f := 29) rfl ?_); refine goesL_ (some 40) rfl rfl Try.func29 (by kernel_rfl) rfl #[.slice Ao19 t190.length co19, .int .u32 t181] rfl (by (try simp only [List.map_toArray, List.map_cons, List.map_nil]); first | done | rfl | (simp only [List.length_drop, List.length_take]; rfl)) ?_; (with_reducible refine (tlb_entry.calls _ _ t190 t181 t193 _ ?side1 ?side2 A9.out).mono ?_); (case side1 => repeat (first | exact (Kd.R_reads' HO192.out).2.2 | (with_reducible refine Kd.C_alloc ?_ _) | (with_reducible refine Kd.C_drewN ?_ _) | (with_reducible refine Kd.C_drew ?_))); (case side2 => exact (Kd.R_reads' HO192.out).2.1); rintro e w' ⟨rfl, ⟨nd, rfl⟩⟩; refine ⟨_, rfl, ?_⟩))
    (try (rw [drewN_self w17]; generalize hq_ : World.drewN w17 _ = w17; have n0_ : Aside0 (Kd.R (Kd.int .u32) 23 w17 w.heap.size (fun k_ => (w.heap.size ≤ k_)) (.slice Ao19 t190.length co19) t190) := ⟨by rw [← hq_]; exact (by (with_reducible repeat (first | apply Kd.R_alloc | apply Kd.R_drewN | apply Kd.R_drew)); exact Kd.R_mono HO192.out (fun _ hk => hk.1))⟩; have n1_ : Aside0 (w17.heap[gb179]? = some (.cells #[.int .u32 0, .int .u32 0, .int .i64 0] 34 (0, 0))) := ⟨by rw [← hq_]; exact (by (with_reducible repeat (first | refine blk_drewN ?_ _ | refine blk_drew ?_ | refine blk_alloc ?_ _)); exact BK179.out)⟩; have n2_ : Aside0 (w17.heap[gb183]? = some (.cells #[.int .u32 t180, .int .u32 t181, .int .i64 t182] 34 (0, 0))) := ⟨by rw [← hq_]; exact (by (with_reducible repeat (first | refine blk_drewN ?_ _ | refine blk_drew ?_ | refine blk_alloc ?_ _)); exact BK183.out)⟩; have n3_ : Aside0 (Below w.heap.size w w17) := ⟨by rw [← hq_]; exact (by repeat (first | (with_reducible first | exact HB.out | apply below_alloc | apply pw_below_drewN | apply below_drew1 | refine below_set ?_ GE179.out | refine below_set ?_ GE183.out) | exact HB.out))⟩; clear HO192 BK179 BK183 HB hq_; have HO192 := n0_; have BK179 := n1_; have BK183 := n2_; have HB := n3_; clear n0_ n1_ n2_ n3_))
    have n0_ := Aside0.mk (Kd.R_drew HO192.out)
    have n1_ := Aside0.mk (blk_drew BK179.out)
    have n2_ := Aside0.mk (blk_drew BK183.out)
    have n3_ := Aside0.mk (below_drew1 HB.out)
    clear HO192
    clear BK179
    clear BK183
    clear HB
    have HO192 := n0_
    have BK179 := n1_
    have BK183 := n2_
    have HB := n3_
    clear n0_ n1_ n2_ n3_
    refine start_ (n := 12) (S := fun w' => w'.cell? ⟨gb183, 0, none⟩ = some (.int .u32 t180) ∧ w'.cell? ⟨gb183, 1, none⟩ = some (.int .u32 t181) ∧ w'.cell? ⟨gb183, 2, none⟩ = some (.int .i64 t182)) (ds := []) #[false, false, false, false, false, false, false, false, false, false, false, false] (by kernel_rfl) rfl rfl ⟨(blk_cell BK183.out 0).trans rfl, (blk_cell BK183.out 1).trans rfl, (blk_cell BK183.out 2).trans rfl⟩ (fun hHeld => ?_); refine with_tabW tlb_Fill.tab6 tlb_Fill.bits6 (fun HT_ HW_ => ?_)
    generalize w17.drew = w20 at HO192 BK179 BK183 HB hHeld ⊢
    refine pure_ (i := 0) (N := some 41) (v := ?_) (a' := ?_) #[true, false, false, false, false, false, false, false, false, false, false, false] rfl rfl (any_of HT_.out (by kernel_rfl)) (fun _ _ _ h => h) (Or.inl ⟨by rfl, ?_⟩) ?_ ?_
    rotate_left
    · intro w'
      go_simp
      with_reducible rfl
    rotate_left
    · simp only [Act.put, List.setIfInBounds_toArray, List.set_cons_zero, List.set_cons_succ, i64_w, i32_w]
      rfl
    refine pure_ (i := 1) (N := some 42) (v := ?_) (a' := ?_) #[true, true, false, false, false, false, false, false, false, false, false, false] rfl rfl (any_of HT_.out (by kernel_rfl)) (fun _ _ _ h => h) (Or.inl ⟨by rfl, ?_⟩) ?_ ?_
    rotate_left
    · intro w'
      go_simp
      with_reducible rfl
    rotate_left
    · simp only [Act.put, List.setIfInBounds_toArray, List.set_cons_zero, List.set_cons_succ, i64_w, i32_w]
      rfl
    refine pure_ (i := 2) (N := some 43) (v := ?_) (a' := ?_) #[true, true, true, false, false, false, false, false, false, false, false, false] rfl rfl (any_of HT_.out (by kernel_rfl)) (fun _ _ _ h => h) (Or.inl ⟨by rfl, ?_⟩) ?_ ?_
    rotate_left
    · intro w'
      go_simp
      with_reducible rfl
    rotate_left
    · simp only [Act.put, List.setIfInBounds_toArray, List.set_cons_zero, List.set_cons_succ, i64_w, i32_w]
      rfl
    refine pure_ (i := 5) (N := some 46) (v := ?_) (a' := ?_) #[true, true, true, false, false, true, false, false, false, false, false, false] rfl rfl (any_of HT_.out (by kernel_rfl)) (fun _ _ _ h => h) (Or.inl ⟨by rfl, ?_⟩) ?_ ?_
    rotate_left
    · intro w'
      go_simp
      with_reducible rfl
    rotate_left
    · simp only [Act.put, List.setIfInBounds_toArray, List.set_cons_zero, List.set_cons_succ, i64_w, i32_w]
      rfl
    refine pure_ (i := 7) (N := some 48) (v := ?_) (a' := ?_) #[true, true, true, false, false, true, false, true, false, false, false, false] rfl rfl (any_of HT_.out (by kernel_rfl)) (fun _ _ _ h => h) (Or.inl ⟨by rfl, ?_⟩) ?_ ?_
    rotate_left
    · intro w'
      go_simp
      with_reducible rfl
    rotate_left
    · simp only [Act.put, List.setIfInBounds_toArray, List.set_cons_zero, List.set_cons_succ, i64_w, i32_w]
      rfl
    refine take_ (i := 3) (N := some 44) (v := ?_) (a' := ?_) #[true, true, true, true, false, true, false, true, false, false, false, false] rfl rfl (take_ofW HT_.out HW_.out (by kernel_rfl)) (fun _ _ _ h => h) (Or.inl ⟨by rfl, ?_⟩) hHeld ?_ ?_
    rotate_left
    · rintro w' ⟨s0, s1, s2⟩
      go_simp
      with_reducible rfl
    rotate_left
    · simp only [Act.put, List.setIfInBounds_toArray, List.set_cons_zero, List.set_cons_succ, i64_w, i32_w]
      rfl
    refine pure_ (i := 4) (N := some 45) (v := ?_) (a' := ?_) #[true, true, true, true, true, true, false, true, false, false, false, false] rfl rfl (any_of HT_.out (by kernel_rfl)) (fun _ _ _ h => h) (Or.inl ⟨by rfl, ?_⟩) ?_ ?_
    rotate_left
    · intro w'
      go_simp
      with_reducible rfl
    rotate_left
    · simp only [Act.put, List.setIfInBounds_toArray, List.set_cons_zero, List.set_cons_succ, i64_w, i32_w]
      rfl
    refine one_ (i := 6) (N := some 47) #[true, true, true, true, true, true, true, true, false, false, false, false] rfl rfl (one_of HT_.out (by kernel_rfl)) (by decide) (fun K hK => ?_)
    refine goes_ Try.func30 (by kernel_rfl) rfl #[.int .u32 t193, .int .u32 18] (by rfl) rfl rfl (by (try simp only [List.map_toArray, List.map_cons, List.map_nil]); first | done | rfl | (simp only [List.length_drop, List.length_take]; rfl)) ?_
    with_reducible refine (tlb_all.calls t193 18 t194 _ A10.out).mono ?_
    rintro e w' ⟨rfl, ⟨nd, rfl⟩⟩
    refine ⟨_, rfl, ?_⟩
    refine hK.out _ _ ⟨(blk_cell BK183.out 0).trans rfl, (blk_cell BK183.out 1).trans rfl, (blk_cell BK183.out 2).trans rfl⟩ (fun hHeld => ?_)
    clear hK K
    refine norm_ (a' := ?_) ?_ ?_
    rotate_left
    · show Act.put _ (some 47) _ = _
      simp only [Act.put, List.setIfInBounds_toArray, List.set_cons_zero, List.set_cons_succ, i64_w, i32_w]
      rfl
    refine one_ (i := 8) (N := some 49) #[true, true, true, true, true, true, true, true, true, false, false, false] rfl rfl (one_of HT_.out (by kernel_rfl)) (by decide) (fun K hK => ?_)
    refine goes_ Try.func30 (by kernel_rfl) rfl #[.int .u32 t193, .int .u32 4] (by rfl) rfl rfl (by (try simp only [List.map_toArray, List.map_cons, List.map_nil]); first | done | rfl | (simp only [List.length_drop, List.length_take]; rfl)) ?_
    with_reducible refine (tlb_all.calls t193 4 t195 _ A11.out).mono ?_
    rintro e w' ⟨rfl, ⟨nd, rfl⟩⟩
    refine ⟨_, rfl, ?_⟩
    refine hK.out _ _ ⟨(blk_cell BK183.out 0).trans rfl, (blk_cell BK183.out 1).trans rfl, (blk_cell BK183.out 2).trans rfl⟩ (fun hHeld => ?_)
    clear hK K
    refine norm_ (a' := ?_) ?_ ?_
    rotate_left
    · show Act.put _ (some 49) _ = _
      simp only [Act.put, List.setIfInBounds_toArray, List.set_cons_zero, List.set_cons_succ, i64_w, i32_w]
      rfl
    refine pure_ (i := 9) (N := some 50) (v := ?_) (a' := ?_) #[true, true, true, true, true, true, true, true, true, true, false, false] rfl rfl (any_of HT_.out (by kernel_rfl)) (fun _ _ _ h => h) (Or.inl ⟨by rfl, ?_⟩) ?_ ?_
    rotate_left
    · intro w'
      go_simp
      with_reducible rfl
    rotate_left
    · simp only [Act.put, List.setIfInBounds_toArray, List.set_cons_zero, List.set_cons_succ, i64_w, i32_w]
      rfl
    refine one_ (i := 10) (N := some 51) #[true, true, true, true, true, true, true, true, true, true, true, false] rfl rfl (one_of HT_.out (by kernel_rfl)) (by decide) (fun K hK => ?_)
    refine Kd.R_lit_step k49 _ 49 ?hg (N := 51) ?hd (xs := ([(⟨(Int.tdiv a3 128) % 4294967296, (Int.tdiv t180 128) % 4294967296, t194, t195⟩ : S49)] : List (S49))) (inner := [.int .u32 ((Int.tdiv a3 128) % 4294967296), .int .u32 ((Int.tdiv t180 128) % 4294967296), .bool t194, .bool t195]) (ok := fun _ => True) (okp := fun _ => True) ?hr ?hp (fun _ hk => hk) trivial (Below.refl _ _) (Nat.le_refl _) (by simp) ?_; (case hd => rfl); (case hg => rfl); (case hr => first | (go_simp; done) | (go_simp; rfl)); (case hp => exact (Reps.c4 (show Kd.M k49 _ _ _ (⟨(Int.tdiv a3 128) % 4294967296, (Int.tdiv t180 128) % 4294967296, t194, t195⟩ : S49) [.int .u32 ((Int.tdiv a3 128) % 4294967296), .int .u32 ((Int.tdiv t180 128) % 4294967296), .bool t194, .bool t195] from (k49_mkM _ _ _ (⟨(Int.tdiv a3 128) % 4294967296, (Int.tdiv t180 128) % 4294967296, t194, t195⟩ : S49) )) (Reps.none _ _)))
    intro v197 w21 ho22 hb hg_ hnew_
    clear hg_ hnew_
    (first | rw [← Ny196.out] at ho22 | (simp only [Int.reduceToNat] at ho22; rw [← Ny196.out] at ho22))
    have n0_ := Aside0.mk (Kd.R_below (by (with_reducible repeat (first | apply Kd.R_alloc | apply Kd.R_drewN | apply Kd.R_drew)); exact HO192.out) hb)
    have n1_ := Aside0.mk (Kd.R_lower (Kd.R_newM (M := fun k_ => (w.heap.size ≤ k_)) ho22 (below_size (by repeat (first | (with_reducible first | exact HB.out | apply below_alloc | apply pw_below_drewN | apply below_drew1 | refine below_set ?_ GE179.out | refine below_set ?_ GE183.out) | exact HB.out))) (fun k_ h_ => h_)) (below_size (by repeat (first | (with_reducible first | exact HB.out | apply below_alloc | apply pw_below_drewN | apply below_drew1 | refine below_set ?_ GE179.out | refine below_set ?_ GE183.out) | exact HB.out))))
    have n2_ := Aside0.mk (blk_below (g := gb179) (o := .cells #[.int .u32 0, .int .u32 0, .int .i64 0] 34 (0, 0)) (by (with_reducible repeat (first | refine blk_drewN ?_ _ | refine blk_drew ?_ | refine blk_alloc ?_ _)); exact BK179.out) hb)
    have n3_ := Aside0.mk (blk_below (g := gb183) (o := .cells #[.int .u32 t180, .int .u32 t181, .int .i64 t182] 34 (0, 0)) (by (with_reducible repeat (first | refine blk_drewN ?_ _ | refine blk_drew ?_ | refine blk_alloc ?_ _)); exact BK183.out) hb)
    have n4_ := Aside0.mk (below_step (by repeat (first | (with_reducible first | exact HB.out | apply below_alloc | apply pw_below_drewN | apply below_drew1 | refine below_set ?_ GE179.out | refine below_set ?_ GE183.out) | exact HB.out)) hb)
    clear HO192
    clear BK179
    clear BK183
    clear HB
    have HO192 := n0_
    have HO198 := n1_
    have BK179 := n2_
    have BK183 := n3_
    have HB := n4_
    clear n0_ n1_ n2_ n3_ n4_
    clear hb ho22
    refine hK.out _ _ ⟨(blk_cell BK183.out 0).trans rfl, (blk_cell BK183.out 1).trans rfl, (blk_cell BK183.out 2).trans rfl⟩ (fun hHeld => ?_)
    clear hK K
    refine norm_ (a' := ?_) ?_ ?_
    rotate_left
    · show Act.put _ (some 51) _ = _
      simp only [Act.put, List.setIfInBounds_toArray, List.set_cons_zero, List.set_cons_succ, i64_w, i32_w]
      rfl
    refine pure_ (i := 11) (N := some 16) (v := ?_) (a' := ?_) #[true, true, true, true, true, true, true, true, true, true, true, true] rfl rfl (any_of HT_.out (by kernel_rfl)) (fun _ _ _ h => h) (Or.inl ⟨by rfl, ?_⟩) ?_ ?_
    rotate_left
    · intro w'
      go_simp
      with_reducible rfl
    rotate_left
    · simp only [Act.put, List.setIfInBounds_toArray, List.set_cons_zero, List.set_cons_succ, i64_w, i32_w]
      rfl
    refine done_ (done_of HT_.out (by kernel_rfl)) ?_
    try go_wp2
    go_loopg [16, 54] k (fun kq v16 v54 w' => ∃ (x16_1 : List (S49)) (x54_1 : Int), v54 = .int .i64 x54_1 ∧ Aside0 (tlb_Fill.l0 kq t190 x16_1 l0 (l0.length : Int) x54_1 t180 t181 t182 = some (r1, r2, r3, r4, r5)) ∧ Aside0 (kq ≤ k) ∧ Aside0 (Kd.R (Kd.int .u32) 23 w' w.heap.size (fun k_ => (w.heap.size ≤ k_)) (.slice Ao19 t190.length co19) t190) ∧ Aside0 (Kd.R k49 49 w' w.heap.size (fun k_ => (w.heap.size ≤ k_)) v16 x16_1) ∧ Aside0 (w'.heap[gb179]? = some (.cells #[.int .u32 0, .int .u32 0, .int .i64 0] 34 (0, 0))) ∧ Aside0 (w'.heap[gb183]? = some (.cells #[.int .u32 t180, .int .u32 t181, .int .i64 t182] 34 (0, 0))) ∧ Aside0 (Below w.heap.size w w'))
    case atStart => exact ⟨(y196), (0), (by first | rfl | (simp; done) | (simp [*]; done)), H', ⟨Nat.le_refl _⟩, ⟨by (with_reducible repeat (first | apply Kd.R_alloc | apply Kd.R_drewN | apply Kd.R_drew)); first | exact HO192.out | exact Kd.R_mono HO192.out (fun _ hk => hk.1)⟩, ⟨by (with_reducible repeat (first | apply Kd.R_alloc | apply Kd.R_drewN | apply Kd.R_drew)); first | exact HO198.out | exact Kd.R_mono HO198.out (fun _ hk => hk.1)⟩, ⟨by (with_reducible repeat (first | refine blk_drewN ?_ _ | refine blk_drew ?_ | refine blk_alloc ?_ _)); exact BK179.out⟩, ⟨by (with_reducible repeat (first | refine blk_drewN ?_ _ | refine blk_drew ?_ | refine blk_alloc ?_ _)); exact BK183.out⟩, ⟨by repeat (first | (with_reducible first | exact HB.out | apply below_alloc | apply pw_below_drewN | apply below_drew1 | refine below_set ?_ GE179.out | refine below_set ?_ GE183.out) | exact HB.out)⟩⟩
    case round =>
      clear H'
      try clear c1
      try clear c2
      try clear p2
      try clear c3
      try clear c4
      try clear c7
      try clear c7b0
      try clear c7b1
      try clear c10
      try clear c12
      try clear c13
      try clear c15
      try clear hcz16_0
      try clear hcz16_1
      try clear hcz16_2
      try clear hcz18_0
      try clear hcz18_1
      try clear hcz18_2
      try clear hfz16_0
      try clear hfz16_1
      try clear hfz16_2
      try clear hfz18_0
      try clear hfz18_1
      try clear hfz18_2
      obtain ⟨x16_1, x54_1, rfl, HA, HK1, HO_14, HO_16, BK179, BK183, HB⟩ := hrel
      cases gk with
      | zero => exact absurd HA.out (by simp [tlb_Fill.l0])
      | succ k1 =>
        have H := HA.out
        clear HA
        simp only [tlb_Fill.l0] at H
        by_cases c23 : x54_1 < (l0.length : Int)
        · rw [if_pos c23] at H
          have c23b0 : decide (x54_1 < (l0.length : Int)) = true := decide_eq_true c23
          clear c23
          by_cases c24 : 0 ≤ x54_1
          · rw [if_pos c24] at H
            have c24b0 : decide (0 ≤ x54_1) = true := decide_eq_true c24
            clear c24
            by_cases c25 : x54_1 < (l0.length : Int)
            · rw [if_pos c25] at H
              have c25b0 : decide (x54_1 < (l0.length : Int)) = true := decide_eq_true c25
              clear c25
              by_cases c26 : 0 < (x16_1.length : Int)
              · rw [if_pos c26] at H
                have c26b0 : decide (0 < (x16_1.length : Int)) = true := decide_eq_true c26
                have c26b1 : decide (0 < x16_1.length) = true := decide_eq_true (by omega)
                clear c26
                by_cases c27 : ((rd_T49 l0 x54_1).f0) = ((rd_T49 x16_1 0).f0)
                · rw [if_pos c27] at H
                  have c27b0 : (((rd_T49 l0 x54_1).f0) == ((rd_T49 x16_1 0).f0)) = true := beq_iff_eq.mpr c27
                  have c27b1 : (((rd_T49 l0 x54_1).f0) != ((rd_T49 x16_1 0).f0)) = false := bne_eq_false_iff_eq.mpr c27
                  clear c27
                  have H' := Aside0.mk H
                  clear H
                  have p199 : 0 ≤ (x54_1 : Int) := of_decide_eq_true (by first | (with_reducible assumption) | assumption)
                  have q199 : x54_1 < (l0.length : Int) := of_decide_eq_true (by first | (with_reducible assumption) | assumption)
                  obtain ⟨ad199, e199, hx199_0, hx199_1, hx199_2, hx199_3⟩ := at_T49 HR0.out x54_1 p199 q199
                  cases e199
                  replace hx199_0 := (HB.out.cell (World.block_lt_of_cell? w _ hx199_0)).trans hx199_0
                  replace hx199_1 := (HB.out.cell (World.block_lt_of_cell? w _ hx199_1)).trans hx199_1
                  replace hx199_2 := (HB.out.cell (World.block_lt_of_cell? w _ hx199_2)).trans hx199_2
                  replace hx199_3 := (HB.out.cell (World.block_lt_of_cell? w _ hx199_3)).trans hx199_3
                  replace p199 := eq_true p199
                  replace q199 := eq_true q199
                  try go_wp2_with (first | ((with_reducible refine gate_dst (N := 18) rfl ?_); refine box_event ?hg (N := 18) ?hd (cs := #[.int .u32 0, .int .u32 0, .bool false, .bool false]) (t := 49) ?hr ?_; (case hd => rfl); (case hg => rfl); (case hr => first | (go_simp; done) | (go_simp; rfl)); intro gb200 hg w28 hbox hb; have n0_ := Aside0.mk (Kd.R_below (by (with_reducible repeat (first | apply Kd.R_alloc | apply Kd.R_drewN | apply Kd.R_drew)); exact HO_14.out) hb); have n1_ := Aside0.mk (Kd.R_below (Kd.R_elderB (by (with_reducible repeat (first | apply Kd.R_alloc | apply Kd.R_drewN | apply Kd.R_drew)); exact HO_16.out) gb200 (Nat.le_of_eq hg.symm)) hb); have n2_ := Aside0.mk (blk_below (g := gb179) (o := .cells #[.int .u32 0, .int .u32 0, .int .i64 0] 34 (0, 0)) (by (with_reducible repeat (first | refine blk_drewN ?_ _ | refine blk_drew ?_ | refine blk_alloc ?_ _)); exact BK179.out) hb); have n3_ := Aside0.mk (blk_below (g := gb183) (o := .cells #[.int .u32 t180, .int .u32 t181, .int .i64 t182] 34 (0, 0)) (by (with_reducible repeat (first | refine blk_drewN ?_ _ | refine blk_drew ?_ | refine blk_alloc ?_ _)); exact BK183.out) hb); have n4_ := Aside0.mk (below_step (by repeat (first | (with_reducible first | exact HB.out | apply below_alloc | apply pw_below_drewN | apply below_drew1 | refine below_set ?_ GE179.out | refine below_set ?_ GE183.out) | exact HB.out)) hb); have n5_ := Aside0.mk (hbox); have n6_ := Aside0.mk ((by rw [hg]; exact (below_size (by repeat (first | (with_reducible first | exact HB.out | apply below_alloc | apply pw_below_drewN | apply below_drew1 | refine below_set ?_ GE179.out | refine below_set ?_ GE183.out) | exact HB.out))) : w.heap.size ≤ gb200)); have n7_ := Aside0.mk ((by rw [hg]; exact (below_size (by repeat (first | (with_reducible first | exact HB.out | apply below_alloc | apply pw_below_drewN | apply below_drew1 | refine below_set ?_ GE179.out | refine below_set ?_ GE183.out) | exact HB.out))) : w.heap.size ≤ gb200)); have n8_ := Aside0.mk ((by rw [hg]; exact Nat.ne_of_lt (blk_lt (g := gb179) (o := .cells #[.int .u32 0, .int .u32 0, .int .i64 0] 34 (0, 0)) (by (with_reducible repeat (first | refine blk_drewN ?_ _ | refine blk_drew ?_ | refine blk_alloc ?_ _)); exact BK179.out)) : gb179 ≠ gb200)); have n9_ := Aside0.mk ((by rw [hg]; exact Nat.ne_of_gt (blk_lt (g := gb179) (o := .cells #[.int .u32 0, .int .u32 0, .int .i64 0] 34 (0, 0)) (by (with_reducible repeat (first | refine blk_drewN ?_ _ | refine blk_drew ?_ | refine blk_alloc ?_ _)); exact BK179.out)) : gb200 ≠ gb179)); have n10_ := Aside0.mk ((by rw [hg]; exact Nat.ne_of_lt (blk_lt (g := gb183) (o := .cells #[.int .u32 t180, .int .u32 t181, .int .i64 t182] 34 (0, 0)) (by (with_reducible repeat (first | refine blk_drewN ?_ _ | refine blk_drew ?_ | refine blk_alloc ?_ _)); exact BK183.out)) : gb183 ≠ gb200)); have n11_ := Aside0.mk ((by rw [hg]; exact Nat.ne_of_gt (blk_lt (g := gb183) (o := .cells #[.int .u32 t180, .int .u32 t181, .int .i64 t182] 34 (0, 0)) (by (with_reducible repeat (first | refine blk_drewN ?_ _ | refine blk_drew ?_ | refine blk_alloc ?_ _)); exact BK183.out)) : gb200 ≠ gb183)); clear HO_14; clear HO_16; clear BK179; clear BK183; clear HB; have HO_14 := n0_; have HO_16 := n1_; have BK179 := n2_; have BK183 := n3_; have HB := n4_; have BK200 := n5_; have GW200 := n6_; have GE200 := n7_; have NB179_200 := n8_; have NB200_179 := n9_; have NB183_200 := n10_; have NB200_183 := n11_; clear n0_ n1_ n2_ n3_ n4_ n5_ n6_ n7_ n8_ n9_ n10_ n11_; clear hb hbox hg; have hnb29 := NB200_179.out; have hnc29 := NB179_200.out; have hnb30 := NB200_183.out; have hnc30 := NB183_200.out; have hcz31_0 : w28.cell? ⟨gb200, 0, none⟩ = some (.int .u32 0) := (blk_cell BK200.out 0).trans rfl; have hcz31_1 : w28.cell? ⟨gb200, 1, none⟩ = some (.int .u32 0) := (blk_cell BK200.out 1).trans rfl; have hcz31_2 : w28.cell? ⟨gb200, 2, none⟩ = some (.bool false) := (blk_cell BK200.out 2).trans rfl; have hcz31_3 : w28.cell? ⟨gb200, 3, none⟩ = some (.bool false) := (blk_cell BK200.out 3).trans rfl; have hfz31_0 := blk_frozen BK200.out 0; have hfz31_1 := blk_frozen BK200.out 1; have hfz31_2 := blk_frozen BK200.out 2; have hfz31_3 := blk_frozen BK200.out 3))
                  have n0_ : Aside0 (Kd.R (Kd.int .u32) 23 ((((w28.setCell ⟨gb200, 0, none⟩ (.int .u32 ((rd_T49 l0 x54_1).f0))).setCell ⟨gb200, 1, none⟩ (.int .u32 ((rd_T49 l0 x54_1).f1))).setCell ⟨gb200, 2, none⟩ (.bool ((rd_T49 l0 x54_1).f2))).setCell ⟨gb200, 3, none⟩ (.bool ((rd_T49 l0 x54_1).f3))) w.heap.size (fun k_ => (w.heap.size ≤ k_)) (.slice Ao19 t190.length co19) t190) := ⟨by (with_reducible repeat (first | apply Kd.R_alloc | apply Kd.R_drewN | apply Kd.R_drew)); exact Kd.R_mono (Kd.R_far (p := ⟨gb200, 3, none⟩) (Kd.R_far (p := ⟨gb200, 2, none⟩) (Kd.R_far (p := ⟨gb200, 1, none⟩) (Kd.R_far (p := ⟨gb200, 0, none⟩) (Kd.R_types HO_14.out BK200.out (by decide)) (fun _ hk => hk.2) (.int .u32 ((rd_T49 l0 x54_1).f0))) (fun _ hk => hk.2) (.int .u32 ((rd_T49 l0 x54_1).f1))) (fun _ hk => hk.2) (.bool ((rd_T49 l0 x54_1).f2))) (fun _ hk => hk.2) (.bool ((rd_T49 l0 x54_1).f3))) (fun _ hk => hk.1)⟩
                  have n1_ : Aside0 (Kd.R k49 49 ((((w28.setCell ⟨gb200, 0, none⟩ (.int .u32 ((rd_T49 l0 x54_1).f0))).setCell ⟨gb200, 1, none⟩ (.int .u32 ((rd_T49 l0 x54_1).f1))).setCell ⟨gb200, 2, none⟩ (.bool ((rd_T49 l0 x54_1).f2))).setCell ⟨gb200, 3, none⟩ (.bool ((rd_T49 l0 x54_1).f3))) w.heap.size (fun k_ => (w.heap.size ≤ k_) ∧ k_ ≠ gb200) u16 x16_1) := ⟨by (with_reducible repeat (first | apply Kd.R_alloc | apply Kd.R_drewN | apply Kd.R_drew)); exact Kd.R_mono (Kd.R_far (p := ⟨gb200, 3, none⟩) (Kd.R_far (p := ⟨gb200, 2, none⟩) (Kd.R_far (p := ⟨gb200, 1, none⟩) (Kd.R_far (p := ⟨gb200, 0, none⟩) (Kd.R_mono HO_16.out (fun k_ hk => (⟨hk, hk.2⟩ : _ ∧ k_ ≠ gb200))) (fun _ hk => hk.2) (.int .u32 ((rd_T49 l0 x54_1).f0))) (fun _ hk => hk.2) (.int .u32 ((rd_T49 l0 x54_1).f1))) (fun _ hk => hk.2) (.bool ((rd_T49 l0 x54_1).f2))) (fun _ hk => hk.2) (.bool ((rd_T49 l0 x54_1).f3))) (fun _ hk => ⟨hk.1.1, hk.1.2⟩)⟩
                  have n2_ : Aside0 (((((w28.setCell ⟨gb200, 0, none⟩ (.int .u32 ((rd_T49 l0 x54_1).f0))).setCell ⟨gb200, 1, none⟩ (.int .u32 ((rd_T49 l0 x54_1).f1))).setCell ⟨gb200, 2, none⟩ (.bool ((rd_T49 l0 x54_1).f2))).setCell ⟨gb200, 3, none⟩ (.bool ((rd_T49 l0 x54_1).f3))).heap[gb179]? = some (.cells #[.int .u32 0, .int .u32 0, .int .i64 0] 34 (0, 0))) := ⟨by (with_reducible repeat (first | refine blk_drewN ?_ _ | refine blk_drew ?_ | refine blk_alloc ?_ _)); refine blk_far ?_ NB179_200.out _; (with_reducible repeat (first | refine blk_drewN ?_ _ | refine blk_drew ?_ | refine blk_alloc ?_ _)); refine blk_far ?_ NB179_200.out _; (with_reducible repeat (first | refine blk_drewN ?_ _ | refine blk_drew ?_ | refine blk_alloc ?_ _)); refine blk_far ?_ NB179_200.out _; (with_reducible repeat (first | refine blk_drewN ?_ _ | refine blk_drew ?_ | refine blk_alloc ?_ _)); refine blk_far ?_ NB179_200.out _; (with_reducible repeat (first | refine blk_drewN ?_ _ | refine blk_drew ?_ | refine blk_alloc ?_ _)); exact BK179.out⟩
                  have n3_ : Aside0 (((((w28.setCell ⟨gb200, 0, none⟩ (.int .u32 ((rd_T49 l0 x54_1).f0))).setCell ⟨gb200, 1, none⟩ (.int .u32 ((rd_T49 l0 x54_1).f1))).setCell ⟨gb200, 2, none⟩ (.bool ((rd_T49 l0 x54_1).f2))).setCell ⟨gb200, 3, none⟩ (.bool ((rd_T49 l0 x54_1).f3))).heap[gb183]? = some (.cells #[.int .u32 t180, .int .u32 t181, .int .i64 t182] 34 (0, 0))) := ⟨by (with_reducible repeat (first | refine blk_drewN ?_ _ | refine blk_drew ?_ | refine blk_alloc ?_ _)); refine blk_far ?_ NB183_200.out _; (with_reducible repeat (first | refine blk_drewN ?_ _ | refine blk_drew ?_ | refine blk_alloc ?_ _)); refine blk_far ?_ NB183_200.out _; (with_reducible repeat (first | refine blk_drewN ?_ _ | refine blk_drew ?_ | refine blk_alloc ?_ _)); refine blk_far ?_ NB183_200.out _; (with_reducible repeat (first | refine blk_drewN ?_ _ | refine blk_drew ?_ | refine blk_alloc ?_ _)); refine blk_far ?_ NB183_200.out _; (with_reducible repeat (first | refine blk_drewN ?_ _ | refine blk_drew ?_ | refine blk_alloc ?_ _)); exact BK183.out⟩
                  have n4_ : Aside0 (((((w28.setCell ⟨gb200, 0, none⟩ (.int .u32 ((rd_T49 l0 x54_1).f0))).setCell ⟨gb200, 1, none⟩ (.int .u32 ((rd_T49 l0 x54_1).f1))).setCell ⟨gb200, 2, none⟩ (.bool ((rd_T49 l0 x54_1).f2))).setCell ⟨gb200, 3, none⟩ (.bool ((rd_T49 l0 x54_1).f3))).heap[gb200]? = some (.cells #[.int .u32 ((rd_T49 l0 x54_1).f0), .int .u32 ((rd_T49 l0 x54_1).f1), .bool ((rd_T49 l0 x54_1).f2), .bool ((rd_T49 l0 x54_1).f3)] 49 (0, 0))) := ⟨by (with_reducible repeat (first | refine blk_drewN ?_ _ | refine blk_drew ?_ | refine blk_alloc ?_ _)); refine blk_put (cs := #[.int .u32 ((rd_T49 l0 x54_1).f0), .int .u32 ((rd_T49 l0 x54_1).f1), .bool ((rd_T49 l0 x54_1).f2), .bool false]) ?_ 3 _ rfl; (with_reducible repeat (first | refine blk_drewN ?_ _ | refine blk_drew ?_ | refine blk_alloc ?_ _)); refine blk_put (cs := #[.int .u32 ((rd_T49 l0 x54_1).f0), .int .u32 ((rd_T49 l0 x54_1).f1), .bool false, .bool false]) ?_ 2 _ rfl; (with_reducible repeat (first | refine blk_drewN ?_ _ | refine blk_drew ?_ | refine blk_alloc ?_ _)); refine blk_put (cs := #[.int .u32 ((rd_T49 l0 x54_1).f0), .int .u32 0, .bool false, .bool false]) ?_ 1 _ rfl; (with_reducible repeat (first | refine blk_drewN ?_ _ | refine blk_drew ?_ | refine blk_alloc ?_ _)); refine blk_put (cs := #[.int .u32 0, .int .u32 0, .bool false, .bool false]) ?_ 0 _ rfl; (with_reducible repeat (first | refine blk_drewN ?_ _ | refine blk_drew ?_ | refine blk_alloc ?_ _)); exact BK200.out⟩
                  have n5_ : Aside0 (Below w.heap.size w ((((w28.setCell ⟨gb200, 0, none⟩ (.int .u32 ((rd_T49 l0 x54_1).f0))).setCell ⟨gb200, 1, none⟩ (.int .u32 ((rd_T49 l0 x54_1).f1))).setCell ⟨gb200, 2, none⟩ (.bool ((rd_T49 l0 x54_1).f2))).setCell ⟨gb200, 3, none⟩ (.bool ((rd_T49 l0 x54_1).f3)))) := ⟨by repeat (first | (with_reducible first | exact HB.out | apply below_alloc | apply pw_below_drewN | apply below_drew1 | refine below_set ?_ GE179.out | refine below_set ?_ GE183.out | refine below_set ?_ GE200.out) | exact HB.out)⟩
                  (try clear HO_14)
                  (try clear HO_16)
                  (try clear BK179)
                  (try clear BK183)
                  (try clear BK200)
                  (try clear HB)
                  generalize ((((w28.setCell ⟨gb200, 0, none⟩ (.int .u32 ((rd_T49 l0 x54_1).f0))).setCell ⟨gb200, 1, none⟩ (.int .u32 ((rd_T49 l0 x54_1).f1))).setCell ⟨gb200, 2, none⟩ (.bool ((rd_T49 l0 x54_1).f2))).setCell ⟨gb200, 3, none⟩ (.bool ((rd_T49 l0 x54_1).f3))) = w32 at n0_ n1_ n2_ n3_ n4_ n5_ ⊢
                  have HO_14 := n0_
                  have HO_16 := n1_
                  have BK179 := n2_
                  have BK183 := n3_
                  have BK200 := n4_
                  have HB := n5_
                  clear n0_ n1_ n2_ n3_ n4_ n5_
                  have n0_ := Aside0.mk (Kd.R_drew HO_14.out)
                  have n1_ := Aside0.mk (Kd.R_drew HO_16.out)
                  have n2_ := Aside0.mk (blk_drew BK179.out)
                  have n3_ := Aside0.mk (blk_drew BK183.out)
                  have n4_ := Aside0.mk (blk_drew BK200.out)
                  have n5_ := Aside0.mk (below_drew1 HB.out)
                  clear HO_14
                  clear HO_16
                  clear BK179
                  clear BK183
                  clear BK200
                  clear HB
                  have HO_14 := n0_
                  have HO_16 := n1_
                  have BK179 := n2_
                  have BK183 := n3_
                  have BK200 := n4_
                  have HB := n5_
                  clear n0_ n1_ n2_ n3_ n4_ n5_
                  obtain ⟨Ao34, co34, eo34⟩ := Kd.R_slice HO_16.out
                  (first | subst eo34 | (injection eo34 with f1_ f2_ f3_; have f4_ := f1_.symm; have f5_ := f3_.symm; clear f1_ f2_ f3_; subst f4_; subst f5_))
                  have p201 : 0 ≤ (0 : Int) := (by omega)
                  have q201 : 0 < (x16_1.length : Int) := of_decide_eq_true (by first | (with_reducible assumption) | assumption)
                  obtain ⟨ad201, e201, hx201_0, hx201_1, hx201_2, hx201_3⟩ := at_T49 (Kd.R_reads' HO_16.out).2.2 0 p201 q201
                  cases e201
                  have qi201 : (0 < x16_1.length) = True := eq_true (by omega)
                  (try rw [show ((0 : Int)).toNat = 0 from rfl] at hx201_0)
                  (try rw [show 0 * 4 = 0 from rfl] at hx201_0)
                  (try rw [Addr.add_zero'] at hx201_0)
                  (try rw [show ((0 : Int)).toNat = 0 from rfl] at hx201_1)
                  (try rw [show 0 * 4 = 0 from rfl] at hx201_1)
                  (try rw [Addr.add_zero'] at hx201_1)
                  (try rw [show ((0 : Int)).toNat = 0 from rfl] at hx201_2)
                  (try rw [show 0 * 4 = 0 from rfl] at hx201_2)
                  (try rw [Addr.add_zero'] at hx201_2)
                  (try rw [show ((0 : Int)).toNat = 0 from rfl] at hx201_3)
                  (try rw [show 0 * 4 = 0 from rfl] at hx201_3)
                  (try rw [Addr.add_zero'] at hx201_3)
                  replace p201 := eq_true p201
                  replace q201 := eq_true q201
                  refine start_ (n := 7) (S := fun w' => w'.cell? ⟨gb200, 0, none⟩ = some (.int .u32 ((rd_T49 l0 x54_1).f0)) ∧ w'.cell? ⟨gb200, 1, none⟩ = some (.int .u32 ((rd_T49 l0 x54_1).f1)) ∧ w'.cell? ⟨gb200, 2, none⟩ = some (.bool ((rd_T49 l0 x54_1).f2)) ∧ w'.cell? ⟨gb200, 3, none⟩ = some (.bool ((rd_T49 l0 x54_1).f3)) ∧ w'.cell? ad201 = some (.int .u32 ((rd_T49 x16_1 0).f0)) ∧ w'.cell? ⟨ad201.block, ad201.off + 1, none⟩ = some (.int .u32 ((rd_T49 x16_1 0).f1)) ∧ w'.cell? ⟨ad201.block, ad201.off + 2, none⟩ = some (.bool ((rd_T49 x16_1 0).f2)) ∧ w'.cell? ⟨ad201.block, ad201.off + 3, none⟩ = some (.bool ((rd_T49 x16_1 0).f3))) (ds := []) #[false, false, false, false, false, false, false] (by kernel_rfl) rfl rfl ⟨(blk_cell BK200.out 0).trans rfl, (blk_cell BK200.out 1).trans rfl, (blk_cell BK200.out 2).trans rfl, (blk_cell BK200.out 3).trans rfl, hx201_0, hx201_1, hx201_2, hx201_3⟩ (fun hHeld => ?_)
                  generalize w32.drew = w33 at HO_14 HO_16 BK179 BK183 BK200 HB hx201_0 hx201_1 hx201_2 hx201_3 hHeld ⊢
                  refine pure_ (i := 0) (N := some 58) (v := ?_) (a' := ?_) #[true, false, false, false, false, false, false] rfl rfl (by kernel_rfl) (fun _ _ _ h => h) (Or.inl ⟨by rfl, ?_⟩) ?_ ?_
                  rotate_left
                  · intro w'
                    go_simp
                    with_reducible rfl
                  rotate_left
                  · simp only [Act.put, List.setIfInBounds_toArray, List.set_cons_zero, List.set_cons_succ, i64_w, i32_w]
                    rfl
                  refine pure_ (i := 2) (N := some 60) (v := ?_) (a' := ?_) #[true, false, true, false, false, false, false] rfl rfl (by kernel_rfl) (fun _ _ _ h => h) (Or.inl ⟨by rfl, ?_⟩) ?_ ?_
                  rotate_left
                  · intro w'
                    go_simp
                    with_reducible rfl
                  rotate_left
                  · simp only [Act.put, List.setIfInBounds_toArray, List.set_cons_zero, List.set_cons_succ, i64_w, i32_w]
                    rfl
                  refine pure_ (i := 3) (N := some 61) (v := ?_) (a' := ?_) #[true, false, true, true, false, false, false] rfl rfl (by kernel_rfl) (fun _ _ _ h => h) (Or.inl ⟨by rfl, ?_⟩) ?_ ?_
                  rotate_left
                  · intro w'
                    go_simp
                    with_reducible rfl
                  rotate_left
                  · simp only [Act.put, List.setIfInBounds_toArray, List.set_cons_zero, List.set_cons_succ, i64_w, i32_w]
                    rfl
                  refine pure_ (i := 4) (N := some 62) (v := ?_) (a' := ?_) #[true, false, true, true, true, false, false] rfl rfl (by kernel_rfl) (fun _ _ _ h => h) (Or.inl ⟨by rfl, ?_⟩) ?_ ?_
                  rotate_left
                  · intro w'
                    go_simp
                    with_reducible rfl
                  rotate_left
                  · simp only [Act.put, List.setIfInBounds_toArray, List.set_cons_zero, List.set_cons_succ, i64_w, i32_w]
                    rfl
                  refine take_ (i := 1) (N := some 59) (v := ?_) (a' := ?_) #[true, true, true, true, true, false, false] rfl rfl (by kernel_rfl) (fun _ _ _ h => h) (Or.inl ⟨by rfl, ?_⟩) hHeld ?_ ?_
                  rotate_left
                  · rintro w' ⟨s0, s1, s2, s3, s4, s5, s6, s7⟩
                    go_simp
                    with_reducible rfl
                  rotate_left
                  · simp only [Act.put, List.setIfInBounds_toArray, List.set_cons_zero, List.set_cons_succ, i64_w, i32_w]
                    rfl
                  refine take_ (i := 5) (N := some 63) (v := ?_) (a' := ?_) #[true, true, true, true, true, true, false] rfl rfl (by kernel_rfl) (fun _ _ _ h => h) (Or.inl ⟨by rfl, ?_⟩) hHeld ?_ ?_
                  rotate_left
                  · rintro w' ⟨s0, s1, s2, s3, s4, s5, s6, s7⟩
                    go_simp
                    with_reducible rfl
                  rotate_left
                  · simp only [Act.put, List.setIfInBounds_toArray, List.set_cons_zero, List.set_cons_succ, i64_w, i32_w]
                    rfl
                  refine pure_ (i := 6) (N := some 64) (v := ?_) (a' := ?_) #[true, true, true, true, true, true, true] rfl rfl (by kernel_rfl) (fun _ _ _ h => h) (Or.inl ⟨by rfl, ?_⟩) ?_ ?_
                  rotate_left
                  · intro w'
                    go_simp
                    with_reducible rfl
                  rotate_left
                  · simp only [Act.put, List.setIfInBounds_toArray, List.set_cons_zero, List.set_cons_succ, i64_w, i32_w]
                    rfl
                  refine done_ (by kernel_rfl) ?_
                  try go_wp2
                  go_roundg k1
                  case measure => have := HK1.out; omega
                  case rel => exact ⟨(x16_1), (wrap64 (x54_1 + 1)), (by first | rfl | (simp; done) | (simp [*]; done)), H', ⟨by have := HK1.out; omega⟩, ⟨by (with_reducible repeat (first | apply Kd.R_alloc | apply Kd.R_drewN | apply Kd.R_drew)); exact HO_14.out⟩, ⟨by (with_reducible repeat (first | apply Kd.R_alloc | apply Kd.R_drewN | apply Kd.R_drew)); first | exact HO_16.out | exact Kd.R_mono HO_16.out (fun _ hk => hk.1)⟩, ⟨by (with_reducible repeat (first | refine blk_drewN ?_ _ | refine blk_drew ?_ | refine blk_alloc ?_ _)); exact BK179.out⟩, ⟨by (with_reducible repeat (first | refine blk_drewN ?_ _ | refine blk_drew ?_ | refine blk_alloc ?_ _)); exact BK183.out⟩, ⟨by repeat (first | (with_reducible first | exact HB.out | apply below_alloc | apply pw_below_drewN | apply below_drew1 | refine below_set ?_ GE179.out | refine below_set ?_ GE183.out | refine below_set ?_ GE200.out) | exact HB.out)⟩⟩
                · rw [if_neg c27] at H
                  have c27b0 : (((rd_T49 l0 x54_1).f0) == ((rd_T49 x16_1 0).f0)) = false := beq_eq_false_iff_ne.mpr c27
                  have c27b1 : (((rd_T49 l0 x54_1).f0) != ((rd_T49 x16_1 0).f0)) = true := bne_iff_ne.mpr c27
                  by_cases c35 : x16_1.length < 11728124029610
                  · rw [if_pos c35] at H
                    have LMc35 := Aside0.mk c35
                    clear c35
                    obtain ⟨y202, hy202⟩ : ∃ y_ : List (S49), y_ = (x16_1 ++ [(⟨(rd_T49 l0 x54_1).f0, (rd_T49 l0 x54_1).f1, (rd_T49 l0 x54_1).f2, (rd_T49 l0 x54_1).f3⟩ : S49)]) := ⟨_, rfl⟩
                    replace H : (tlb_Fill.l0 k1 t190 y202 l0 (l0.length : Int) (wrap64 (x54_1 + 1)) t180 t181 t182) = some (r1, r2, r3, r4, r5) := by first | (rw [hy202]; with_reducible exact H) | (have H2_ := (Option.bind_some _ _).symm.trans H; rw [hy202]; with_reducible exact H2_) | (have H2_ := (Option.bind_some _ _).symm.trans H; with_reducible exact H2_) | with_reducible exact H | (rw [hy202]; exact H) | exact H
                    have Ny202 := Aside0.mk hy202
                    clear hy202
                    have H' := Aside0.mk H
                    clear H
                    have p199 : 0 ≤ (x54_1 : Int) := of_decide_eq_true (by first | (with_reducible assumption) | assumption)
                    have q199 : x54_1 < (l0.length : Int) := of_decide_eq_true (by first | (with_reducible assumption) | assumption)
                    obtain ⟨ad199, e199, hx199_0, hx199_1, hx199_2, hx199_3⟩ := at_T49 HR0.out x54_1 p199 q199
                    cases e199
                    replace hx199_0 := (HB.out.cell (World.block_lt_of_cell? w _ hx199_0)).trans hx199_0
                    replace hx199_1 := (HB.out.cell (World.block_lt_of_cell? w _ hx199_1)).trans hx199_1
                    replace hx199_2 := (HB.out.cell (World.block_lt_of_cell? w _ hx199_2)).trans hx199_2
                    replace hx199_3 := (HB.out.cell (World.block_lt_of_cell? w _ hx199_3)).trans hx199_3
                    replace p199 := eq_true p199
                    replace q199 := eq_true q199
                    try go_wp2_with (first | ((with_reducible refine gate_dst (N := 18) rfl ?_); refine box_event ?hg (N := 18) ?hd (cs := #[.int .u32 0, .int .u32 0, .bool false, .bool false]) (t := 49) ?hr ?_; (case hd => rfl); (case hg => rfl); (case hr => first | (go_simp; done) | (go_simp; rfl)); intro gb200 hg w36 hbox hb; have n0_ := Aside0.mk (Kd.R_below (by (with_reducible repeat (first | apply Kd.R_alloc | apply Kd.R_drewN | apply Kd.R_drew)); exact HO_14.out) hb); have n1_ := Aside0.mk (Kd.R_below (Kd.R_elderB (by (with_reducible repeat (first | apply Kd.R_alloc | apply Kd.R_drewN | apply Kd.R_drew)); exact HO_16.out) gb200 (Nat.le_of_eq hg.symm)) hb); have n2_ := Aside0.mk (blk_below (g := gb179) (o := .cells #[.int .u32 0, .int .u32 0, .int .i64 0] 34 (0, 0)) (by (with_reducible repeat (first | refine blk_drewN ?_ _ | refine blk_drew ?_ | refine blk_alloc ?_ _)); exact BK179.out) hb); have n3_ := Aside0.mk (blk_below (g := gb183) (o := .cells #[.int .u32 t180, .int .u32 t181, .int .i64 t182] 34 (0, 0)) (by (with_reducible repeat (first | refine blk_drewN ?_ _ | refine blk_drew ?_ | refine blk_alloc ?_ _)); exact BK183.out) hb); have n4_ := Aside0.mk (below_step (by repeat (first | (with_reducible first | exact HB.out | apply below_alloc | apply pw_below_drewN | apply below_drew1 | refine below_set ?_ GE179.out | refine below_set ?_ GE183.out) | exact HB.out)) hb); have n5_ := Aside0.mk (hbox); have n6_ := Aside0.mk ((by rw [hg]; exact (below_size (by repeat (first | (with_reducible first | exact HB.out | apply below_alloc | apply pw_below_drewN | apply below_drew1 | refine below_set ?_ GE179.out | refine below_set ?_ GE183.out) | exact HB.out))) : w.heap.size ≤ gb200)); have n7_ := Aside0.mk ((by rw [hg]; exact (below_size (by repeat (first | (with_reducible first | exact HB.out | apply below_alloc | apply pw_below_drewN | apply below_drew1 | refine below_set ?_ GE179.out | refine below_set ?_ GE183.out) | exact HB.out))) : w.heap.size ≤ gb200)); have n8_ := Aside0.mk ((by rw [hg]; exact Nat.ne_of_lt (blk_lt (g := gb179) (o := .cells #[.int .u32 0, .int .u32 0, .int .i64 0] 34 (0, 0)) (by (with_reducible repeat (first | refine blk_drewN ?_ _ | refine blk_drew ?_ | refine blk_alloc ?_ _)); exact BK179.out)) : gb179 ≠ gb200)); have n9_ := Aside0.mk ((by rw [hg]; exact Nat.ne_of_gt (blk_lt (g := gb179) (o := .cells #[.int .u32 0, .int .u32 0, .int .i64 0] 34 (0, 0)) (by (with_reducible repeat (first | refine blk_drewN ?_ _ | refine blk_drew ?_ | refine blk_alloc ?_ _)); exact BK179.out)) : gb200 ≠ gb179)); have n10_ := Aside0.mk ((by rw [hg]; exact Nat.ne_of_lt (blk_lt (g := gb183) (o := .cells #[.int .u32 t180, .int .u32 t181, .int .i64 t182] 34 (0, 0)) (by (with_reducible repeat (first | refine blk_drewN ?_ _ | refine blk_drew ?_ | refine blk_alloc ?_ _)); exact BK183.out)) : gb183 ≠ gb200)); have n11_ := Aside0.mk ((by rw [hg]; exact Nat.ne_of_gt (blk_lt (g := gb183) (o := .cells #[.int .u32 t180, .int .u32 t181, .int .i64 t182] 34 (0, 0)) (by (with_reducible repeat (first | refine blk_drewN ?_ _ | refine blk_drew ?_ | refine blk_alloc ?_ _)); exact BK183.out)) : gb200 ≠ gb183)); clear HO_14; clear HO_16; clear BK179; clear BK183; clear HB; have HO_14 := n0_; have HO_16 := n1_; have BK179 := n2_; have BK183 := n3_; have HB := n4_; have BK200 := n5_; have GW200 := n6_; have GE200 := n7_; have NB179_200 := n8_; have NB200_179 := n9_; have NB183_200 := n10_; have NB200_183 := n11_; clear n0_ n1_ n2_ n3_ n4_ n5_ n6_ n7_ n8_ n9_ n10_ n11_; clear hb hbox hg; have hnb37 := NB200_179.out; have hnc37 := NB179_200.out; have hnb38 := NB200_183.out; have hnc38 := NB183_200.out; have hcz39_0 : w36.cell? ⟨gb200, 0, none⟩ = some (.int .u32 0) := (blk_cell BK200.out 0).trans rfl; have hcz39_1 : w36.cell? ⟨gb200, 1, none⟩ = some (.int .u32 0) := (blk_cell BK200.out 1).trans rfl; have hcz39_2 : w36.cell? ⟨gb200, 2, none⟩ = some (.bool false) := (blk_cell BK200.out 2).trans rfl; have hcz39_3 : w36.cell? ⟨gb200, 3, none⟩ = some (.bool false) := (blk_cell BK200.out 3).trans rfl; have hfz39_0 := blk_frozen BK200.out 0; have hfz39_1 := blk_frozen BK200.out 1; have hfz39_2 := blk_frozen BK200.out 2; have hfz39_3 := blk_frozen BK200.out 3))
                    have n0_ : Aside0 (Kd.R (Kd.int .u32) 23 ((((w36.setCell ⟨gb200, 0, none⟩ (.int .u32 ((rd_T49 l0 x54_1).f0))).setCell ⟨gb200, 1, none⟩ (.int .u32 ((rd_T49 l0 x54_1).f1))).setCell ⟨gb200, 2, none⟩ (.bool ((rd_T49 l0 x54_1).f2))).setCell ⟨gb200, 3, none⟩ (.bool ((rd_T49 l0 x54_1).f3))) w.heap.size (fun k_ => (w.heap.size ≤ k_)) (.slice Ao19 t190.length co19) t190) := ⟨by (with_reducible repeat (first | apply Kd.R_alloc | apply Kd.R_drewN | apply Kd.R_drew)); exact Kd.R_mono (Kd.R_far (p := ⟨gb200, 3, none⟩) (Kd.R_far (p := ⟨gb200, 2, none⟩) (Kd.R_far (p := ⟨gb200, 1, none⟩) (Kd.R_far (p := ⟨gb200, 0, none⟩) (Kd.R_types HO_14.out BK200.out (by decide)) (fun _ hk => hk.2) (.int .u32 ((rd_T49 l0 x54_1).f0))) (fun _ hk => hk.2) (.int .u32 ((rd_T49 l0 x54_1).f1))) (fun _ hk => hk.2) (.bool ((rd_T49 l0 x54_1).f2))) (fun _ hk => hk.2) (.bool ((rd_T49 l0 x54_1).f3))) (fun _ hk => hk.1)⟩
                    have n1_ : Aside0 (Kd.R k49 49 ((((w36.setCell ⟨gb200, 0, none⟩ (.int .u32 ((rd_T49 l0 x54_1).f0))).setCell ⟨gb200, 1, none⟩ (.int .u32 ((rd_T49 l0 x54_1).f1))).setCell ⟨gb200, 2, none⟩ (.bool ((rd_T49 l0 x54_1).f2))).setCell ⟨gb200, 3, none⟩ (.bool ((rd_T49 l0 x54_1).f3))) w.heap.size (fun k_ => (w.heap.size ≤ k_) ∧ k_ ≠ gb200) u16 x16_1) := ⟨by (with_reducible repeat (first | apply Kd.R_alloc | apply Kd.R_drewN | apply Kd.R_drew)); exact Kd.R_mono (Kd.R_far (p := ⟨gb200, 3, none⟩) (Kd.R_far (p := ⟨gb200, 2, none⟩) (Kd.R_far (p := ⟨gb200, 1, none⟩) (Kd.R_far (p := ⟨gb200, 0, none⟩) (Kd.R_mono HO_16.out (fun k_ hk => (⟨hk, hk.2⟩ : _ ∧ k_ ≠ gb200))) (fun _ hk => hk.2) (.int .u32 ((rd_T49 l0 x54_1).f0))) (fun _ hk => hk.2) (.int .u32 ((rd_T49 l0 x54_1).f1))) (fun _ hk => hk.2) (.bool ((rd_T49 l0 x54_1).f2))) (fun _ hk => hk.2) (.bool ((rd_T49 l0 x54_1).f3))) (fun _ hk => ⟨hk.1.1, hk.1.2⟩)⟩
                    have n2_ : Aside0 (((((w36.setCell ⟨gb200, 0, none⟩ (.int .u32 ((rd_T49 l0 x54_1).f0))).setCell ⟨gb200, 1, none⟩ (.int .u32 ((rd_T49 l0 x54_1).f1))).setCell ⟨gb200, 2, none⟩ (.bool ((rd_T49 l0 x54_1).f2))).setCell ⟨gb200, 3, none⟩ (.bool ((rd_T49 l0 x54_1).f3))).heap[gb179]? = some (.cells #[.int .u32 0, .int .u32 0, .int .i64 0] 34 (0, 0))) := ⟨by (with_reducible repeat (first | refine blk_drewN ?_ _ | refine blk_drew ?_ | refine blk_alloc ?_ _)); refine blk_far ?_ NB179_200.out _; (with_reducible repeat (first | refine blk_drewN ?_ _ | refine blk_drew ?_ | refine blk_alloc ?_ _)); refine blk_far ?_ NB179_200.out _; (with_reducible repeat (first | refine blk_drewN ?_ _ | refine blk_drew ?_ | refine blk_alloc ?_ _)); refine blk_far ?_ NB179_200.out _; (with_reducible repeat (first | refine blk_drewN ?_ _ | refine blk_drew ?_ | refine blk_alloc ?_ _)); refine blk_far ?_ NB179_200.out _; (with_reducible repeat (first | refine blk_drewN ?_ _ | refine blk_drew ?_ | refine blk_alloc ?_ _)); exact BK179.out⟩
                    have n3_ : Aside0 (((((w36.setCell ⟨gb200, 0, none⟩ (.int .u32 ((rd_T49 l0 x54_1).f0))).setCell ⟨gb200, 1, none⟩ (.int .u32 ((rd_T49 l0 x54_1).f1))).setCell ⟨gb200, 2, none⟩ (.bool ((rd_T49 l0 x54_1).f2))).setCell ⟨gb200, 3, none⟩ (.bool ((rd_T49 l0 x54_1).f3))).heap[gb183]? = some (.cells #[.int .u32 t180, .int .u32 t181, .int .i64 t182] 34 (0, 0))) := ⟨by (with_reducible repeat (first | refine blk_drewN ?_ _ | refine blk_drew ?_ | refine blk_alloc ?_ _)); refine blk_far ?_ NB183_200.out _; (with_reducible repeat (first | refine blk_drewN ?_ _ | refine blk_drew ?_ | refine blk_alloc ?_ _)); refine blk_far ?_ NB183_200.out _; (with_reducible repeat (first | refine blk_drewN ?_ _ | refine blk_drew ?_ | refine blk_alloc ?_ _)); refine blk_far ?_ NB183_200.out _; (with_reducible repeat (first | refine blk_drewN ?_ _ | refine blk_drew ?_ | refine blk_alloc ?_ _)); refine blk_far ?_ NB183_200.out _; (with_reducible repeat (first | refine blk_drewN ?_ _ | refine blk_drew ?_ | refine blk_alloc ?_ _)); exact BK183.out⟩
                    have n4_ : Aside0 (((((w36.setCell ⟨gb200, 0, none⟩ (.int .u32 ((rd_T49 l0 x54_1).f0))).setCell ⟨gb200, 1, none⟩ (.int .u32 ((rd_T49 l0 x54_1).f1))).setCell ⟨gb200, 2, none⟩ (.bool ((rd_T49 l0 x54_1).f2))).setCell ⟨gb200, 3, none⟩ (.bool ((rd_T49 l0 x54_1).f3))).heap[gb200]? = some (.cells #[.int .u32 ((rd_T49 l0 x54_1).f0), .int .u32 ((rd_T49 l0 x54_1).f1), .bool ((rd_T49 l0 x54_1).f2), .bool ((rd_T49 l0 x54_1).f3)] 49 (0, 0))) := ⟨by (with_reducible repeat (first | refine blk_drewN ?_ _ | refine blk_drew ?_ | refine blk_alloc ?_ _)); refine blk_put (cs := #[.int .u32 ((rd_T49 l0 x54_1).f0), .int .u32 ((rd_T49 l0 x54_1).f1), .bool ((rd_T49 l0 x54_1).f2), .bool false]) ?_ 3 _ rfl; (with_reducible repeat (first | refine blk_drewN ?_ _ | refine blk_drew ?_ | refine blk_alloc ?_ _)); refine blk_put (cs := #[.int .u32 ((rd_T49 l0 x54_1).f0), .int .u32 ((rd_T49 l0 x54_1).f1), .bool false, .bool false]) ?_ 2 _ rfl; (with_reducible repeat (first | refine blk_drewN ?_ _ | refine blk_drew ?_ | refine blk_alloc ?_ _)); refine blk_put (cs := #[.int .u32 ((rd_T49 l0 x54_1).f0), .int .u32 0, .bool false, .bool false]) ?_ 1 _ rfl; (with_reducible repeat (first | refine blk_drewN ?_ _ | refine blk_drew ?_ | refine blk_alloc ?_ _)); refine blk_put (cs := #[.int .u32 0, .int .u32 0, .bool false, .bool false]) ?_ 0 _ rfl; (with_reducible repeat (first | refine blk_drewN ?_ _ | refine blk_drew ?_ | refine blk_alloc ?_ _)); exact BK200.out⟩
                    have n5_ : Aside0 (Below w.heap.size w ((((w36.setCell ⟨gb200, 0, none⟩ (.int .u32 ((rd_T49 l0 x54_1).f0))).setCell ⟨gb200, 1, none⟩ (.int .u32 ((rd_T49 l0 x54_1).f1))).setCell ⟨gb200, 2, none⟩ (.bool ((rd_T49 l0 x54_1).f2))).setCell ⟨gb200, 3, none⟩ (.bool ((rd_T49 l0 x54_1).f3)))) := ⟨by repeat (first | (with_reducible first | exact HB.out | apply below_alloc | apply pw_below_drewN | apply below_drew1 | refine below_set ?_ GE179.out | refine below_set ?_ GE183.out | refine below_set ?_ GE200.out) | exact HB.out)⟩
                    (try clear HO_14)
                    (try clear HO_16)
                    (try clear BK179)
                    (try clear BK183)
                    (try clear BK200)
                    (try clear HB)
                    generalize ((((w36.setCell ⟨gb200, 0, none⟩ (.int .u32 ((rd_T49 l0 x54_1).f0))).setCell ⟨gb200, 1, none⟩ (.int .u32 ((rd_T49 l0 x54_1).f1))).setCell ⟨gb200, 2, none⟩ (.bool ((rd_T49 l0 x54_1).f2))).setCell ⟨gb200, 3, none⟩ (.bool ((rd_T49 l0 x54_1).f3))) = w40 at n0_ n1_ n2_ n3_ n4_ n5_ ⊢
                    have HO_14 := n0_
                    have HO_16 := n1_
                    have BK179 := n2_
                    have BK183 := n3_
                    have BK200 := n4_
                    have HB := n5_
                    clear n0_ n1_ n2_ n3_ n4_ n5_
                    have n0_ := Aside0.mk (Kd.R_drew HO_14.out)
                    have n1_ := Aside0.mk (Kd.R_drew HO_16.out)
                    have n2_ := Aside0.mk (blk_drew BK179.out)
                    have n3_ := Aside0.mk (blk_drew BK183.out)
                    have n4_ := Aside0.mk (blk_drew BK200.out)
                    have n5_ := Aside0.mk (below_drew1 HB.out)
                    clear HO_14
                    clear HO_16
                    clear BK179
                    clear BK183
                    clear BK200
                    clear HB
                    have HO_14 := n0_
                    have HO_16 := n1_
                    have BK179 := n2_
                    have BK183 := n3_
                    have BK200 := n4_
                    have HB := n5_
                    clear n0_ n1_ n2_ n3_ n4_ n5_
                    obtain ⟨Ao42, co42, eo42⟩ := Kd.R_slice HO_16.out
                    (first | subst eo42 | (injection eo42 with f1_ f2_ f3_; have f4_ := f1_.symm; have f5_ := f3_.symm; clear f1_ f2_ f3_; subst f4_; subst f5_))
                    have p201 : 0 ≤ (0 : Int) := (by omega)
                    have q201 : 0 < (x16_1.length : Int) := of_decide_eq_true (by first | (with_reducible assumption) | assumption)
                    obtain ⟨ad201, e201, hx201_0, hx201_1, hx201_2, hx201_3⟩ := at_T49 (Kd.R_reads' HO_16.out).2.2 0 p201 q201
                    cases e201
                    have qi201 : (0 < x16_1.length) = True := eq_true (by omega)
                    (try rw [show ((0 : Int)).toNat = 0 from rfl] at hx201_0)
                    (try rw [show 0 * 4 = 0 from rfl] at hx201_0)
                    (try rw [Addr.add_zero'] at hx201_0)
                    (try rw [show ((0 : Int)).toNat = 0 from rfl] at hx201_1)
                    (try rw [show 0 * 4 = 0 from rfl] at hx201_1)
                    (try rw [Addr.add_zero'] at hx201_1)
                    (try rw [show ((0 : Int)).toNat = 0 from rfl] at hx201_2)
                    (try rw [show 0 * 4 = 0 from rfl] at hx201_2)
                    (try rw [Addr.add_zero'] at hx201_2)
                    (try rw [show ((0 : Int)).toNat = 0 from rfl] at hx201_3)
                    (try rw [show 0 * 4 = 0 from rfl] at hx201_3)
                    (try rw [Addr.add_zero'] at hx201_3)
                    replace p201 := eq_true p201
                    replace q201 := eq_true q201
                    refine start_ (n := 7) (S := fun w' => w'.cell? ⟨gb200, 0, none⟩ = some (.int .u32 ((rd_T49 l0 x54_1).f0)) ∧ w'.cell? ⟨gb200, 1, none⟩ = some (.int .u32 ((rd_T49 l0 x54_1).f1)) ∧ w'.cell? ⟨gb200, 2, none⟩ = some (.bool ((rd_T49 l0 x54_1).f2)) ∧ w'.cell? ⟨gb200, 3, none⟩ = some (.bool ((rd_T49 l0 x54_1).f3)) ∧ w'.cell? ad201 = some (.int .u32 ((rd_T49 x16_1 0).f0)) ∧ w'.cell? ⟨ad201.block, ad201.off + 1, none⟩ = some (.int .u32 ((rd_T49 x16_1 0).f1)) ∧ w'.cell? ⟨ad201.block, ad201.off + 2, none⟩ = some (.bool ((rd_T49 x16_1 0).f2)) ∧ w'.cell? ⟨ad201.block, ad201.off + 3, none⟩ = some (.bool ((rd_T49 x16_1 0).f3))) (ds := []) #[false, false, false, false, false, false, false] (by kernel_rfl) rfl rfl ⟨(blk_cell BK200.out 0).trans rfl, (blk_cell BK200.out 1).trans rfl, (blk_cell BK200.out 2).trans rfl, (blk_cell BK200.out 3).trans rfl, hx201_0, hx201_1, hx201_2, hx201_3⟩ (fun hHeld => ?_)
                    generalize w40.drew = w41 at HO_14 HO_16 BK179 BK183 BK200 HB hx201_0 hx201_1 hx201_2 hx201_3 hHeld ⊢
                    refine pure_ (i := 0) (N := some 58) (v := ?_) (a' := ?_) #[true, false, false, false, false, false, false] rfl rfl (by kernel_rfl) (fun _ _ _ h => h) (Or.inl ⟨by rfl, ?_⟩) ?_ ?_
                    rotate_left
                    · intro w'
                      go_simp
                      with_reducible rfl
                    rotate_left
                    · simp only [Act.put, List.setIfInBounds_toArray, List.set_cons_zero, List.set_cons_succ, i64_w, i32_w]
                      rfl
                    refine pure_ (i := 2) (N := some 60) (v := ?_) (a' := ?_) #[true, false, true, false, false, false, false] rfl rfl (by kernel_rfl) (fun _ _ _ h => h) (Or.inl ⟨by rfl, ?_⟩) ?_ ?_
                    rotate_left
                    · intro w'
                      go_simp
                      with_reducible rfl
                    rotate_left
                    · simp only [Act.put, List.setIfInBounds_toArray, List.set_cons_zero, List.set_cons_succ, i64_w, i32_w]
                      rfl
                    refine pure_ (i := 3) (N := some 61) (v := ?_) (a' := ?_) #[true, false, true, true, false, false, false] rfl rfl (by kernel_rfl) (fun _ _ _ h => h) (Or.inl ⟨by rfl, ?_⟩) ?_ ?_
                    rotate_left
                    · intro w'
                      go_simp
                      with_reducible rfl
                    rotate_left
                    · simp only [Act.put, List.setIfInBounds_toArray, List.set_cons_zero, List.set_cons_succ, i64_w, i32_w]
                      rfl
                    refine pure_ (i := 4) (N := some 62) (v := ?_) (a' := ?_) #[true, false, true, true, true, false, false] rfl rfl (by kernel_rfl) (fun _ _ _ h => h) (Or.inl ⟨by rfl, ?_⟩) ?_ ?_
                    rotate_left
                    · intro w'
                      go_simp
                      with_reducible rfl
                    rotate_left
                    · simp only [Act.put, List.setIfInBounds_toArray, List.set_cons_zero, List.set_cons_succ, i64_w, i32_w]
                      rfl
                    refine take_ (i := 1) (N := some 59) (v := ?_) (a' := ?_) #[true, true, true, true, true, false, false] rfl rfl (by kernel_rfl) (fun _ _ _ h => h) (Or.inl ⟨by rfl, ?_⟩) hHeld ?_ ?_
                    rotate_left
                    · rintro w' ⟨s0, s1, s2, s3, s4, s5, s6, s7⟩
                      go_simp
                      with_reducible rfl
                    rotate_left
                    · simp only [Act.put, List.setIfInBounds_toArray, List.set_cons_zero, List.set_cons_succ, i64_w, i32_w]
                      rfl
                    refine take_ (i := 5) (N := some 63) (v := ?_) (a' := ?_) #[true, true, true, true, true, true, false] rfl rfl (by kernel_rfl) (fun _ _ _ h => h) (Or.inl ⟨by rfl, ?_⟩) hHeld ?_ ?_
                    rotate_left
                    · rintro w' ⟨s0, s1, s2, s3, s4, s5, s6, s7⟩
                      go_simp
                      with_reducible rfl
                    rotate_left
                    · simp only [Act.put, List.setIfInBounds_toArray, List.set_cons_zero, List.set_cons_succ, i64_w, i32_w]
                      rfl
                    refine pure_ (i := 6) (N := some 64) (v := ?_) (a' := ?_) #[true, true, true, true, true, true, true] rfl rfl (by kernel_rfl) (fun _ _ _ h => h) (Or.inl ⟨by rfl, ?_⟩) ?_ ?_
                    rotate_left
                    · intro w'
                      go_simp
                      with_reducible rfl
                    rotate_left
                    · simp only [Act.put, List.setIfInBounds_toArray, List.set_cons_zero, List.set_cons_succ, i64_w, i32_w]
                      rfl
                    refine done_ (by kernel_rfl) ?_
                    have hcz43_0 : w41.cell? ⟨gb200, 0, none⟩ = some (.int .u32 ((rd_T49 l0 x54_1).f0)) := (blk_cell BK200.out 0).trans rfl
                    have hcz43_1 : w41.cell? ⟨gb200, 1, none⟩ = some (.int .u32 ((rd_T49 l0 x54_1).f1)) := (blk_cell BK200.out 1).trans rfl
                    have hcz43_2 : w41.cell? ⟨gb200, 2, none⟩ = some (.bool ((rd_T49 l0 x54_1).f2)) := (blk_cell BK200.out 2).trans rfl
                    have hcz43_3 : w41.cell? ⟨gb200, 3, none⟩ = some (.bool ((rd_T49 l0 x54_1).f3)) := (blk_cell BK200.out 3).trans rfl
                    have hfz43_0 := blk_frozen BK200.out 0
                    have hfz43_1 := blk_frozen BK200.out 1
                    have hfz43_2 := blk_frozen BK200.out 2
                    have hfz43_3 := blk_frozen BK200.out 3
                    try go_wp2_with (first | ((with_reducible refine gate_builtin (b := .append) (xs := #[.tmp 65, .tmp 67]) rfl ?_); at_builtin; refine Kd.R_append k49 (w0 := w) w.heap.size rfl (.tmp 65) (.tmp 67) 28 49 (.agg #[(.int .u32 0), (.int .u32 0), (.bool false), (.bool false)]) 12 rfl Try.underlying28 info49 rfl (by decide) (by omega) (.slice (some ad201) x16_1.length co42) x16_1 (⟨(rd_T49 l0 x54_1).f0, (rd_T49 l0 x54_1).f1, (rd_T49 l0 x54_1).f2, (rd_T49 l0 x54_1).f3⟩ : S49) [.int .u32 ((rd_T49 l0 x54_1).f0), .int .u32 ((rd_T49 l0 x54_1).f1), .bool ((rd_T49 l0 x54_1).f2), .bool ((rd_T49 l0 x54_1).f3)] (fun k_ => (w.heap.size ≤ k_) ∧ k_ ≠ gb200) (fun _ => False) rfl rfl ?aP (fun _ hk => hk.elim) ?aF ?aO ?aB ?aS ?aL ?_; (case aP => exact k49_mkM _ _ _ (⟨(rd_T49 l0 x54_1).f0, (rd_T49 l0 x54_1).f1, (rd_T49 l0 x54_1).f2, (rd_T49 l0 x54_1).f3⟩ : S49)); (case aB => exact (by repeat (first | (with_reducible first | exact HB.out | apply below_alloc | apply pw_below_drewN | apply below_drew1 | refine below_set ?_ GE179.out | refine below_set ?_ GE183.out | refine below_set ?_ GE200.out) | exact HB.out))); (case aF => exact (fun k_ hk => ⟨(Nat.le_trans (below_size (by repeat (first | (with_reducible first | exact HB.out | apply below_alloc | apply pw_below_drewN | apply below_drew1 | refine below_set ?_ GE179.out | refine below_set ?_ GE183.out | refine below_set ?_ GE200.out) | exact HB.out))) hk), Kd.freshB (g := gb200) (o := .cells #[.int .u32 ((rd_T49 l0 x54_1).f0), .int .u32 ((rd_T49 l0 x54_1).f1), .bool ((rd_T49 l0 x54_1).f2), .bool ((rd_T49 l0 x54_1).f3)] 49 (0, 0)) (by (with_reducible repeat (first | refine blk_drewN ?_ _ | refine blk_drew ?_ | refine blk_alloc ?_ _)); exact BK200.out) k_ hk⟩)); (case aO => exact (by (with_reducible repeat (first | apply Kd.R_alloc | apply Kd.R_drewN | apply Kd.R_drew)); exact HO_16.out)); (case aS => exact (below_size (by repeat (first | (with_reducible first | exact HB.out | apply below_alloc | apply pw_below_drewN | apply below_drew1 | refine below_set ?_ GE179.out | refine below_set ?_ GE183.out | refine below_set ?_ GE200.out) | exact HB.out)))); (case aL => have := LMc35.out; omega); intro v203 w44 ho hb hg hat; rw [← Ny202.out] at ho; have n0_ := Aside0.mk (Kd.R_over' (by (with_reducible repeat (first | apply Kd.R_alloc | apply Kd.R_drewN | apply Kd.R_drew)); exact HO_14.out) (Kd.R_typed (by (with_reducible repeat (first | apply Kd.R_alloc | apply Kd.R_drewN | apply Kd.R_drew)); exact HO_16.out)) (by decide) hg); have n1_ := Aside0.mk (blk_grown (g := gb179) (o := .cells #[.int .u32 0, .int .u32 0, .int .i64 0] 34 (0, 0)) (by (with_reducible repeat (first | refine blk_drewN ?_ _ | refine blk_drew ?_ | refine blk_alloc ?_ _)); exact BK179.out) hg (Kd.R_ne HO_16.out BK179.out (by decide))); have n2_ := Aside0.mk (blk_grown (g := gb183) (o := .cells #[.int .u32 t180, .int .u32 t181, .int .i64 t182] 34 (0, 0)) (by (with_reducible repeat (first | refine blk_drewN ?_ _ | refine blk_drew ?_ | refine blk_alloc ?_ _)); exact BK183.out) hg (Kd.R_ne HO_16.out BK183.out (by decide))); have n3_ := Aside0.mk (blk_grown (g := gb200) (o := .cells #[.int .u32 ((rd_T49 l0 x54_1).f0), .int .u32 ((rd_T49 l0 x54_1).f1), .bool ((rd_T49 l0 x54_1).f2), .bool ((rd_T49 l0 x54_1).f3)] 49 (0, 0)) (by (with_reducible repeat (first | refine blk_drewN ?_ _ | refine blk_drew ?_ | refine blk_alloc ?_ _)); exact BK200.out) hg (Kd.R_away HO_16.out (fun _ hk => hk.2))); have n4_ := Aside0.mk (hb); have n5_ := Aside0.mk (ho); clear HO_14; clear BK179; clear BK183; clear BK200; clear HB; clear HO_16; have HO_14 := n0_; have BK179 := n1_; have BK183 := n2_; have BK200 := n3_; have HB := n4_; have HO204 := n5_; clear n0_ n1_ n2_ n3_ n4_ n5_; clear ho hb hg hat))
                    go_roundg k1
                    case measure => have := HK1.out; omega
                    case rel => exact ⟨(y202), (wrap64 (x54_1 + 1)), (by first | rfl | (simp; done) | (simp [*]; done)), H', ⟨by have := HK1.out; omega⟩, ⟨by (with_reducible repeat (first | apply Kd.R_alloc | apply Kd.R_drewN | apply Kd.R_drew)); exact HO_14.out⟩, ⟨by (with_reducible repeat (first | apply Kd.R_alloc | apply Kd.R_drewN | apply Kd.R_drew)); first | exact HO204.out | exact Kd.R_mono HO204.out (fun _ hk => hk.1)⟩, ⟨by (with_reducible repeat (first | refine blk_drewN ?_ _ | refine blk_drew ?_ | refine blk_alloc ?_ _)); exact BK179.out⟩, ⟨by (with_reducible repeat (first | refine blk_drewN ?_ _ | refine blk_drew ?_ | refine blk_alloc ?_ _)); exact BK183.out⟩, ⟨by repeat (first | (with_reducible first | exact HB.out | apply below_alloc | apply pw_below_drewN | apply below_drew1 | refine below_set ?_ GE179.out | refine below_set ?_ GE183.out | refine below_set ?_ GE200.out) | exact HB.out)⟩⟩
                  · rw [if_neg c35] at H
                    exact absurd H (by simp)
              · rw [if_neg c26] at H
                exact absurd H (by simp)
            · rw [if_neg c25] at H
              exact absurd H (by simp)
          · rw [if_neg c24] at H
            exact absurd H (by simp)
        · rw [if_neg c23] at H
          have c23b0 : decide (x54_1 < (l0.length : Int)) = false := decide_eq_false c23
          clear c23
          obtain ⟨ji45, hji45⟩ : ∃ j_ : Int, (mn (x16_1.length : Int) 8) = j_ := ⟨_, rfl⟩
          replace H : (if 0 ≤ (ji45) then (if (ji45) ≤ (x16_1.length : Int) then ((api_TlbEntry_31.f (x16_1.take ((ji45) : Int).toNat)).bind fun t208 => (some (t180, t181, t182, t208, t190))) else (none)) else (none)) = some (r1, r2, r3, r4, r5) := by first | (rw [hji45] at H; exact H) | (simp only [hji45] at H ⊢; exact H)
          have hji45_ : (if 8 < (x16_1.length : Int) then 8 else (x16_1.length : Int)) = ji45 := hji45
          by_cases c46 : 0 ≤ (ji45)
          · rw [if_pos c46] at H
            have c46b0 := eq_true c46
            have c46b1 : decide (0 ≤ (ji45)) = true := decide_eq_true c46
            clear c46
            by_cases c47 : (ji45) ≤ (x16_1.length : Int)
            · rw [if_pos c47] at H
              have c47b0 := eq_true c47
              have c47b1 : decide ((ji45) ≤ (x16_1.length : Int)) = true := decide_eq_true c47
              clear c47
              obtain ⟨y205, hy205⟩ : ∃ y_ : List (S49), y_ = (x16_1.take ((ji45) : Int).toNat) := ⟨_, rfl⟩
              replace H : ((api_TlbEntry_31.f y205).bind fun t208 => (some (t180, t181, t182, t208, t190))) = some (r1, r2, r3, r4, r5) := by first | (rw [hy205]; with_reducible exact H) | (have H2_ := (Option.bind_some _ _).symm.trans H; rw [hy205]; with_reducible exact H2_) | (have H2_ := (Option.bind_some _ _).symm.trans H; with_reducible exact H2_) | with_reducible exact H | (rw [hy205]; exact H) | exact H
              have Ny205 := Aside0.mk hy205
              clear hy205
              replace H := Option.bind_eq_some_iff.mp H
              obtain ⟨t208, A480, H⟩ := H
              replace H : (some (t180, t181, t182, t208, t190)) = some (r1, r2, r3, r4, r5) := H
              have A48 := Aside0.mk A480
              clear A480
              simp only [Option.some.injEq, Prod.mk.injEq] at H
              obtain ⟨rfl, rfl, rfl, rfl, rfl⟩ := H
              try go_wp2
              have n0_ := Aside0.mk (Kd.R_drew HO_14.out)
              have n1_ := Aside0.mk (Kd.R_drew HO_16.out)
              have n2_ := Aside0.mk (blk_drew BK179.out)
              have n3_ := Aside0.mk (blk_drew BK183.out)
              have n4_ := Aside0.mk (below_drew1 HB.out)
              clear HO_14
              clear HO_16
              clear BK179
              clear BK183
              clear HB
              have HO_14 := n0_
              have HO_16 := n1_
              have BK179 := n2_
              have BK183 := n3_
              have HB := n4_
              clear n0_ n1_ n2_ n3_ n4_
              obtain ⟨Ao50, co50, eo50⟩ := Kd.R_slice HO_16.out
              (first | subst eo50 | (injection eo50 with f1_ f2_ f3_; have f4_ := f1_.symm; have f5_ := f3_.symm; clear f1_ f2_ f3_; subst f4_; subst f5_))
              have q51 : ((ji45) : Int) ≤ ((x16_1.length : Int) : Int) := of_decide_eq_true (by first | (with_reducible assumption) | assumption)
              obtain ⟨i051, hi051, _, hsz51, _⟩ := info_parts info49
              have hcut51 := cut_to (P := Try.prog) 28 49 .i64 Try.underlying28 hi051 Ao50 x16_1.length co50 (ji45) (of_decide_eq_true (by first | (with_reducible assumption) | assumption)) q51 (Kd.R_reads' HO_16.out).2.1
              have hr51 := Kd.R_take (m := ((ji45) : Int).toNat) HO_16.out (by omega)
              have hy51 : y205.length = ((ji45) : Int).toNat := (by rw [Ny205.out, List.length_take]; omega)
              rw [← Ny205.out] at hr51
              rw [← hy51] at hr51 hcut51
              clear hy51 hi051 hsz51
              have HO207 := Aside0.mk hr51
              clear hr51
              replace q51 := eq_true q51
              refine start_ (n := 11) (S := fun w' => w'.cell? ⟨gb183, 0, none⟩ = some (.int .u32 t180) ∧ w'.cell? ⟨gb183, 1, none⟩ = some (.int .u32 t181) ∧ w'.cell? ⟨gb183, 2, none⟩ = some (.int .i64 t182)) (ds := []) #[false, false, false, false, false, false, false, false, false, false, false] (by kernel_rfl) rfl rfl ⟨(blk_cell BK183.out 0).trans rfl, (blk_cell BK183.out 1).trans rfl, (blk_cell BK183.out 2).trans rfl⟩ (fun hHeld => ?_); refine with_tabW tlb_Fill.tab13 tlb_Fill.bits13 (fun HT_ HW_ => ?_)
              generalize wr.drew = w49 at HO_14 HO_16 BK179 BK183 HB HO207 hHeld ⊢
              refine pure_ (i := 1) (N := some 71) (v := ?_) (a' := ?_) #[false, true, false, false, false, false, false, false, false, false, false] rfl rfl (any_of HT_.out (by kernel_rfl)) (fun _ _ _ h => h) (Or.inl ⟨by rfl, ?_⟩) ?_ ?_
              rotate_left
              · intro w'
                go_simp
                with_reducible rfl
              rotate_left
              · simp only [Act.put, List.setIfInBounds_toArray, List.set_cons_zero, List.set_cons_succ, i64_w, i32_w]
                rfl
              refine pure_ (i := 2) (N := some 72) (v := ?_) (a' := ?_) #[false, true, true, false, false, false, false, false, false, false, false] rfl rfl (any_of HT_.out (by kernel_rfl)) (fun _ _ _ h => h) (Or.inl ⟨by rfl, ?_⟩) ?_ ?_
              rotate_left
              · intro w'
                go_simp
                with_reducible rfl
              rotate_left
              · simp only [Act.put, List.setIfInBounds_toArray, List.set_cons_zero, List.set_cons_succ, i64_w, i32_w]
                rfl
              refine pure_ (i := 3) (N := some 73) (v := ?_) (a' := ?_) #[false, true, true, true, false, false, false, false, false, false, false] rfl rfl (any_of HT_.out (by kernel_rfl)) (fun _ _ _ h => h) (Or.inl ⟨by rfl, ?_⟩) ?_ ?_
              rotate_left
              · intro w'
                go_simp
                with_reducible rfl
              rotate_left
              · simp only [Act.put, List.setIfInBounds_toArray, List.set_cons_zero, List.set_cons_succ, i64_w, i32_w]
                rfl
              refine pure_ (i := 4) (N := some 74) (v := ?_) (a' := ?_) #[false, true, true, true, true, false, false, false, false, false, false] rfl rfl (any_of HT_.out (by kernel_rfl)) (fun _ _ _ h => h) (Or.inl ⟨by rfl, ?_⟩) ?_ ?_
              rotate_left
              · intro w'
                go_simp
                with_reducible rfl
              rotate_left
              · simp only [Act.put, List.setIfInBounds_toArray, List.set_cons_zero, List.set_cons_succ, i64_w, i32_w]
                rfl
              refine pure_ (i := 5) (N := some 75) (v := ?_) (a' := ?_) #[false, true, true, true, true, true, false, false, false, false, false] rfl rfl (any_of HT_.out (by kernel_rfl)) (fun _ _ _ h => h) (Or.inl ⟨by rfl, ?_⟩) ?_ ?_
              rotate_left
              · intro w'
                go_simp
                with_reducible rfl
              rotate_left
              · simp only [Act.put, List.setIfInBounds_toArray, List.set_cons_zero, List.set_cons_succ, i64_w, i32_w]
                rfl
              refine pure_ (i := 7) (N := some 77) (v := ?_) (a' := ?_) #[false, true, true, true, true, true, false, true, false, false, false] rfl rfl (any_of HT_.out (by kernel_rfl)) (fun _ _ _ h => h) (Or.inl ⟨by rfl, ?_⟩) ?_ ?_
              rotate_left
              · intro w'
                go_simp
                with_reducible rfl
              rotate_left
              · simp only [Act.put, List.setIfInBounds_toArray, List.set_cons_zero, List.set_cons_succ, i64_w, i32_w]
                rfl
              refine take_ (i := 0) (N := some 70) (v := ?_) (a' := ?_) #[true, true, true, true, true, true, false, true, false, false, false] rfl rfl (take_ofW HT_.out HW_.out (by kernel_rfl)) (fun _ _ _ h => h) (Or.inl ⟨by rfl, ?_⟩) hHeld ?_ ?_
              rotate_left
              · rintro w' ⟨s0, s1, s2⟩
                go_simp
                with_reducible rfl
              rotate_left
              · simp only [Act.put, List.setIfInBounds_toArray, List.set_cons_zero, List.set_cons_succ, i64_w, i32_w]
                rfl
              refine one_ (i := 6) (N := some 76) #[true, true, true, true, true, true, true, true, false, false, false] rfl rfl (one_of HT_.out (by kernel_rfl)) (by decide) (fun K hK => ?_)
              refine goes_ Try.func31 (by kernel_rfl) rfl #[.slice Ao50 y205.length co50] (by rfl) rfl rfl (by (try simp only [List.map_toArray, List.map_cons, List.map_nil]); first | done | rfl | (simp only [List.length_drop, List.length_take]; rfl)) ?_
              with_reducible refine (api_TlbEntry_31.calls (fun k_ => some k_ = (.slice Ao50 y205.length co50 : Value).ownBlock) _ _ y205 t208 _ ?side1 A48.out).mono ?_
              (case side1 => exact Kd.R_V (Kd.R_tight rfl (Kd.R_types (Kd.R_types (Kd.R_apart' (HO207.out) (Kd.R_typed HO_14.out) (by decide)) BK179.out (by decide)) BK183.out (by decide))))
              rintro e w52 ⟨v209, rfl, ho0, hb⟩
              refine ⟨_, rfl, ?_⟩
              have n0_ := Aside0.mk (Kd.R_below (by (with_reducible repeat (first | apply Kd.R_alloc | apply Kd.R_drewN | apply Kd.R_drew)); exact HO_14.out) hb)
              have n1_ := Aside0.mk (Kd.R_below (by (with_reducible repeat (first | apply Kd.R_alloc | apply Kd.R_drewN | apply Kd.R_drew)); exact HO207.out) hb)
              have n2_ := Aside0.mk (Kd.V_lower (Kd.V_mono (ok' := fun k_ => (w.heap.size ≤ k_) ∧ some k_ ≠ (.slice Ao19 t190.length co19 : Value).ownBlock ∧ k_ ≠ gb179 ∧ k_ ≠ gb183) ho0 (fun k_ hk_ => ⟨Or.elim hk_ (fun hs_ => ((Kd.R_types (Kd.R_types (Kd.R_apart' (HO207.out) (Kd.R_typed HO_14.out) (by decide)) BK179.out (by decide)) BK183.out (by decide)).1 k_ hs_.symm).1.1.1) (fun hn_ => (Nat.le_trans (below_size (by repeat (first | (with_reducible first | exact HB.out | apply below_alloc | apply pw_below_drewN | apply below_drew1 | refine below_set ?_ GE179.out | refine below_set ?_ GE183.out) | exact HB.out))) hn_)), Or.elim hk_ (fun hs_ => ((Kd.R_types (Kd.R_types (Kd.R_apart' (HO207.out) (Kd.R_typed HO_14.out) (by decide)) BK179.out (by decide)) BK183.out (by decide)).1 k_ hs_.symm).1.1.2) (fun hn_ => (Kd.fresh' (Kd.R_lt (by (with_reducible repeat (first | apply Kd.R_alloc | apply Kd.R_drewN | apply Kd.R_drew)); exact HO_14.out)) k_ hn_)), Or.elim hk_ (fun hs_ => ((Kd.R_types (Kd.R_types (Kd.R_apart' (HO207.out) (Kd.R_typed HO_14.out) (by decide)) BK179.out (by decide)) BK183.out (by decide)).1 k_ hs_.symm).1.2) (fun hn_ => (Kd.freshB (g := gb179) (o := .cells #[.int .u32 0, .int .u32 0, .int .i64 0] 34 (0, 0)) (by (with_reducible repeat (first | refine blk_drewN ?_ _ | refine blk_drew ?_ | refine blk_alloc ?_ _)); exact BK179.out) k_ hn_)), Or.elim hk_ (fun hs_ => ((Kd.R_types (Kd.R_types (Kd.R_apart' (HO207.out) (Kd.R_typed HO_14.out) (by decide)) BK179.out (by decide)) BK183.out (by decide)).1 k_ hs_.symm).2) (fun hn_ => (Kd.freshB (g := gb183) (o := .cells #[.int .u32 t180, .int .u32 t181, .int .i64 t182] 34 (0, 0)) (by (with_reducible repeat (first | refine blk_drewN ?_ _ | refine blk_drew ?_ | refine blk_alloc ?_ _)); exact BK183.out) k_ hn_))⟩)) (below_size (by repeat (first | (with_reducible first | exact HB.out | apply below_alloc | apply pw_below_drewN | apply below_drew1 | refine below_set ?_ GE179.out | refine below_set ?_ GE183.out) | exact HB.out))))
              have n3_ := Aside0.mk (blk_below (g := gb179) (o := .cells #[.int .u32 0, .int .u32 0, .int .i64 0] 34 (0, 0)) (by (with_reducible repeat (first | refine blk_drewN ?_ _ | refine blk_drew ?_ | refine blk_alloc ?_ _)); exact BK179.out) hb)
              have n4_ := Aside0.mk (blk_below (g := gb183) (o := .cells #[.int .u32 t180, .int .u32 t181, .int .i64 t182] 34 (0, 0)) (by (with_reducible repeat (first | refine blk_drewN ?_ _ | refine blk_drew ?_ | refine blk_alloc ?_ _)); exact BK183.out) hb)
              have n5_ := Aside0.mk (below_step (by repeat (first | (with_reducible first | exact HB.out | apply below_alloc | apply pw_below_drewN | apply below_drew1 | refine below_set ?_ GE179.out | refine below_set ?_ GE183.out) | exact HB.out)) hb)
              clear HO_14
              clear HO207
              clear BK179
              clear BK183
              clear HB
              have HO_14 := n0_
              have HO207 := n1_
              have HO210 := n2_
              have BK179 := n3_
              have BK183 := n4_
              have HB := n5_
              clear n0_ n1_ n2_ n3_ n4_ n5_
              (try clear hb)
              (try clear hb2)
              (try clear hk)
              (try clear hi)
              (try clear ho0)
              refine hK.out _ _ ⟨(blk_cell BK183.out 0).trans rfl, (blk_cell BK183.out 1).trans rfl, (blk_cell BK183.out 2).trans rfl⟩ (fun hHeld => ?_)
              clear hK K
              refine norm_ (a' := ?_) ?_ ?_
              rotate_left
              · show Act.put _ (some 76) _ = _
                simp only [Act.put, List.setIfInBounds_toArray, List.set_cons_zero, List.set_cons_succ, i64_w, i32_w]
                rfl
              refine one_ (i := 8) (N := none) #[true, true, true, true, true, true, true, true, true, false, false] rfl rfl (one_of HT_.out (by kernel_rfl)) (by decide) (fun K hK => ?_)
              have hs53 : w52.cell? ⟨gb179, 0, none⟩ = some (.int .u32 0) := (blk_cell BK179.out 0).trans rfl
              have hfs53 := blk_frozen BK179.out 0
              have hns53_1 := NB183_179.out
              have hms53_1 := NB179_183.out
              have hs54 : w52.cell? ⟨gb179, 1, none⟩ = some (.int .u32 0) := (blk_cell BK179.out 1).trans rfl
              have hfs54 := blk_frozen BK179.out 1
              have hns54_1 := NB183_179.out
              have hms54_1 := NB179_183.out
              have hs55 : w52.cell? ⟨gb179, 2, none⟩ = some (.int .i64 0) := (blk_cell BK179.out 2).trans rfl
              have hfs55 := blk_frozen BK179.out 2
              have hns55_1 := NB183_179.out
              have hms55_1 := NB179_183.out
              refine skip_ (w1 := ?_) (by rfl) rfl ?_ ?_
              rotate_left
              · go_simp
                rfl
              refine hK.out _ _ ⟨((cell_far (p := ⟨gb179, _, none⟩) NB183_179.out _).trans (((cell_far (p := ⟨gb179, _, none⟩) NB183_179.out _).trans (((cell_far (p := ⟨gb179, _, none⟩) NB183_179.out _).trans (hHeld.1)))))), ((cell_far (p := ⟨gb179, _, none⟩) NB183_179.out _).trans (((cell_far (p := ⟨gb179, _, none⟩) NB183_179.out _).trans (((cell_far (p := ⟨gb179, _, none⟩) NB183_179.out _).trans (hHeld.2.1)))))), ((cell_far (p := ⟨gb179, _, none⟩) NB183_179.out _).trans (((cell_far (p := ⟨gb179, _, none⟩) NB183_179.out _).trans (((cell_far (p := ⟨gb179, _, none⟩) NB183_179.out _).trans (hHeld.2.2))))))⟩ (fun hHeld => ?_)
              clear hK K
              refine pure_ (i := 9) (N := some 11) (v := ?_) (a' := ?_) #[true, true, true, true, true, true, true, true, true, true, false] rfl rfl (any_of HT_.out (by kernel_rfl)) (fun _ _ _ h => h) (Or.inl ⟨by rfl, ?_⟩) ?_ ?_
              rotate_left
              · intro w'
                go_simp
                with_reducible rfl
              rotate_left
              · simp only [Act.put, List.setIfInBounds_toArray, List.set_cons_zero, List.set_cons_succ, i64_w, i32_w]
                rfl
              refine pure_ (i := 10) (N := some 12) (v := ?_) (a' := ?_) #[true, true, true, true, true, true, true, true, true, true, true] rfl rfl (any_of HT_.out (by kernel_rfl)) (fun _ _ _ h => h) (Or.inl ⟨by rfl, ?_⟩) ?_ ?_
              rotate_left
              · intro w'
                go_simp
                with_reducible rfl
              rotate_left
              · simp only [Act.put, List.setIfInBounds_toArray, List.set_cons_zero, List.set_cons_succ, i64_w, i32_w]
                rfl
              refine done_ (done_of HT_.out (by kernel_rfl)) ?_
              try go_wp2
              refine bodyPost_ret (results_ctt rfl _ _ gb179 34 #[.int .u32 t180, .int .u32 t181, .int .i64 t182] (0, 0) _ rfl (by (with_reducible repeat (first | refine blk_drewN ?_ _ | refine blk_drew ?_ | refine blk_alloc ?_ _)); refine blk_put (cs := #[.int .u32 t180, .int .u32 t181, .int .i64 0]) ?_ 2 _ rfl; (with_reducible repeat (first | refine blk_drewN ?_ _ | refine blk_drew ?_ | refine blk_alloc ?_ _)); refine blk_put (cs := #[.int .u32 t180, .int .u32 0, .int .i64 0]) ?_ 1 _ rfl; (with_reducible repeat (first | refine blk_drewN ?_ _ | refine blk_drew ?_ | refine blk_alloc ?_ _)); refine blk_put (cs := #[.int .u32 0, .int .u32 0, .int .i64 0]) ?_ 0 _ rfl; (with_reducible repeat (first | refine blk_drewN ?_ _ | refine blk_drew ?_ | refine blk_alloc ?_ _)); exact BK179.out) Try.underlying34 rfl (by kernel_rfl)) rfl ?_
              exact ⟨_, _, by first | rfl | (simp [errW_none, errW_some] <;> rfl) | (simp only [← hji45]; first | rfl | (simp [errW_none, errW_some] <;> rfl)) | (simp [*, errW_none, errW_some] <;> rfl), by (with_reducible repeat (first | apply Kd.V_alloc | apply Kd.V_drewN | apply Kd.V_drew)); exact Kd.V_mono (Kd.V_far (p := ⟨gb179, 2, none⟩) (Kd.V_far (p := ⟨gb179, 1, none⟩) (Kd.V_far (p := ⟨gb179, 0, none⟩) (Kd.V_mono HO210.out (fun k_ hk => (⟨hk, hk.2.2.1⟩ : _ ∧ k_ ≠ gb179))) (fun _ hk => hk.2) (.int .u32 t180)) (fun _ hk => hk.2) (.int .u32 t181)) (fun _ hk => hk.2) (.int .i64 t182)) (fun _ hk => ⟨hk.1.1, hk.1.2.1⟩), by (with_reducible repeat (first | apply Kd.R_alloc | apply Kd.R_drewN | apply Kd.R_drew)); exact Kd.R_mono (Kd.R_far (p := ⟨gb179, 2, none⟩) (Kd.R_far (p := ⟨gb179, 1, none⟩) (Kd.R_far (p := ⟨gb179, 0, none⟩) (Kd.R_types HO_14.out BK179.out (by decide)) (fun _ hk => hk.2) (.int .u32 t180)) (fun _ hk => hk.2) (.int .u32 t181)) (fun _ hk => hk.2) (.int .i64 t182)) (fun _ hk => hk.1), by repeat (first | (with_reducible first | exact HB.out | apply below_alloc | apply pw_below_drewN | apply below_drew1 | refine below_set ?_ GE179.out | refine below_set ?_ GE183.out) | exact HB.out)⟩
            · rw [if_neg c47] at H
              exact absurd H (by simp)
          · rw [if_neg c46] at H
            exact absurd H (by simp)
  · rw [if_neg c7] at H
    have c7b0 : (t182 == 0) = false := beq_eq_false_iff_ne.mpr c7
    have c7b1 : (t182 != 0) = true := bne_iff_ne.mpr c7
    replace H := Option.bind_eq_some_iff.mp H
    obtain ⟨t184, A560, H⟩ := H
    replace H : ((slices_Clone_uint32_uint32.f l1).bind fun t187 => (some (t180, t181, t182, t184, t187))) = some (r1, r2, r3, r4, r5) := H
    have A56 := Aside0.mk A560
    clear A560
    replace H := Option.bind_eq_some_iff.mp H
    obtain ⟨t187, A570, H⟩ := H
    replace H : (some (t180, t181, t182, t184, t187)) = some (r1, r2, r3, r4, r5) := H
    have A57 := Aside0.mk A570
    clear A570
    simp only [Option.some.injEq, Prod.mk.injEq] at H
    obtain ⟨rfl, rfl, rfl, rfl, rfl⟩ := H
    go_enter Try.func13, Try.ntmps13
    try go_wp2_with (first | ((with_reducible refine gate_dst (N := 10) rfl ?_); refine box_event ?hg (N := 10) ?hd (cs := #[.int .u32 0, .int .u32 0, .int .i64 0]) (t := 34) ?hr ?_; (case hd => rfl); (case hg => rfl); (case hr => first | (go_simp; done) | (go_simp; rfl)); intro gb179 hg w58 hbox hb; have n0_ := Aside0.mk (below_step (by repeat (first | (with_reducible first | exact HB.out | apply below_alloc | apply pw_below_drewN | apply below_drew1) | exact HB.out)) hb); have n1_ := Aside0.mk (hbox); have n2_ := Aside0.mk ((by rw [hg]; exact (below_size (by repeat (first | (with_reducible first | exact HB.out | apply below_alloc | apply pw_below_drewN | apply below_drew1) | exact HB.out))) : w.heap.size ≤ gb179)); have n3_ := Aside0.mk ((by rw [hg]; exact (below_size (by repeat (first | (with_reducible first | exact HB.out | apply below_alloc | apply pw_below_drewN | apply below_drew1) | exact HB.out))) : w.heap.size ≤ gb179)); clear HB; have HB := n0_; have BK179 := n1_; have GW179 := n2_; have GE179 := n3_; clear n0_ n1_ n2_ n3_; clear hb hbox hg) | ((with_reducible refine gate_callee (f := 10) rfl ?_); refine goesL_ (some 23) rfl rfl Try.func10 (by kernel_rfl) rfl #[.slice A1 l1.length c1, .int .u32 a2, .int .u32 a3, .int .i64 a4] rfl (by (try simp only [List.map_toArray, List.map_cons, List.map_nil]); first | done | rfl | (simp only [List.length_drop, List.length_take]; rfl)) ?_; (with_reducible refine (paging_Walk.calls k _ _ l1 a2 a3 a4 t180 t181 t182 _ ?side1 ?side2 A6.out).mono ?_); (case side1 => repeat (first | exact (Kd.C_below HR1.out HB.out) | (with_reducible refine Kd.C_alloc ?_ _) | (with_reducible refine Kd.C_drewN ?_ _) | (with_reducible refine Kd.C_drew ?_))); (case side2 => exact HC1.out); rintro e w59 ⟨rfl, hb⟩; refine ⟨_, rfl, ?_⟩; have n0_ := Aside0.mk (blk_below (g := gb179) (o := .cells #[.int .u32 0, .int .u32 0, .int .i64 0] 34 (0, 0)) (by (with_reducible repeat (first | refine blk_drewN ?_ _ | refine blk_drew ?_ | refine blk_alloc ?_ _)); exact BK179.out) hb); have n1_ := Aside0.mk (below_step (by repeat (first | (with_reducible first | exact HB.out | apply below_alloc | apply pw_below_drewN | apply below_drew1 | refine below_set ?_ GE179.out) | exact HB.out)) hb); clear BK179; clear HB; have BK179 := n0_; have HB := n1_; clear n0_ n1_; (try clear hb); (try clear hb2); (try clear hk); (try clear hi)) | ((with_reducible refine gate_dst (N := 13) rfl ?_); refine box_event ?hg (N := 13) ?hd (cs := #[.int .u32 0, .int .u32 0, .int .i64 0]) (t := 34) ?hr ?_; (case hd => rfl); (case hg => rfl); (case hr => first | (go_simp; done) | (go_simp; rfl)); intro gb183 hg w60 hbox hb; have n0_ := Aside0.mk (blk_below (g := gb179) (o := .cells #[.int .u32 0, .int .u32 0, .int .i64 0] 34 (0, 0)) (by (with_reducible repeat (first | refine blk_drewN ?_ _ | refine blk_drew ?_ | refine blk_alloc ?_ _)); exact BK179.out) hb); have n1_ := Aside0.mk (below_step (by repeat (first | (with_reducible first | exact HB.out | apply below_alloc | apply pw_below_drewN | apply below_drew1 | refine below_set ?_ GE179.out) | exact HB.out)) hb); have n2_ := Aside0.mk (hbox); have n3_ := Aside0.mk ((by rw [hg]; exact (below_size (by repeat (first | (with_reducible first | exact HB.out | apply below_alloc | apply pw_below_drewN | apply below_drew1 | refine below_set ?_ GE179.out) | exact HB.out))) : w.heap.size ≤ gb183)); have n4_ := Aside0.mk ((by rw [hg]; exact (below_size (by repeat (first | (with_reducible first | exact HB.out | apply below_alloc | apply pw_below_drewN | apply below_drew1 | refine below_set ?_ GE179.out) | exact HB.out))) : w.heap.size ≤ gb183)); have n5_ := Aside0.mk ((by rw [hg]; exact Nat.ne_of_lt (blk_lt (g := gb179) (o := .cells #[.int .u32 0, .int .u32 0, .int .i64 0] 34 (0, 0)) (by (with_reducible repeat (first | refine blk_drewN ?_ _ | refine blk_drew ?_ | refine blk_alloc ?_ _)); exact BK179.out)) : gb179 ≠ gb183)); have n6_ := Aside0.mk ((by rw [hg]; exact Nat.ne_of_gt (blk_lt (g := gb179) (o := .cells #[.int .u32 0, .int .u32 0, .int .i64 0] 34 (0, 0)) (by (with_reducible repeat (first | refine blk_drewN ?_ _ | refine blk_drew ?_ | refine blk_alloc ?_ _)); exact BK179.out)) : gb183 ≠ gb179)); clear BK179; clear HB; have BK179 := n0_; have HB := n1_; have BK183 := n2_; have GW183 := n3_; have GE183 := n4_; have NB179_183 := n5_; have NB183_179 := n6_; clear n0_ n1_ n2_ n3_ n4_ n5_ n6_; clear hb hbox hg; have hnb61 := NB183_179.out; have hnc61 := NB179_183.out; have hcz62_0 : w60.cell? ⟨gb183, 0, none⟩ = some (.int .u32 0) := (blk_cell BK183.out 0).trans rfl; have hcz62_1 : w60.cell? ⟨gb183, 1, none⟩ = some (.int .u32 0) := (blk_cell BK183.out 1).trans rfl; have hcz62_2 : w60.cell? ⟨gb183, 2, none⟩ = some (.int .i64 0) := (blk_cell BK183.out 2).trans rfl; have hfz62_0 := blk_frozen BK183.out 0; have hfz62_1 := blk_frozen BK183.out 1; have hfz62_2 := blk_frozen BK183.out 2))
    have n0_ : Aside0 ((((w60.setCell ⟨gb183, 0, none⟩ (.int .u32 t180)).setCell ⟨gb183, 1, none⟩ (.int .u32 t181)).setCell ⟨gb183, 2, none⟩ (.int .i64 t182)).heap[gb179]? = some (.cells #[.int .u32 0, .int .u32 0, .int .i64 0] 34 (0, 0))) := ⟨by (with_reducible repeat (first | refine blk_drewN ?_ _ | refine blk_drew ?_ | refine blk_alloc ?_ _)); refine blk_far ?_ NB179_183.out _; (with_reducible repeat (first | refine blk_drewN ?_ _ | refine blk_drew ?_ | refine blk_alloc ?_ _)); refine blk_far ?_ NB179_183.out _; (with_reducible repeat (first | refine blk_drewN ?_ _ | refine blk_drew ?_ | refine blk_alloc ?_ _)); refine blk_far ?_ NB179_183.out _; (with_reducible repeat (first | refine blk_drewN ?_ _ | refine blk_drew ?_ | refine blk_alloc ?_ _)); exact BK179.out⟩
    have n1_ : Aside0 ((((w60.setCell ⟨gb183, 0, none⟩ (.int .u32 t180)).setCell ⟨gb183, 1, none⟩ (.int .u32 t181)).setCell ⟨gb183, 2, none⟩ (.int .i64 t182)).heap[gb183]? = some (.cells #[.int .u32 t180, .int .u32 t181, .int .i64 t182] 34 (0, 0))) := ⟨by (with_reducible repeat (first | refine blk_drewN ?_ _ | refine blk_drew ?_ | refine blk_alloc ?_ _)); refine blk_put (cs := #[.int .u32 t180, .int .u32 t181, .int .i64 0]) ?_ 2 _ rfl; (with_reducible repeat (first | refine blk_drewN ?_ _ | refine blk_drew ?_ | refine blk_alloc ?_ _)); refine blk_put (cs := #[.int .u32 t180, .int .u32 0, .int .i64 0]) ?_ 1 _ rfl; (with_reducible repeat (first | refine blk_drewN ?_ _ | refine blk_drew ?_ | refine blk_alloc ?_ _)); refine blk_put (cs := #[.int .u32 0, .int .u32 0, .int .i64 0]) ?_ 0 _ rfl; (with_reducible repeat (first | refine blk_drewN ?_ _ | refine blk_drew ?_ | refine blk_alloc ?_ _)); exact BK183.out⟩
    have n2_ : Aside0 (Below w.heap.size w (((w60.setCell ⟨gb183, 0, none⟩ (.int .u32 t180)).setCell ⟨gb183, 1, none⟩ (.int .u32 t181)).setCell ⟨gb183, 2, none⟩ (.int .i64 t182))) := ⟨by repeat (first | (with_reducible first | exact HB.out | apply below_alloc | apply pw_below_drewN | apply below_drew1 | refine below_set ?_ GE179.out | refine below_set ?_ GE183.out) | exact HB.out)⟩
    (try clear BK179)
    (try clear BK183)
    (try clear HB)
    generalize (((w60.setCell ⟨gb183, 0, none⟩ (.int .u32 t180)).setCell ⟨gb183, 1, none⟩ (.int .u32 t181)).setCell ⟨gb183, 2, none⟩ (.int .i64 t182)) = w63 at n0_ n1_ n2_ ⊢
    have BK179 := n0_
    have BK183 := n1_
    have HB := n2_
    clear n0_ n1_ n2_
    have n0_ := Aside0.mk (blk_drew BK179.out)
    have n1_ := Aside0.mk (blk_drew BK183.out)
    have n2_ := Aside0.mk (below_drew1 HB.out)
    clear BK179
    clear BK183
    clear HB
    have BK179 := n0_
    have BK183 := n1_
    have HB := n2_
    clear n0_ n1_ n2_
    refine start_ (n := 8) (S := fun w' => w'.cell? ⟨gb183, 0, none⟩ = some (.int .u32 t180) ∧ w'.cell? ⟨gb183, 1, none⟩ = some (.int .u32 t181) ∧ w'.cell? ⟨gb183, 2, none⟩ = some (.int .i64 t182)) (ds := []) #[false, false, false, false, false, false, false, false] (by kernel_rfl) rfl rfl ⟨(blk_cell BK183.out 0).trans rfl, (blk_cell BK183.out 1).trans rfl, (blk_cell BK183.out 2).trans rfl⟩ (fun hHeld => ?_); refine with_tabW tlb_Fill.tab3 tlb_Fill.bits3 (fun HT_ HW_ => ?_)
    generalize w63.drew = w64 at BK179 BK183 HB hHeld ⊢
    refine pure_ (i := 1) (N := some 28) (v := ?_) (a' := ?_) #[false, true, false, false, false, false, false, false] rfl rfl (any_of HT_.out (by kernel_rfl)) (fun _ _ _ h => h) (Or.inl ⟨by rfl, ?_⟩) ?_ ?_
    rotate_left
    · intro w'
      go_simp
      with_reducible rfl
    rotate_left
    · simp only [Act.put, List.setIfInBounds_toArray, List.set_cons_zero, List.set_cons_succ, i64_w, i32_w]
      rfl
    refine pure_ (i := 3) (N := some 30) (v := ?_) (a' := ?_) #[false, true, false, true, false, false, false, false] rfl rfl (any_of HT_.out (by kernel_rfl)) (fun _ _ _ h => h) (Or.inl ⟨by rfl, ?_⟩) ?_ ?_
    rotate_left
    · intro w'
      go_simp
      with_reducible rfl
    rotate_left
    · simp only [Act.put, List.setIfInBounds_toArray, List.set_cons_zero, List.set_cons_succ, i64_w, i32_w]
      rfl
    refine take_ (i := 0) (N := some 27) (v := ?_) (a' := ?_) #[true, true, false, true, false, false, false, false] rfl rfl (take_ofW HT_.out HW_.out (by kernel_rfl)) (fun _ _ _ h => h) (Or.inl ⟨by rfl, ?_⟩) hHeld ?_ ?_
    rotate_left
    · rintro w' ⟨s0, s1, s2⟩
      go_simp
      with_reducible rfl
    rotate_left
    · simp only [Act.put, List.setIfInBounds_toArray, List.set_cons_zero, List.set_cons_succ, i64_w, i32_w]
      rfl
    refine one_ (i := 2) (N := some 29) #[true, true, true, true, false, false, false, false] rfl rfl (one_of HT_.out (by kernel_rfl)) (by decide) (fun K hK => ?_)
    refine goes_ Try.func20 (by kernel_rfl) rfl #[.slice A0 l0.length c0] (by rfl) rfl rfl (by (try simp only [List.map_toArray, List.map_cons, List.map_nil]); first | done | rfl | (simp only [List.length_drop, List.length_take]; rfl)) ?_
    with_reducible refine (api_TlbEntry_20.calls _ _ l0 t184 _ ?side1 ?side2 A56.out).mono ?_
    (case side1 => repeat (first | exact (Kd.C_below HR0.out HB.out) | (with_reducible refine Kd.C_alloc ?_ _) | (with_reducible refine Kd.C_drewN ?_ _) | (with_reducible refine Kd.C_drew ?_)))
    (case side2 => exact HC0.out)
    rintro e w65 ⟨v185, rfl, ho0, hb⟩
    refine ⟨_, rfl, ?_⟩
    have n0_ := Aside0.mk (Kd.R_lower (Kd.R_newM (M := fun k_ => (w.heap.size ≤ k_)) ho0 (below_size (by repeat (first | (with_reducible first | exact HB.out | apply below_alloc | apply pw_below_drewN | apply below_drew1 | refine below_set ?_ GE179.out | refine below_set ?_ GE183.out) | exact HB.out))) (fun k_ h_ => h_)) (below_size (by repeat (first | (with_reducible first | exact HB.out | apply below_alloc | apply pw_below_drewN | apply below_drew1 | refine below_set ?_ GE179.out | refine below_set ?_ GE183.out) | exact HB.out))))
    have n1_ := Aside0.mk (blk_below (g := gb179) (o := .cells #[.int .u32 0, .int .u32 0, .int .i64 0] 34 (0, 0)) (by (with_reducible repeat (first | refine blk_drewN ?_ _ | refine blk_drew ?_ | refine blk_alloc ?_ _)); exact BK179.out) hb)
    have n2_ := Aside0.mk (blk_below (g := gb183) (o := .cells #[.int .u32 t180, .int .u32 t181, .int .i64 t182] 34 (0, 0)) (by (with_reducible repeat (first | refine blk_drewN ?_ _ | refine blk_drew ?_ | refine blk_alloc ?_ _)); exact BK183.out) hb)
    have n3_ := Aside0.mk (below_step (by repeat (first | (with_reducible first | exact HB.out | apply below_alloc | apply pw_below_drewN | apply below_drew1 | refine below_set ?_ GE179.out | refine below_set ?_ GE183.out) | exact HB.out)) hb)
    clear BK179
    clear BK183
    clear HB
    have HO186 := n0_
    have BK179 := n1_
    have BK183 := n2_
    have HB := n3_
    clear n0_ n1_ n2_ n3_
    (try clear hb)
    (try clear hb2)
    (try clear hk)
    (try clear hi)
    (try clear ho0)
    refine hK.out _ _ ⟨(blk_cell BK183.out 0).trans rfl, (blk_cell BK183.out 1).trans rfl, (blk_cell BK183.out 2).trans rfl⟩ (fun hHeld => ?_)
    clear hK K
    refine norm_ (a' := ?_) ?_ ?_
    rotate_left
    · show Act.put _ (some 29) _ = _
      simp only [Act.put, List.setIfInBounds_toArray, List.set_cons_zero, List.set_cons_succ, i64_w, i32_w]
      rfl
    refine one_ (i := 4) (N := some 31) #[true, true, true, true, true, false, false, false] rfl rfl (one_of HT_.out (by kernel_rfl)) (by decide) (fun K hK => ?_)
    refine goes_ Try.func28 (by kernel_rfl) rfl #[.slice A1 l1.length c1] (by rfl) rfl rfl (by (try simp only [List.map_toArray, List.map_cons, List.map_nil]); first | done | rfl | (simp only [List.length_drop, List.length_take]; rfl)) ?_
    with_reducible refine (slices_Clone_uint32_uint32.calls _ _ l1 t187 _ ?side1 ?side2 A57.out).mono ?_
    (case side1 => repeat (first | exact (Kd.C_below HR1.out HB.out) | (with_reducible refine Kd.C_alloc ?_ _) | (with_reducible refine Kd.C_drewN ?_ _) | (with_reducible refine Kd.C_drew ?_)))
    (case side2 => exact HC1.out)
    rintro e w66 ⟨v188, rfl, ho0, hb⟩
    refine ⟨_, rfl, ?_⟩
    have n0_ := Aside0.mk (Kd.R_below (by (with_reducible repeat (first | apply Kd.R_alloc | apply Kd.R_drewN | apply Kd.R_drew)); exact HO186.out) hb)
    have n1_ := Aside0.mk (Kd.R_lower (Kd.R_newM (M := fun k_ => (w.heap.size ≤ k_)) ho0 (below_size (by repeat (first | (with_reducible first | exact HB.out | apply below_alloc | apply pw_below_drewN | apply below_drew1 | refine below_set ?_ GE179.out | refine below_set ?_ GE183.out) | exact HB.out))) (fun k_ h_ => h_)) (below_size (by repeat (first | (with_reducible first | exact HB.out | apply below_alloc | apply pw_below_drewN | apply below_drew1 | refine below_set ?_ GE179.out | refine below_set ?_ GE183.out) | exact HB.out))))
    have n2_ := Aside0.mk (blk_below (g := gb179) (o := .cells #[.int .u32 0, .int .u32 0, .int .i64 0] 34 (0, 0)) (by (with_reducible repeat (first | refine blk_drewN ?_ _ | refine blk_drew ?_ | refine blk_alloc ?_ _)); exact BK179.out) hb)
    have n3_ := Aside0.mk (blk_below (g := gb183) (o := .cells #[.int .u32 t180, .int .u32 t181, .int .i64 t182] 34 (0, 0)) (by (with_reducible repeat (first | refine blk_drewN ?_ _ | refine blk_drew ?_ | refine blk_alloc ?_ _)); exact BK183.out) hb)
    have n4_ := Aside0.mk (below_step (by repeat (first | (with_reducible first | exact HB.out | apply below_alloc | apply pw_below_drewN | apply below_drew1 | refine below_set ?_ GE179.out | refine below_set ?_ GE183.out) | exact HB.out)) hb)
    clear HO186
    clear BK179
    clear BK183
    clear HB
    have HO186 := n0_
    have HO189 := n1_
    have BK179 := n2_
    have BK183 := n3_
    have HB := n4_
    clear n0_ n1_ n2_ n3_ n4_
    (try clear hb)
    (try clear hb2)
    (try clear hk)
    (try clear hi)
    (try clear ho0)
    refine hK.out _ _ ⟨(blk_cell BK183.out 0).trans rfl, (blk_cell BK183.out 1).trans rfl, (blk_cell BK183.out 2).trans rfl⟩ (fun hHeld => ?_)
    clear hK K
    refine norm_ (a' := ?_) ?_ ?_
    rotate_left
    · show Act.put _ (some 31) _ = _
      simp only [Act.put, List.setIfInBounds_toArray, List.set_cons_zero, List.set_cons_succ, i64_w, i32_w]
      rfl
    refine one_ (i := 5) (N := none) #[true, true, true, true, true, true, false, false] rfl rfl (one_of HT_.out (by kernel_rfl)) (by decide) (fun K hK => ?_)
    have hs67 : w66.cell? ⟨gb179, 0, none⟩ = some (.int .u32 0) := (blk_cell BK179.out 0).trans rfl
    have hfs67 := blk_frozen BK179.out 0
    have hns67_1 := NB183_179.out
    have hms67_1 := NB179_183.out
    have hs68 : w66.cell? ⟨gb179, 1, none⟩ = some (.int .u32 0) := (blk_cell BK179.out 1).trans rfl
    have hfs68 := blk_frozen BK179.out 1
    have hns68_1 := NB183_179.out
    have hms68_1 := NB179_183.out
    have hs69 : w66.cell? ⟨gb179, 2, none⟩ = some (.int .i64 0) := (blk_cell BK179.out 2).trans rfl
    have hfs69 := blk_frozen BK179.out 2
    have hns69_1 := NB183_179.out
    have hms69_1 := NB179_183.out
    refine skip_ (w1 := ?_) (by rfl) rfl ?_ ?_
    rotate_left
    · go_simp
      rfl
    refine hK.out _ _ ⟨((cell_far (p := ⟨gb179, _, none⟩) NB183_179.out _).trans (((cell_far (p := ⟨gb179, _, none⟩) NB183_179.out _).trans (((cell_far (p := ⟨gb179, _, none⟩) NB183_179.out _).trans (hHeld.1)))))), ((cell_far (p := ⟨gb179, _, none⟩) NB183_179.out _).trans (((cell_far (p := ⟨gb179, _, none⟩) NB183_179.out _).trans (((cell_far (p := ⟨gb179, _, none⟩) NB183_179.out _).trans (hHeld.2.1)))))), ((cell_far (p := ⟨gb179, _, none⟩) NB183_179.out _).trans (((cell_far (p := ⟨gb179, _, none⟩) NB183_179.out _).trans (((cell_far (p := ⟨gb179, _, none⟩) NB183_179.out _).trans (hHeld.2.2))))))⟩ (fun hHeld => ?_)
    clear hK K
    refine pure_ (i := 6) (N := some 11) (v := ?_) (a' := ?_) #[true, true, true, true, true, true, true, false] rfl rfl (any_of HT_.out (by kernel_rfl)) (fun _ _ _ h => h) (Or.inl ⟨by rfl, ?_⟩) ?_ ?_
    rotate_left
    · intro w'
      go_simp
      with_reducible rfl
    rotate_left
    · simp only [Act.put, List.setIfInBounds_toArray, List.set_cons_zero, List.set_cons_succ, i64_w, i32_w]
      rfl
    refine pure_ (i := 7) (N := some 12) (v := ?_) (a' := ?_) #[true, true, true, true, true, true, true, true] rfl rfl (any_of HT_.out (by kernel_rfl)) (fun _ _ _ h => h) (Or.inl ⟨by rfl, ?_⟩) ?_ ?_
    rotate_left
    · intro w'
      go_simp
      with_reducible rfl
    rotate_left
    · simp only [Act.put, List.setIfInBounds_toArray, List.set_cons_zero, List.set_cons_succ, i64_w, i32_w]
      rfl
    refine done_ (done_of HT_.out (by kernel_rfl)) ?_
    try go_wp2
    refine bodyPost_ret (results_ctt rfl _ _ gb179 34 #[.int .u32 t180, .int .u32 t181, .int .i64 t182] (0, 0) _ rfl (by (with_reducible repeat (first | refine blk_drewN ?_ _ | refine blk_drew ?_ | refine blk_alloc ?_ _)); refine blk_put (cs := #[.int .u32 t180, .int .u32 t181, .int .i64 0]) ?_ 2 _ rfl; (with_reducible repeat (first | refine blk_drewN ?_ _ | refine blk_drew ?_ | refine blk_alloc ?_ _)); refine blk_put (cs := #[.int .u32 t180, .int .u32 0, .int .i64 0]) ?_ 1 _ rfl; (with_reducible repeat (first | refine blk_drewN ?_ _ | refine blk_drew ?_ | refine blk_alloc ?_ _)); refine blk_put (cs := #[.int .u32 0, .int .u32 0, .int .i64 0]) ?_ 0 _ rfl; (with_reducible repeat (first | refine blk_drewN ?_ _ | refine blk_drew ?_ | refine blk_alloc ?_ _)); exact BK179.out) Try.underlying34 rfl (by kernel_rfl)) rfl ?_
    exact ⟨_, _, by first | rfl | (simp [errW_none, errW_some] <;> rfl) | (simp [*, errW_none, errW_some] <;> rfl), Kd.R_V (by (with_reducible repeat (first | apply Kd.R_alloc | apply Kd.R_drewN | apply Kd.R_drew)); exact Kd.R_mono (Kd.R_far (p := ⟨gb179, 2, none⟩) (Kd.R_far (p := ⟨gb179, 1, none⟩) (Kd.R_far (p := ⟨gb179, 0, none⟩) (Kd.R_types (Kd.R_apart' HO186.out (Kd.R_typed HO189.out) (by decide)) BK179.out (by decide)) (fun _ hk => hk.2) (.int .u32 t180)) (fun _ hk => hk.2) (.int .u32 t181)) (fun _ hk => hk.2) (.int .i64 t182)) (fun _ hk => ⟨hk.1.1.1, hk.1.2⟩)), by (with_reducible repeat (first | apply Kd.R_alloc | apply Kd.R_drewN | apply Kd.R_drew)); exact Kd.R_mono (Kd.R_far (p := ⟨gb179, 2, none⟩) (Kd.R_far (p := ⟨gb179, 1, none⟩) (Kd.R_far (p := ⟨gb179, 0, none⟩) (Kd.R_types HO189.out BK179.out (by decide)) (fun _ hk => hk.2) (.int .u32 t180)) (fun _ hk => hk.2) (.int .u32 t181)) (fun _ hk => hk.2) (.int .i64 t182)) (fun _ hk => hk.1.1), by repeat (first | (with_reducible first | exact HB.out | apply below_alloc | apply pw_below_drewN | apply below_drew1 | refine below_set ?_ GE179.out | refine below_set ?_ GE183.out) | exact HB.out)⟩

end Go.Proofs.Ytnammilbfbaieaa.HTlbRecent
