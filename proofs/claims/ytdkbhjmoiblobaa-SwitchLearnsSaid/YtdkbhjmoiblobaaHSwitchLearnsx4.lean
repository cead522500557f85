-- Written for this claim by wip/hook.py, by means of the kit's print and of hand-proved contracts.
import Derived.Test.YtdkbhjmoiblobaaHSwitchLearnsx0
import Derived.Test.YtdkbhjmoiblobaaHSwitchLearnsx1
import Derived.Test.YtdkbhjmoiblobaaHSwitchLearnsx2
import Derived.Test.YtdkbhjmoiblobaaHSwitchLearnsx3
namespace Go.Proofs.Ytdkbhjmoiblobaa.HSwitchLearns
open Go.RowKit Go.Proofs.YtdkbhjmoiblobaaW.PrintWords Go.Proofs.YtdkbhjmoiblobaaW.PrintLast Go.Proofs.YtdkbhjmoiblobaaW.PrintMore
attribute [local go_sem] max2_int min2_int max_two min_two max_three min_three max_four min_four   -- for this text's walks alone
attribute [local go_sem] Instr.field asAgg
set_option linter.unusedVariables false
set_option linter.unusedSimpArgs false

/-! ### network_Forward: function 9 -/
mutual
def network_Forward.j0 : Nat → Int → Int → Int → List (S35) → Bool → Int → List (S35) → Option (Int × (List (S35)) × List Int)
  | 0, _, _, _, _, _, _, _ => none
  | k + 1, x1, x8, x9, x18, x43, x129000, x129001 => if x43 = true then (some (x129000, x129001, ([] : List Int))) else (if x9 = 255 then (network_Forward.j1 k x1 x8 x129000 x129001) else ((network_find.f x129001 x9).bind fun t137 => (if t137 ≥ 0 then (if t137 < 1000000 ∧ t137 < (x129001.length : Int) then ((some (x129001.take t137.toNat ++ x129001.drop (t137.toNat + 1) : List (S35))).bind fun y138 => (if y138.length < 1000000 then ((some ((⟨x9, x1⟩ : S35) :: y138 : List (S35))).bind fun y141 => (if 0 ≤ (mn (y141.length : Int) 16) then (if (mn (y141.length : Int) 16) ≤ (y141.length : Int) then (network_Forward.j1 k x1 x8 x129000 (y141.take ((mn (y141.length : Int) 16) : Int).toNat)) else (none)) else (none))) else (none))) else (none)) else (if x129001.length < 1000000 then ((some ((⟨x9, x1⟩ : S35) :: x129001 : List (S35))).bind fun y147 => (if 0 ≤ (mn (y147.length : Int) 16) then (if (mn (y147.length : Int) 16) ≤ (y147.length : Int) then (network_Forward.j1 k x1 x8 x129000 (y147.take ((mn (y147.length : Int) 16) : Int).toNat)) else (none)) else (none))) else (none)))))
def network_Forward.j1 : Nat → Int → Int → Int → List (S35) → Option (Int × (List (S35)) × List Int)
  | 0, _, _, _, _ => none
  | k + 1, x1, x8, x129000, x129001 => if x8 = 255 then (network_Forward.j2 k x1 ([] : List Int) (-1) x129000 x129001) else ((network_Port.f x129000 x129001 x8).bind fun bt153 => (if bt153.2 = true then (network_Forward.j2 k x1 ([] : List Int) bt153.1 x129000 x129001) else (network_Forward.j2 k x1 ([] : List Int) (-1) x129000 x129001)))
def network_Forward.j2 : Nat → Int → List Int → Int → Int → List (S35) → Option (Int × (List (S35)) × List Int)
  | 0, _, _, _, _, _ => none
  | k + 1, x1, x12, x13, x129000, x129001 => network_Forward.l0 k x1 x12 x13 x129000 0 x129000 x129001
def network_Forward.l0 : Nat → Int → List Int → Int → Int → Int → Int → List (S35) → Option (Int × (List (S35)) × List Int)
  | 0, _, _, _, _, _, _, _ => none
  | k + 1, x1, x12, x13, x87, x88, x129000, x129001 => if x88 < x87 then (if x88 = x1 then (network_Forward.l0 k x1 x12 x13 x87 (wrap64 (x88 + 1)) x129000 x129001) else (if x13 < 0 then (if x12.length < 17592186044416 then (network_Forward.l0 k x1 (x12 ++ [x88]) x13 x87 (wrap64 (x88 + 1)) x129000 x129001) else (none)) else (if x88 = x13 then (if x12.length < 17592186044416 then (network_Forward.l0 k x1 (x12 ++ [x88]) x13 x87 (wrap64 (x88 + 1)) x129000 x129001) else (none)) else (network_Forward.l0 k x1 x12 x13 x87 (wrap64 (x88 + 1)) x129000 x129001)))) else (some (x129000, x129001, x12))
end
def network_Forward.f (k : Nat) (a0_0 : Int) (l0_1 : List (S35)) (a1 : Int) (a2 : ByteArray) : Option (Int × (List (S35)) × List Int) := (api_Learned_16.f l0_1).bind fun t130 => ((network_Addresses.f a2).bind fun bt133 => (if bt133.2.2 = true then ((network_Valid.f k a0_0 t130).bind fun t136 => (if t136 = true then (if a1 < 0 then (network_Forward.j0 k a1 bt133.1 bt133.2.1 l0_1 true a0_0 t130) else (network_Forward.j0 k a1 bt133.1 bt133.2.1 l0_1 (decide (a1 ≥ a0_0)) a0_0 t130)) else (network_Forward.j0 k a1 bt133.1 bt133.2.1 l0_1 true a0_0 t130))) else (network_Forward.j0 k a1 bt133.1 bt133.2.1 l0_1 true a0_0 t130)))
theorem one35 : ∀ (x : S35), ∀ u ∈ ([.int .u8 x.f0, .int .i64 x.f1] : List Value), u.oneCell' = true := by
  intro x u hu
  simp only [List.mem_cons, List.mem_nil_iff, or_false] at hu
  rcases hu with rfl | rfl <;> rfl
theorem del35 (base : Nat) (w0 w : World) (v : Value) (xs : List S35) (i j : Int) (h0 : 0 ≤ i) (hj : j = i + 1) (hi : i < (xs.length : Int)) (HO : k35.R 35 w base (fun _ => True) v xs) (HB : Below base w0 w) (hbase : base ≤ w.heap.size) :
    Calls Try.prog 19 #[v, .int .i64 i, .int .i64 j] w fun e w1 => ∃ v1, e = .returned v1 ∧ k35.R 35 w1 base (fun _ => True) v1 (xs.take i.toNat ++ xs.drop (i.toNat + 1)) ∧ Below base w0 w1 ∧ w.grownBy w1 v.ownBlock ∧ (v1.ownBlock = v.ownBlock ∨ ∃ b, v1.ownBlock = some b ∧ w.heap.size ≤ b) :=
  Shift.R_deleteI k35 rfl (fun x : S35 => [.int .u8 x.f0, .int .i64 x.f1]) (fun _ => rfl) (fun _ _ _ _ _ h => k35_openM h) (fun w_ b_ o_ x_ => k35_mkM w_ b_ o_ x_) one35 base w0 w v xs i j h0 hj hi HO HB hbase
theorem ins35 (base : Nat) (w0 W : World) (v : Value) (xs : List S35) (x y : Int) (B : Nat) (hsz : B = W.heap.size) (hbig : xs.length ≤ 1000000) (HO : k35.R 35 W base (fun _ => True) v xs) (HB : Below base w0 W) (hbase : base ≤ W.heap.size) :
    Calls Try.prog 20 #[v, .int .i64 0, .slice (some ⟨B, 0, none⟩) 1 1] (W.alloc (.cells #[.int .u8 x, .int .i64 y] 35)) fun e w1 => ∃ v1, e = .returned v1 ∧ k35.R 35 w1 base (fun _ => True) v1 ((⟨x, y⟩ : S35) :: xs) ∧ Below base w0 w1 ∧ W.grownBy w1 v.ownBlock ∧ (v1.ownBlock = v.ownBlock ∨ ∃ b, v1.ownBlock = some b ∧ W.heap.size ≤ b) := by
  subst hsz
  exact Shift.R_insertN k35 rfl (fun x : S35 => [.int .u8 x.f0, .int .i64 x.f1]) (fun _ => rfl) (fun _ _ _ _ _ h => k35_openM h) (fun w_ b_ o_ x_ => k35_mkM w_ b_ o_ x_) one35 base w0 W v xs ⟨x, y⟩ _ _ rfl hbig HO (Kd.R_lt HO) (Kd.R_alloc HO _) HB hbase
theorem network_Forward.mono_l : ∀ k, (∀ y0 y1 y2 y3 y4 y5 y6, LeO (network_Forward.j0 k y0 y1 y2 y3 y4 y5 y6) (network_Forward.j0 (k + 1) y0 y1 y2 y3 y4 y5 y6)) ∧ (∀ y0 y1 y2 y3, LeO (network_Forward.j1 k y0 y1 y2 y3) (network_Forward.j1 (k + 1) y0 y1 y2 y3)) ∧ (∀ y0 y1 y2 y3 y4, LeO (network_Forward.j2 k y0 y1 y2 y3 y4) (network_Forward.j2 (k + 1) y0 y1 y2 y3 y4)) ∧ (∀ y0 y1 y2 y3 y4 y5 y6, LeO (network_Forward.l0 k y0 y1 y2 y3 y4 y5 y6) (network_Forward.l0 (k + 1) y0 y1 y2 y3 y4 y5 y6))
  | 0 => ⟨fun _ _ _ _ _ _ _ r h => by simp [network_Forward.j0] at h, fun _ _ _ _ r h => by simp [network_Forward.j1] at h, fun _ _ _ _ _ r h => by simp [network_Forward.j2] at h, fun _ _ _ _ _ _ _ r h => by simp [network_Forward.l0] at h⟩
  | k + 1 => by
    obtain ⟨ih0, ih1, ih2, ih3⟩ := network_Forward.mono_l k
    refine ⟨?_, ?_, ?_, ?_⟩
    · intro y0 y1 y2 y3 y4 y5 y6
      unfold network_Forward.j0
      repeat' first
      | (with_reducible exact ih0 _ _ _ _ _ _ _)
      | (with_reducible exact ih1 _ _ _ _)
      | (with_reducible exact ih2 _ _ _ _ _)
      | (with_reducible exact ih3 _ _ _ _ _ _ _)
      | (with_reducible exact network_Valid.mono _ _ _)
      | (with_reducible exact LeO.refl _)
      | (with_reducible exact LeO.none _)
      | (with_reducible refine LeO.ite ?_ ?_)
      | (with_reducible refine LeO.bind ?_ (fun _ => ?_))
      | exact ih0 _ _ _ _ _ _ _
      | exact ih1 _ _ _ _
      | exact ih2 _ _ _ _ _
      | exact ih3 _ _ _ _ _ _ _
      | exact network_Valid.mono _ _ _
      | exact LeO.none _
      | refine LeO.ite ?_ ?_
      | refine LeO.bind ?_ (fun _ => ?_)
    · intro y0 y1 y2 y3
      unfold network_Forward.j1
      repeat' first
      | (with_reducible exact ih0 _ _ _ _ _ _ _)
      | (with_reducible exact ih1 _ _ _ _)
      | (with_reducible exact ih2 _ _ _ _ _)
      | (with_reducible exact ih3 _ _ _ _ _ _ _)
      | (with_reducible exact network_Valid.mono _ _ _)
      | (with_reducible exact LeO.refl _)
      | (with_reducible exact LeO.none _)
      | (with_reducible refine LeO.ite ?_ ?_)
      | (with_reducible refine LeO.bind ?_ (fun _ => ?_))
      | exact ih0 _ _ _ _ _ _ _
      | exact ih1 _ _ _ _
      | exact ih2 _ _ _ _ _
      | exact ih3 _ _ _ _ _ _ _
      | exact network_Valid.mono _ _ _
      | exact LeO.none _
      | refine LeO.ite ?_ ?_
      | refine LeO.bind ?_ (fun _ => ?_)
    · intro y0 y1 y2 y3 y4
      unfold network_Forward.j2
      repeat' first
      | (with_reducible exact ih0 _ _ _ _ _ _ _)
      | (with_reducible exact ih1 _ _ _ _)
      | (with_reducible exact ih2 _ _ _ _ _)
      | (with_reducible exact ih3 _ _ _ _ _ _ _)
      | (with_reducible exact network_Valid.mono _ _ _)
      | (with_reducible exact LeO.refl _)
      | (with_reducible exact LeO.none _)
      | (with_reducible refine LeO.ite ?_ ?_)
      | (with_reducible refine LeO.bind ?_ (fun _ => ?_))
      | exact ih0 _ _ _ _ _ _ _
      | exact ih1 _ _ _ _
      | exact ih2 _ _ _ _ _
      | exact ih3 _ _ _ _ _ _ _
      | exact network_Valid.mono _ _ _
      | exact LeO.none _
      | refine LeO.ite ?_ ?_
      | refine LeO.bind ?_ (fun _ => ?_)
    · intro y0 y1 y2 y3 y4 y5 y6
      unfold network_Forward.l0
      repeat' first
      | (with_reducible exact ih0 _ _ _ _ _ _ _)
      | (with_reducible exact ih1 _ _ _ _)
      | (with_reducible exact ih2 _ _ _ _ _)
      | (with_reducible exact ih3 _ _ _ _ _ _ _)
      | (with_reducible exact network_Valid.mono _ _ _)
      | (with_reducible exact LeO.refl _)
      | (with_reducible exact LeO.none _)
      | (with_reducible refine LeO.ite ?_ ?_)
      | (with_reducible refine LeO.bind ?_ (fun _ => ?_))
      | exact ih0 _ _ _ _ _ _ _
      | exact ih1 _ _ _ _
      | exact ih2 _ _ _ _ _
      | exact ih3 _ _ _ _ _ _ _
      | exact network_Valid.mono _ _ _
      | exact LeO.none _
      | refine LeO.ite ?_ ?_
      | refine LeO.bind ?_ (fun _ => ?_)
theorem network_Forward.mono : ∀ a0 a1 a2 a3 k, LeO (network_Forward.f k a0 a1 a2 a3) (network_Forward.f (k + 1) a0 a1 a2 a3) := by
  intro a0 a1 a2 a3 k
  obtain ⟨ih0, ih1, ih2, ih3⟩ := network_Forward.mono_l k
  unfold network_Forward.f
  repeat' first
      | (with_reducible exact ih0 _ _ _ _ _ _ _)
      | (with_reducible exact ih1 _ _ _ _)
      | (with_reducible exact ih2 _ _ _ _ _)
      | (with_reducible exact ih3 _ _ _ _ _ _ _)
      | (with_reducible exact network_Valid.mono _ _ _)
      | (with_reducible exact LeO.refl _)
      | (with_reducible exact LeO.none _)
      | (with_reducible refine LeO.ite ?_ ?_)
      | (with_reducible refine LeO.bind ?_ (fun _ => ?_))
      | exact ih0 _ _ _ _ _ _ _
      | exact ih1 _ _ _ _
      | exact ih2 _ _ _ _ _
      | exact ih3 _ _ _ _ _ _ _
      | exact network_Valid.mono _ _ _
      | exact LeO.none _
      | refine LeO.ite ?_ ?_
      | refine LeO.bind ?_ (fun _ => ?_)
set_option maxHeartbeats 8000000 in
set_option maxRecDepth 100000 in
theorem network_Forward.calls (k : Nat) (a0_0 : Int) (A0_1 : Option Addr) (c0_1 : Nat) (l0_1 : List (S35)) (a1 : Int) (a2 : ByteArray) (r1 : Int) (r2 : List (S35)) (r3 : List Int) (w : World) (hr0_1 : Kd.C k35 w A0_1 l0_1.length l0_1) (hc0_1 : l0_1.length ≤ c0_1) (h : network_Forward.f k a0_0 l0_1 a1 a2 = some (r1, r2, r3)) :
    Calls Try.prog 9 #[.agg #[.int .i64 a0_0, .slice A0_1 l0_1.length c0_1], .int .i64 a1, .string a2] w fun e w' => ∃ v1_ v2_ : Value, e = .returned (.tuple #[.agg #[.int .i64 r1, v1_], v2_]) ∧ Kd.R k35 35 w' w.heap.size (fun _ => True) v1_ r2 ∧ Kd.R (Kd.int .i64) 3 w' w.heap.size (fun _ => True) v2_ r3 ∧ Below w.heap.size w w' := by
  have hu26 := Try.underlying26
  have hu35 := Try.underlying35
  have HR0_1 := Aside0.mk hr0_1
  have HC0_1 := Aside0.mk hc0_1
  clear hr0_1 hc0_1
  have HB := Aside0.mk (Below.refl w.heap.size w)
  have H : ((api_Learned_16.f l0_1).bind fun t130 => ((network_Addresses.f a2).bind fun bt133 => (if bt133.2.2 = true then ((network_Valid.f k a0_0 t130).bind fun t136 => (if t136 = true then (if a1 < 0 then (network_Forward.j0 k a1 bt133.1 bt133.2.1 l0_1 true a0_0 t130) else (network_Forward.j0 k a1 bt133.1 bt133.2.1 l0_1 (decide (a1 ≥ a0_0)) a0_0 t130)) else (network_Forward.j0 k a1 bt133.1 bt133.2.1 l0_1 true a0_0 t130))) else (network_Forward.j0 k a1 bt133.1 bt133.2.1 l0_1 true a0_0 t130)))) = some (r1, r2, r3) := h
  clear h
  replace H := Option.bind_eq_some_iff.mp H
  obtain ⟨t130, A40, H⟩ := H
  replace H : ((network_Addresses.f a2).bind fun bt133 => (if bt133.2.2 = true then ((network_Valid.f k a0_0 t130).bind fun t136 => (if t136 = true then (if a1 < 0 then (network_Forward.j0 k a1 bt133.1 bt133.2.1 l0_1 true a0_0 t130) else (network_Forward.j0 k a1 bt133.1 bt133.2.1 l0_1 (decide (a1 ≥ a0_0)) a0_0 t130)) else (network_Forward.j0 k a1 bt133.1 bt133.2.1 l0_1 true a0_0 t130))) else (network_Forward.j0 k a1 bt133.1 bt133.2.1 l0_1 true a0_0 t130))) = some (r1, r2, r3) := H
  have A4 := Aside0.mk A40
  clear A40
  replace H := Option.bind_eq_some_iff.mp H
  obtain ⟨⟨t133, t134, t135⟩, A50, H⟩ := H
  replace H : (if t135 = true then ((network_Valid.f k a0_0 t130).bind fun t136 => (if t136 = true then (if a1 < 0 then (network_Forward.j0 k a1 t133 t134 l0_1 true a0_0 t130) else (network_Forward.j0 k a1 t133 t134 l0_1 (decide (a1 ≥ a0_0)) a0_0 t130)) else (network_Forward.j0 k a1 t133 t134 l0_1 true a0_0 t130))) else (network_Forward.j0 k a1 t133 t134 l0_1 true a0_0 t130)) = some (r1, r2, r3) := H
  have A5 := Aside0.mk A50
  clear A50
  have HC6 := Aside0.mk H
  clear H
  go_enter Try.func9, Try.ntmps9
  go_upto_region 3 with (first | ((with_reducible refine gate_dst (N := 3) rfl ?_); refine box_event ?hg (N := 3) ?hd (cs := #[.int .i64 a0_0, .slice A0_1 l0_1.length c0_1]) (t := 26) ?hr ?_; (case hd => rfl); (case hg => rfl); (case hr => first | (go_simp; done) | (go_simp; rfl)); intro gb128 hg w7 hbox hb; have n0_ := Aside0.mk (below_step (by repeat (first | (with_reducible first | exact HB.out | apply below_alloc | apply pw_below_drewN | apply below_drew1) | exact HB.out)) hb); have n1_ := Aside0.mk (hbox); have n2_ := Aside0.mk ((by rw [hg]; exact (below_size (by repeat (first | (with_reducible first | exact HB.out | apply below_alloc | apply pw_below_drewN | apply below_drew1) | exact HB.out))) : w.heap.size ≤ gb128)); have n3_ := Aside0.mk ((by rw [hg]; exact (below_size (by repeat (first | (with_reducible first | exact HB.out | apply below_alloc | apply pw_below_drewN | apply below_drew1) | exact HB.out))) : w.heap.size ≤ gb128)); clear HB; have HB := n0_; have BK128 := n1_; have GW128 := n2_; have GE128 := n3_; clear n0_ n1_ n2_ n3_; clear hb hbox hg) | ((with_reducible refine gate_dst (N := 6) rfl ?_); refine box_event ?hg (N := 6) ?hd (cs := #[.int .i64 0, .slice none 0 0]) (t := 26) ?hr ?_; (case hd => rfl); (case hg => rfl); (case hr => first | (go_simp; done) | (go_simp; rfl)); intro gb129 hg w8 hbox hb; have n0_ := Aside0.mk (blk_below (g := gb128) (o := .cells #[.int .i64 a0_0, .slice A0_1 l0_1.length c0_1] 26 (0, 0)) (by (with_reducible repeat (first | refine blk_drewN ?_ _ | refine blk_drew ?_ | refine blk_alloc ?_ _)); exact BK128.out) hb); have n1_ := Aside0.mk (below_step (by repeat (first | (with_reducible first | exact HB.out | apply below_alloc | apply pw_below_drewN | apply below_drew1 | refine below_set ?_ GE128.out) | exact HB.out)) hb); have n2_ := Aside0.mk (hbox); have n3_ := Aside0.mk ((by rw [hg]; exact (below_size (by repeat (first | (with_reducible first | exact HB.out | apply below_alloc | apply pw_below_drewN | apply below_drew1 | refine below_set ?_ GE128.out) | exact HB.out))) : w.heap.size ≤ gb129)); have n4_ := Aside0.mk ((by rw [hg]; exact (below_size (by repeat (first | (with_reducible first | exact HB.out | apply below_alloc | apply pw_below_drewN | apply below_drew1 | refine below_set ?_ GE128.out) | exact HB.out))) : w.heap.size ≤ gb129)); have n5_ := Aside0.mk ((by rw [hg]; exact Nat.ne_of_lt (blk_lt (g := gb128) (o := .cells #[.int .i64 a0_0, .slice A0_1 l0_1.length c0_1] 26 (0, 0)) (by (with_reducible repeat (first | refine blk_drewN ?_ _ | refine blk_drew ?_ | refine blk_alloc ?_ _)); exact BK128.out)) : gb128 ≠ gb129)); have n6_ := Aside0.mk ((by rw [hg]; exact Nat.ne_of_gt (blk_lt (g := gb128) (o := .cells #[.int .i64 a0_0, .slice A0_1 l0_1.length c0_1] 26 (0, 0)) (by (with_reducible repeat (first | refine blk_drewN ?_ _ | refine blk_drew ?_ | refine blk_alloc ?_ _)); exact BK128.out)) : gb129 ≠ gb128)); clear BK128; clear HB; have BK128 := n0_; have HB := n1_; have BK129 := n2_; have GW129 := n3_; have GE129 := n4_; have NB128_129 := n5_; have NB129_128 := n6_; clear n0_ n1_ n2_ n3_ n4_ n5_ n6_; clear hb hbox hg; have hnb9 := NB128_129.out; have hnc9 := NB129_128.out; have hcz10_0 : w8.cell? ⟨gb128, 0, none⟩ = some (.int .i64 a0_0) := (blk_cell BK128.out 0).trans rfl; have hcz10_1 : w8.cell? ⟨gb128, 1, none⟩ = some (.slice A0_1 l0_1.length c0_1) := (blk_cell BK128.out 1).trans rfl; have hfz10_0 := blk_frozen BK128.out 0; have hfz10_1 := blk_frozen BK128.out 1) | ((with_reducible refine gate_callee (f := 16) rfl ?_); refine goesL_ (some 19) rfl rfl Try.func16 (by kernel_rfl) rfl #[.slice A0_1 l0_1.length c0_1] rfl (by (try simp only [List.map_toArray, List.map_cons, List.map_nil]); first | done | rfl | (simp only [List.length_drop, List.length_take]; rfl)) ?_; (with_reducible refine (api_Learned_16.calls _ _ l0_1 t130 _ ?side1 ?side2 A4.out).mono ?_); (case side1 => repeat (first | exact (Kd.C_below HR0_1.out HB.out) | (with_reducible refine Kd.C_alloc ?_ _) | (with_reducible refine Kd.C_drewN ?_ _) | (with_reducible refine Kd.C_drew ?_))); (case side2 => exact HC0_1.out); rintro e w11 ⟨v131, rfl, ho0, hb⟩; refine ⟨_, rfl, ?_⟩; have n0_ := Aside0.mk (Kd.R_lower ho0 (below_size (by repeat (first | (with_reducible first | exact HB.out | apply below_alloc | apply pw_below_drewN | apply below_drew1 | refine below_set ?_ GE128.out | refine below_set ?_ GE129.out) | exact HB.out)))); have n1_ := Aside0.mk (blk_below (g := gb128) (o := .cells #[.int .i64 a0_0, .slice A0_1 l0_1.length c0_1] 26 (0, 0)) (by (with_reducible repeat (first | refine blk_drewN ?_ _ | refine blk_drew ?_ | refine blk_alloc ?_ _)); exact BK128.out) hb); have n2_ := Aside0.mk (blk_below (g := gb129) (o := .cells #[.int .i64 0, .slice none 0 0] 26 (0, 0)) (by (with_reducible repeat (first | refine blk_drewN ?_ _ | refine blk_drew ?_ | refine blk_alloc ?_ _)); exact BK129.out) hb); have n3_ := Aside0.mk (below_step (by repeat (first | (with_reducible first | exact HB.out | apply below_alloc | apply pw_below_drewN | apply below_drew1 | refine below_set ?_ GE128.out | refine below_set ?_ GE129.out) | exact HB.out)) hb); clear BK128; clear BK129; clear HB; have HO132 := n0_; have BK128 := n1_; have BK129 := n2_; have HB := n3_; clear n0_ n1_ n2_ n3_; (try clear hb); (try clear hb2); (try clear hk); (try clear hi); (try clear ho0); obtain ⟨Ao12, co12, eo12⟩ := Kd.R_slice HO132.out; subst eo12; have hcz13_0 : w11.cell? ⟨gb128, 0, none⟩ = some (.int .i64 a0_0) := (blk_cell BK128.out 0).trans rfl; have hcz13_1 : w11.cell? ⟨gb128, 1, none⟩ = some (.slice A0_1 l0_1.length c0_1) := (blk_cell BK128.out 1).trans rfl; have hfz13_0 := blk_frozen BK128.out 0; have hfz13_1 := blk_frozen BK128.out 1) | ((with_reducible refine gate_callee (f := 17) rfl ?_); refine goesL_ (some 23) rfl rfl Try.func17 (by kernel_rfl) rfl #[.string a2] rfl (by (try simp only [List.map_toArray, List.map_cons, List.map_nil]); first | done | rfl | (simp only [List.length_drop, List.length_take]; rfl)) ?_; (with_reducible refine (network_Addresses.calls a2 t133 t134 t135 _ A5.out).mono ?_); rintro e w' ⟨rfl, ⟨nd, rfl⟩⟩; refine ⟨_, rfl, ?_⟩))
  (try simp only [Act.put, List.setIfInBounds_toArray, List.set_cons_zero, List.set_cons_succ])
  go_cut [43] (fun v43 wc => ∃ (kq : Nat) (x43_5 : Bool), v43 = .bool x43_5 ∧ Aside0 (network_Forward.j0 kq a1 t133 t134 l0_1 x43_5 a0_0 t130 = some (r1, r2, r3)) ∧ Aside0 (kq ≤ k) ∧ Aside0 (Kd.R k35 35 wc w.heap.size (fun _ => True) (.slice Ao12 t130.length co12) t130) ∧ Aside0 (wc.heap[gb128]? = some (.cells #[.int .i64 a0_0, (.slice Ao12 t130.length co12)] 26 (0, 0))) ∧ Aside0 (wc.heap[gb129]? = some (.cells #[.int .i64 0, (.slice none 0 0)] 26 (0, 0))) ∧ Aside0 (Below w.heap.size w wc))
  case first =>
    have H := HC6.out
    clear HC6
    by_cases c14 : t135 = true
    · subst c14
      have H1 : ((network_Valid.f k a0_0 t130).bind fun t136 => (if t136 = true then (if a1 < 0 then (network_Forward.j0 k a1 t133 t134 l0_1 true a0_0 t130) else (network_Forward.j0 k a1 t133 t134 l0_1 (decide (a1 ≥ a0_0)) a0_0 t130)) else (network_Forward.j0 k a1 t133 t134 l0_1 true a0_0 t130))) = some (r1, r2, r3) := by rw [if_pos rfl] at H; exact H
      clear H
      have H := H1
      clear H1
      replace H := Option.bind_eq_some_iff.mp H
      obtain ⟨t136, A150, H⟩ := H
      replace H : (if t136 = true then (if a1 < 0 then (network_Forward.j0 k a1 t133 t134 l0_1 true a0_0 t130) else (network_Forward.j0 k a1 t133 t134 l0_1 (decide (a1 ≥ a0_0)) a0_0 t130)) else (network_Forward.j0 k a1 t133 t134 l0_1 true a0_0 t130)) = some (r1, r2, r3) := H
      have A15 := Aside0.mk A150
      clear A150
      by_cases c16 : t136 = true
      · subst c16
        have H1 : (if a1 < 0 then (network_Forward.j0 k a1 t133 t134 l0_1 true a0_0 t130) else (network_Forward.j0 k a1 t133 t134 l0_1 (decide (a1 ≥ a0_0)) a0_0 t130)) = some (r1, r2, r3) := by rw [if_pos rfl] at H; exact H
        clear H
        have H := H1
        clear H1
        by_cases c17 : a1 < 0
        · rw [if_pos c17] at H
          have c17b0 : decide (a1 < 0) = true := decide_eq_true c17
          clear c17
          (first | rw [c17b0] | (simp only [i64_w, i32_w]; rw [c17b0]) | skip)
          have H' := Aside0.mk H
          clear H
          have hnb18 := NB128_129.out
          have hnc18 := NB129_128.out
          have hcz19_0 : w11.cell? ⟨gb128, 0, none⟩ = some (.int .i64 a0_0) := (blk_cell BK128.out 0).trans rfl
          have hcz19_1 : w11.cell? ⟨gb128, 1, none⟩ = some (.slice A0_1 l0_1.length c0_1) := (blk_cell BK128.out 1).trans rfl
          have hfz19_0 := blk_frozen BK128.out 0
          have hfz19_1 := blk_frozen BK128.out 1
          go_wp2_with (first | (go_at_call 10; (with_reducible refine (network_Valid.calls k a0_0 _ _ t130 true _ ?side1 ?side2 A15.out).mono ?_); (case side1 => refine (Kd.R_reads' (e := 35) (base := w.heap.size) (ok := fun k_ => True) (n := t130.length) (c := co12) ?_).2.2; exact (by (with_reducible repeat (first | apply Kd.R_alloc | apply Kd.R_drewN | apply Kd.R_drew)); exact (Kd.R_mono (Kd.R_far (p := ⟨gb128, 1, none⟩) (Kd.R_types HO132.out BK128.out (by decide)) (fun _ hk => hk.2) (.slice Ao12 t130.length co12)) (fun _ h_ => h_.1)))); (case side2 => exact (Kd.R_reads' HO132.out).2.1); rintro e w20 ⟨rfl, hb⟩; have n0_ := Aside0.mk (Kd.R_below (by (with_reducible repeat (first | apply Kd.R_alloc | apply Kd.R_drewN | apply Kd.R_drew)); exact (Kd.R_mono (Kd.R_far (p := ⟨gb128, 1, none⟩) (Kd.R_types HO132.out BK128.out (by decide)) (fun _ hk => hk.2) (.slice Ao12 t130.length co12)) (fun _ h_ => h_.1))) hb); have n1_ := Aside0.mk (blk_below (g := gb128) (o := .cells #[.int .i64 a0_0, .slice Ao12 t130.length co12] 26 (0, 0)) (by (with_reducible repeat (first | refine blk_drewN ?_ _ | refine blk_drew ?_ | refine blk_alloc ?_ _)); refine blk_put (cs := #[.int .i64 a0_0, .slice A0_1 l0_1.length c0_1]) ?_ 1 _ rfl; (with_reducible repeat (first | refine blk_drewN ?_ _ | refine blk_drew ?_ | refine blk_alloc ?_ _)); exact BK128.out) hb); have n2_ := Aside0.mk (blk_below (g := gb129) (o := .cells #[.int .i64 0, .slice none 0 0] 26 (0, 0)) (by (with_reducible repeat (first | refine blk_drewN ?_ _ | refine blk_drew ?_ | refine blk_alloc ?_ _)); refine blk_far ?_ NB129_128.out _; (with_reducible repeat (first | refine blk_drewN ?_ _ | refine blk_drew ?_ | refine blk_alloc ?_ _)); exact BK129.out) hb); have n3_ := Aside0.mk (below_step (by repeat (first | (with_reducible first | exact HB.out | apply below_alloc | apply pw_below_drewN | apply below_drew1 | refine below_set ?_ GE128.out | refine below_set ?_ GE129.out) | exact HB.out)) hb); clear HO132; clear BK128; clear BK129; clear HB; have HO132 := n0_; have BK128 := n1_; have BK129 := n2_; have HB := n3_; clear n0_ n1_ n2_ n3_; (try clear hb); (try clear hb2); (try clear hk); (try clear hi)))
          go_meet
          case rel => exact ⟨_, (true), (by first | rfl | (simp; done) | (simp [*]; done)), H', ⟨by first | omega | exact Nat.le_refl _⟩, ⟨by (with_reducible repeat (first | apply Kd.R_alloc | apply Kd.R_drewN | apply Kd.R_drew)); exact HO132.out⟩, ⟨by (with_reducible repeat (first | refine blk_drewN ?_ _ | refine blk_drew ?_ | refine blk_alloc ?_ _)); exact BK128.out⟩, ⟨by (with_reducible repeat (first | refine blk_drewN ?_ _ | refine blk_drew ?_ | refine blk_alloc ?_ _)); exact BK129.out⟩, ⟨by repeat (first | (with_reducible first | exact HB.out | apply below_alloc | apply pw_below_drewN | apply below_drew1 | refine below_set ?_ GE128.out | refine below_set ?_ GE129.out) | exact HB.out)⟩⟩
        · rw [if_neg c17] at H
          have c17b0 : decide (a1 < 0) = false := decide_eq_false c17
          clear c17
          (first | rw [c17b0] | (simp only [i64_w, i32_w]; rw [c17b0]) | skip)
          have H' := Aside0.mk H
          clear H
          have hnb21 := NB128_129.out
          have hnc21 := NB129_128.out
          have hcz22_0 : w11.cell? ⟨gb128, 0, none⟩ = some (.int .i64 a0_0) := (blk_cell BK128.out 0).trans rfl
          have hcz22_1 : w11.cell? ⟨gb128, 1, none⟩ = some (.slice A0_1 l0_1.length c0_1) := (blk_cell BK128.out 1).trans rfl
          have hfz22_0 := blk_frozen BK128.out 0
          have hfz22_1 := blk_frozen BK128.out 1
          go_wp2_with (first | (go_at_call 10; (with_reducible refine (network_Valid.calls k a0_0 _ _ t130 true _ ?side1 ?side2 A15.out).mono ?_); (case side1 => refine (Kd.R_reads' (e := 35) (base := w.heap.size) (ok := fun k_ => True) (n := t130.length) (c := co12) ?_).2.2; exact (by (with_reducible repeat (first | apply Kd.R_alloc | apply Kd.R_drewN | apply Kd.R_drew)); exact (Kd.R_mono (Kd.R_far (p := ⟨gb128, 1, none⟩) (Kd.R_types HO132.out BK128.out (by decide)) (fun _ hk => hk.2) (.slice Ao12 t130.length co12)) (fun _ h_ => h_.1)))); (case side2 => exact (Kd.R_reads' HO132.out).2.1); rintro e w23 ⟨rfl, hb⟩; have n0_ := Aside0.mk (Kd.R_below (by (with_reducible repeat (first | apply Kd.R_alloc | apply Kd.R_drewN | apply Kd.R_drew)); exact (Kd.R_mono (Kd.R_far (p := ⟨gb128, 1, none⟩) (Kd.R_types HO132.out BK128.out (by decide)) (fun _ hk => hk.2) (.slice Ao12 t130.length co12)) (fun _ h_ => h_.1))) hb); have n1_ := Aside0.mk (blk_below (g := gb128) (o := .cells #[.int .i64 a0_0, .slice Ao12 t130.length co12] 26 (0, 0)) (by (with_reducible repeat (first | refine blk_drewN ?_ _ | refine blk_drew ?_ | refine blk_alloc ?_ _)); refine blk_put (cs := #[.int .i64 a0_0, .slice A0_1 l0_1.length c0_1]) ?_ 1 _ rfl; (with_reducible repeat (first | refine blk_drewN ?_ _ | refine blk_drew ?_ | refine blk_alloc ?_ _)); exact BK128.out) hb); have n2_ := Aside0.mk (blk_below (g := gb129) (o := .cells #[.int .i64 0, .slice none 0 0] 26 (0, 0)) (by (with_reducible repeat (first | refine blk_drewN ?_ _ | refine blk_drew ?_ | refine blk_alloc ?_ _)); refine blk_far ?_ NB129_128.out _; (with_reducible repeat (first | refine blk_drewN ?_ _ | refine blk_drew ?_ | refine blk_alloc ?_ _)); exact BK129.out) hb); have n3_ := Aside0.mk (below_step (by repeat (first | (with_reducible first | exact HB.out | apply below_alloc | apply pw_below_drewN | apply below_drew1 | refine below_set ?_ GE128.out | refine below_set ?_ GE129.out) | exact HB.out)) hb); clear HO132; clear BK128; clear BK129; clear HB; have HO132 := n0_; have BK128 := n1_; have BK129 := n2_; have HB := n3_; clear n0_ n1_ n2_ n3_; (try clear hb); (try clear hb2); (try clear hk); (try clear hi); have hcz24_0 : w23.cell? ⟨gb128, 0, none⟩ = some (.int .i64 a0_0) := (blk_cell BK128.out 0).trans rfl; have hcz24_1 : w23.cell? ⟨gb128, 1, none⟩ = some (.slice Ao12 t130.length co12) := (blk_cell BK128.out 1).trans rfl; have hfz24_0 := blk_frozen BK128.out 0; have hfz24_1 := blk_frozen BK128.out 1))
          go_meet
          case rel => exact ⟨_, (decide (a1 ≥ a0_0)), (by first | rfl | (simp; done) | (simp [*]; done)), H', ⟨by first | omega | exact Nat.le_refl _⟩, ⟨by (with_reducible repeat (first | apply Kd.R_alloc | apply Kd.R_drewN | apply Kd.R_drew)); exact HO132.out⟩, ⟨by (with_reducible repeat (first | refine blk_drewN ?_ _ | refine blk_drew ?_ | refine blk_alloc ?_ _)); exact BK128.out⟩, ⟨by (with_reducible repeat (first | refine blk_drewN ?_ _ | refine blk_drew ?_ | refine blk_alloc ?_ _)); exact BK129.out⟩, ⟨by repeat (first | (with_reducible first | exact HB.out | apply below_alloc | apply pw_below_drewN | apply below_drew1 | refine below_set ?_ GE128.out | refine below_set ?_ GE129.out) | exact HB.out)⟩⟩
      · replace c16 := Bool.eq_false_iff.mpr c16
        subst c16
        have H1 : (network_Forward.j0 k a1 t133 t134 l0_1 true a0_0 t130) = some (r1, r2, r3) := by rw [if_neg (show ¬ (false = true) by decide)] at H; exact H
        clear H
        have H := H1
        clear H1
        have H' := Aside0.mk H
        clear H
        have hnb25 := NB128_129.out
        have hnc25 := NB129_128.out
        have hcz26_0 : w11.cell? ⟨gb128, 0, none⟩ = some (.int .i64 a0_0) := (blk_cell BK128.out 0).trans rfl
        have hcz26_1 : w11.cell? ⟨gb128, 1, none⟩ = some (.slice A0_1 l0_1.length c0_1) := (blk_cell BK128.out 1).trans rfl
        have hfz26_0 := blk_frozen BK128.out 0
        have hfz26_1 := blk_frozen BK128.out 1
        go_wp2_with (first | (go_at_call 10; (with_reducible refine (network_Valid.calls k a0_0 _ _ t130 false _ ?side1 ?side2 A15.out).mono ?_); (case side1 => refine (Kd.R_reads' (e := 35) (base := w.heap.size) (ok := fun k_ => True) (n := t130.length) (c := co12) ?_).2.2; exact (by (with_reducible repeat (first | apply Kd.R_alloc | apply Kd.R_drewN | apply Kd.R_drew)); exact (Kd.R_mono (Kd.R_far (p := ⟨gb128, 1, none⟩) (Kd.R_types HO132.out BK128.out (by decide)) (fun _ hk => hk.2) (.slice Ao12 t130.length co12)) (fun _ h_ => h_.1)))); (case side2 => exact (Kd.R_reads' HO132.out).2.1); rintro e w27 ⟨rfl, hb⟩; have n0_ := Aside0.mk (Kd.R_below (by (with_reducible repeat (first | apply Kd.R_alloc | apply Kd.R_drewN | apply Kd.R_drew)); exact (Kd.R_mono (Kd.R_far (p := ⟨gb128, 1, none⟩) (Kd.R_types HO132.out BK128.out (by decide)) (fun _ hk => hk.2) (.slice Ao12 t130.length co12)) (fun _ h_ => h_.1))) hb); have n1_ := Aside0.mk (blk_below (g := gb128) (o := .cells #[.int .i64 a0_0, .slice Ao12 t130.length co12] 26 (0, 0)) (by (with_reducible repeat (first | refine blk_drewN ?_ _ | refine blk_drew ?_ | refine blk_alloc ?_ _)); refine blk_put (cs := #[.int .i64 a0_0, .slice A0_1 l0_1.length c0_1]) ?_ 1 _ rfl; (with_reducible repeat (first | refine blk_drewN ?_ _ | refine blk_drew ?_ | refine blk_alloc ?_ _)); exact BK128.out) hb); have n2_ := Aside0.mk (blk_below (g := gb129) (o := .cells #[.int .i64 0, .slice none 0 0] 26 (0, 0)) (by (with_reducible repeat (first | refine blk_drewN ?_ _ | refine blk_drew ?_ | refine blk_alloc ?_ _)); refine blk_far ?_ NB129_128.out _; (with_reducible repeat (first | refine blk_drewN ?_ _ | refine blk_drew ?_ | refine blk_alloc ?_ _)); exact BK129.out) hb); have n3_ := Aside0.mk (below_step (by repeat (first | (with_reducible first | exact HB.out | apply below_alloc | apply pw_below_drewN | apply below_drew1 | refine below_set ?_ GE128.out | refine below_set ?_ GE129.out) | exact HB.out)) hb); clear HO132; clear BK128; clear BK129; clear HB; have HO132 := n0_; have BK128 := n1_; have BK129 := n2_; have HB := n3_; clear n0_ n1_ n2_ n3_; (try clear hb); (try clear hb2); (try clear hk); (try clear hi)))
        go_meet
        case rel => exact ⟨_, (true), (by first | rfl | (simp; done) | (simp [*]; done)), H', ⟨by first | omega | exact Nat.le_refl _⟩, ⟨by (with_reducible repeat (first | apply Kd.R_alloc | apply Kd.R_drewN | apply Kd.R_drew)); exact HO132.out⟩, ⟨by (with_reducible repeat (first | refine blk_drewN ?_ _ | refine blk_drew ?_ | refine blk_alloc ?_ _)); exact BK128.out⟩, ⟨by (with_reducible repeat (first | refine blk_drewN ?_ _ | refine blk_drew ?_ | refine blk_alloc ?_ _)); exact BK129.out⟩, ⟨by repeat (first | (with_reducible first | exact HB.out | apply below_alloc | apply pw_below_drewN | apply below_drew1 | refine below_set ?_ GE128.out | refine below_set ?_ GE129.out) | exact HB.out)⟩⟩
    · replace c14 := Bool.eq_false_iff.mpr c14
      subst c14
      have H1 : (network_Forward.j0 k a1 t133 t134 l0_1 true a0_0 t130) = some (r1, r2, r3) := by rw [if_neg (show ¬ (false = true) by decide)] at H; exact H
      clear H
      have H := H1
      clear H1
      have H' := Aside0.mk H
      clear H
      go_wp2
      go_meet
      case rel => exact ⟨_, (true), (by first | rfl | (simp; done) | (simp [*]; done)), H', ⟨by first | omega | exact Nat.le_refl _⟩, ⟨by (with_reducible repeat (first | apply Kd.R_alloc | apply Kd.R_drewN | apply Kd.R_drew)); exact Kd.R_mono (Kd.R_far (p := ⟨gb128, 1, none⟩) (Kd.R_types HO132.out BK128.out (by decide)) (fun _ hk => hk.2) (.slice Ao12 t130.length co12)) (fun _ hk => trivial)⟩, ⟨by (with_reducible repeat (first | refine blk_drewN ?_ _ | refine blk_drew ?_ | refine blk_alloc ?_ _)); refine blk_put (cs := #[.int .i64 a0_0, .slice A0_1 l0_1.length c0_1]) ?_ 1 _ rfl; (with_reducible repeat (first | refine blk_drewN ?_ _ | refine blk_drew ?_ | refine blk_alloc ?_ _)); exact BK128.out⟩, ⟨by (with_reducible repeat (first | refine blk_drewN ?_ _ | refine blk_drew ?_ | refine blk_alloc ?_ _)); refine blk_far ?_ NB129_128.out _; (with_reducible repeat (first | refine blk_drewN ?_ _ | refine blk_drew ?_ | refine blk_alloc ?_ _)); exact BK129.out⟩, ⟨by repeat (first | (with_reducible first | exact HB.out | apply below_alloc | apply pw_below_drewN | apply below_drew1 | refine below_set ?_ GE128.out | refine below_set ?_ GE129.out) | exact HB.out)⟩⟩
  case rest =>
    clear HC6
    try clear c1
    try clear c2
    try clear p2
    try clear c9
    try clear c14
    try clear c16
    try clear c17
    try clear c17b0
    try clear c18
    try clear c21
    try clear c25
    try clear hcz10_0
    try clear hcz10_1
    try clear hcz13_0
    try clear hcz13_1
    try clear hcz19_0
    try clear hcz19_1
    try clear hcz22_0
    try clear hcz22_1
    try clear hcz24_0
    try clear hcz24_1
    try clear hcz26_0
    try clear hcz26_1
    try clear hfz10_0
    try clear hfz10_1
    try clear hfz13_0
    try clear hfz13_1
    try clear hfz19_0
    try clear hfz19_1
    try clear hfz22_0
    try clear hfz22_1
    try clear hfz24_0
    try clear hfz24_1
    try clear hfz26_0
    try clear hfz26_1
    obtain ⟨kq, x43_5, rfl, HA, HJ5, HO_129001, BK128, BK129, HB⟩ := hcut
    cases kq with
    | zero => exact absurd HA.out (by simp [network_Forward.j0])
    | succ kj5 =>
      have H := HA.out
      clear HA
      simp only [network_Forward.j0] at H
      by_cases c28 : x43_5 = true
      · subst c28
        have H1 : (some (a0_0, t130, ([] : List Int))) = some (r1, r2, r3) := by rw [if_pos rfl] at H; exact H
        clear H
        have H := H1
        clear H1
        simp only [Option.some.injEq, Prod.mk.injEq] at H
        obtain ⟨rfl, rfl, rfl⟩ := H
        have hnb29 := NB128_129.out
        have hnc29 := NB129_128.out
        have hcz30_0 : wc.cell? ⟨gb128, 0, none⟩ = some (.int .i64 a0_0) := (blk_cell BK128.out 0).trans rfl
        have hcz30_1 : wc.cell? ⟨gb128, 1, none⟩ = some (.slice Ao12 t130.length co12) := (blk_cell BK128.out 1).trans rfl
        have hfz30_0 := blk_frozen BK128.out 0
        have hfz30_1 := blk_frozen BK128.out 1
        have hcz31_0 : wc.cell? ⟨gb129, 0, none⟩ = some (.int .i64 0) := (blk_cell BK129.out 0).trans rfl
        have hcz31_1 : wc.cell? ⟨gb129, 1, none⟩ = some (.slice none 0 0) := (blk_cell BK129.out 1).trans rfl
        have hfz31_0 := blk_frozen BK129.out 0
        have hfz31_1 := blk_frozen BK129.out 1
        go_wp2
        refine bodyPost_ret (results_ct rfl _ _ gb129 26 #[.int .i64 a0_0, .slice Ao12 t130.length co12] (0, 0) _ rfl (by (with_reducible repeat (first | refine blk_drewN ?_ _ | refine blk_drew ?_ | refine blk_alloc ?_ _)); refine blk_put (cs := #[.int .i64 a0_0, .slice none 0 0]) ?_ 1 _ rfl; (with_reducible repeat (first | refine blk_drewN ?_ _ | refine blk_drew ?_ | refine blk_alloc ?_ _)); refine blk_put (cs := #[.int .i64 0, .slice none 0 0]) ?_ 0 _ rfl; (with_reducible repeat (first | refine blk_drewN ?_ _ | refine blk_drew ?_ | refine blk_alloc ?_ _)); exact BK129.out) Try.underlying26 rfl (by kernel_rfl)) rfl ?_
        exact ⟨_, _, by first | rfl | (simp [errW_none, errW_some] <;> rfl) | (simp [*, errW_none, errW_some] <;> rfl), by (with_reducible repeat (first | apply Kd.R_alloc | apply Kd.R_drewN | apply Kd.R_drew)); exact Kd.R_mono (Kd.R_far (p := ⟨gb129, 1, none⟩) (Kd.R_far (p := ⟨gb129, 0, none⟩) (Kd.R_types HO_129001.out BK129.out (by decide)) (fun _ hk => hk.2) (.int .i64 a0_0)) (fun _ hk => hk.2) (.slice Ao12 t130.length co12)) (fun _ hk => trivial), by first | exact Kd.R_nil _ _ _ _ _ | exact Kd.N_nil _ _ _ _ _ | exact Kd.V_nil _ _ _ _ _ | exact Kd.Q_nil _ _ _ _ _ | exact Kd.S_nil _ _ _ _ _, by repeat (first | (with_reducible first | exact HB.out | apply below_alloc | apply pw_below_drewN | apply below_drew1 | refine below_set ?_ GE128.out | refine below_set ?_ GE129.out) | exact HB.out)⟩
      · replace c28 := Bool.eq_false_iff.mpr c28
        subst c28
        have H1 : (if t134 = 255 then (network_Forward.j1 kj5 a1 t133 a0_0 t130) else ((network_find.f t130 t134).bind fun t137 => (if t137 ≥ 0 then (if t137 < 1000000 ∧ t137 < (t130.length : Int) then ((some (t130.take t137.toNat ++ t130.drop (t137.toNat + 1) : List (S35))).bind fun y138 => (if y138.length < 1000000 then ((some ((⟨t134, a1⟩ : S35) :: y138 : List (S35))).bind fun y141 => (if 0 ≤ (mn (y141.length : Int) 16) then (if (mn (y141.length : Int) 16) ≤ (y141.length : Int) then (network_Forward.j1 kj5 a1 t133 a0_0 (y141.take ((mn (y141.length : Int) 16) : Int).toNat)) else (none)) else (none))) else (none))) else (none)) else (if t130.length < 1000000 then ((some ((⟨t134, a1⟩ : S35) :: t130 : List (S35))).bind fun y147 => (if 0 ≤ (mn (y147.length : Int) 16) then (if (mn (y147.length : Int) 16) ≤ (y147.length : Int) then (network_Forward.j1 kj5 a1 t133 a0_0 (y147.take ((mn (y147.length : Int) 16) : Int).toNat)) else (none)) else (none))) else (none))))) = some (r1, r2, r3) := by rw [if_neg (show ¬ (false = true) by decide)] at H; exact H
        clear H
        have H := H1
        clear H1
        have HC32 := Aside0.mk H
        clear H
        go_upto_if 46 with (fail)
        go_cut [] (fun wc => ∃ (kq : Nat) (x129001_31 : List (S35)) (u129001 : Value), Aside0 (network_Forward.j1 kq a1 t133 a0_0 x129001_31 = some (r1, r2, r3)) ∧ Aside0 (kq ≤ kj5) ∧ Aside0 (Kd.R k35 35 wc w.heap.size (fun _ => True) u129001 x129001_31) ∧ Aside0 (wc.heap[gb128]? = some (.cells #[.int .i64 a0_0, u129001] 26 (0, 0))) ∧ Aside0 (wc.heap[gb129]? = some (.cells #[.int .i64 0, (.slice none 0 0)] 26 (0, 0))) ∧ Aside0 (Below w.heap.size w wc))
        case first =>
          have H := HC32.out
          clear HC32
          by_cases c33 : t134 = 255
          · rw [if_pos c33] at H
            have c33b0 : (t134 == 255) = true := beq_iff_eq.mpr c33
            have c33b1 : (t134 != 255) = false := bne_eq_false_iff_eq.mpr c33
            clear c33
            (first | rw [c33b0] | (simp only [i64_w, i32_w]; rw [c33b0]) | skip)
            have H' := Aside0.mk H
            clear H
            go_wp2
            go_meet
            case rel => exact ⟨_, (t130), (.slice Ao12 t130.length co12), H', ⟨by have := HJ5.out; first | omega | exact Nat.le_refl _⟩, ⟨by (with_reducible repeat (first | apply Kd.R_alloc | apply Kd.R_drewN | apply Kd.R_drew)); exact HO_129001.out⟩, ⟨by (with_reducible repeat (first | refine blk_drewN ?_ _ | refine blk_drew ?_ | refine blk_alloc ?_ _)); exact BK128.out⟩, ⟨by (with_reducible repeat (first | refine blk_drewN ?_ _ | refine blk_drew ?_ | refine blk_alloc ?_ _)); exact BK129.out⟩, ⟨by repeat (first | (with_reducible first | exact HB.out | apply below_alloc | apply pw_below_drewN | apply below_drew1 | refine below_set ?_ GE128.out | refine below_set ?_ GE129.out) | exact HB.out)⟩⟩
          · rw [if_neg c33] at H
            have c33b0 : (t134 == 255) = false := beq_eq_false_iff_ne.mpr c33
            have c33b1 : (t134 != 255) = true := bne_iff_ne.mpr c33
            (first | rw [c33b0] | (simp only [i64_w, i32_w]; rw [c33b0]) | skip)
            replace H := Option.bind_eq_some_iff.mp H
            obtain ⟨t137, A340, H⟩ := H
            replace H : (if t137 ≥ 0 then (if t137 < 1000000 ∧ t137 < (t130.length : Int) then ((some (t130.take t137.toNat ++ t130.drop (t137.toNat + 1) : List (S35))).bind fun y138 => (if y138.length < 1000000 then ((some ((⟨t134, a1⟩ : S35) :: y138 : List (S35))).bind fun y141 => (if 0 ≤ (mn (y141.length : Int) 16) then (if (mn (y141.length : Int) 16) ≤ (y141.length : Int) then (network_Forward.j1 kj5 a1 t133 a0_0 (y141.take ((mn (y141.length : Int) 16) : Int).toNat)) else (none)) else (none))) else (none))) else (none)) else (if t130.length < 1000000 then ((some ((⟨t134, a1⟩ : S35) :: t130 : List (S35))).bind fun y147 => (if 0 ≤ (mn (y147.length : Int) 16) then (if (mn (y147.length : Int) 16) ≤ (y147.length : Int) then (network_Forward.j1 kj5 a1 t133 a0_0 (y147.take ((mn (y147.length : Int) 16) : Int).toNat)) else (none)) else (none))) else (none))) = some (r1, r2, r3) := H
            have A34 := Aside0.mk A340
            clear A340
            by_cases c35 : t137 ≥ 0
            · rw [if_pos c35] at H
              have c35b0 : decide (0 ≤ t137) = true := decide_eq_true c35
              clear c35
              by_cases c36 : t137 < 1000000 ∧ t137 < (t130.length : Int)
              · rw [if_pos c36] at H
                have LMc36 := Aside0.mk c36
                clear c36
                obtain ⟨y138, hy138⟩ : ∃ y_ : List (S35), y_ = (t130.take t137.toNat ++ t130.drop (t137.toNat + 1)) := ⟨_, rfl⟩
                replace H : (if y138.length < 1000000 then ((some ((⟨t134, a1⟩ : S35) :: y138 : List (S35))).bind fun y141 => (if 0 ≤ (mn (y141.length : Int) 16) then (if (mn (y141.length : Int) 16) ≤ (y141.length : Int) then (network_Forward.j1 kj5 a1 t133 a0_0 (y141.take ((mn (y141.length : Int) 16) : Int).toNat)) else (none)) else (none))) else (none)) = some (r1, r2, r3) := by first | (rw [hy138]; with_reducible exact H) | (have H2_ := (Option.bind_some _ _).symm.trans H; rw [hy138]; with_reducible exact H2_) | (have H2_ := (Option.bind_some _ _).symm.trans H; with_reducible exact H2_) | with_reducible exact H | (rw [hy138]; exact H) | exact H
                have Ny138 := Aside0.mk hy138
                clear hy138
                by_cases c37 : y138.length < 1000000
                · rw [if_pos c37] at H
                  have LMc37 := Aside0.mk c37
                  clear c37
                  obtain ⟨y141, hy141⟩ : ∃ y_ : List (S35), y_ = ((⟨t134, a1⟩ : S35) :: y138) := ⟨_, rfl⟩
                  replace H : (if 0 ≤ (mn (y141.length : Int) 16) then (if (mn (y141.length : Int) 16) ≤ (y141.length : Int) then (network_Forward.j1 kj5 a1 t133 a0_0 (y141.take ((mn (y141.length : Int) 16) : Int).toNat)) else (none)) else (none)) = some (r1, r2, r3) := by first | (rw [hy141]; with_reducible exact H) | (have H2_ := (Option.bind_some _ _).symm.trans H; rw [hy141]; with_reducible exact H2_) | (have H2_ := (Option.bind_some _ _).symm.trans H; with_reducible exact H2_) | with_reducible exact H | (rw [hy141]; exact H) | exact H
                  have Ny141 := Aside0.mk hy141
                  clear hy141
                  obtain ⟨ji38, hji38⟩ : ∃ j_ : Int, (mn (y141.length : Int) 16) = j_ := ⟨_, rfl⟩
                  replace H : (if 0 ≤ (ji38) then (if (ji38) ≤ (y141.length : Int) then (network_Forward.j1 kj5 a1 t133 a0_0 (y141.take ((ji38) : Int).toNat)) else (none)) else (none)) = some (r1, r2, r3) := by first | (rw [hji38] at H; exact H) | (simp only [hji38] at H ⊢; exact H)
                  (try rw [hji38] at A34)
                  (try (have hji38h : ji38 ≤ 16 := by (rw [← hji38]; unfold mn; (repeat' split) <;> omega)))
                  (try (have hji38g : ji38 ≤ 64 := by omega))
                  (try (have hji38l : 0 ≤ ji38 := by (rw [← hji38]; unfold mn; (repeat' split) <;> omega)))
                  (try (have hji38m : 0 ≤ ji38 := by omega))
                  have hji38_ : (if 16 < (y141.length : Int) then 16 else (y141.length : Int)) = ji38 := hji38
                  by_cases c39 : 0 ≤ (ji38)
                  · rw [if_pos c39] at H
                    have c39b0 := eq_true c39
                    have c39b1 : decide (0 ≤ (ji38)) = true := decide_eq_true c39
                    clear c39
                    by_cases c40 : (ji38) ≤ (y141.length : Int)
                    · rw [if_pos c40] at H
                      have c40b0 := eq_true c40
                      have c40b1 : decide ((ji38) ≤ (y141.length : Int)) = true := decide_eq_true c40
                      clear c40
                      obtain ⟨y144, hy144⟩ : ∃ y_ : List (S35), y_ = (y141.take ((ji38) : Int).toNat) := ⟨_, rfl⟩
                      replace H : (network_Forward.j1 kj5 a1 t133 a0_0 y144) = some (r1, r2, r3) := by first | (rw [hy144]; with_reducible exact H) | (have H2_ := (Option.bind_some _ _).symm.trans H; rw [hy144]; with_reducible exact H2_) | (have H2_ := (Option.bind_some _ _).symm.trans H; with_reducible exact H2_) | with_reducible exact H | (rw [hy144]; exact H) | exact H
                      have Ny144 := Aside0.mk hy144
                      clear hy144
                      have H' := Aside0.mk H
                      clear H
                      have hnb41 := NB128_129.out
                      have hnc41 := NB129_128.out
                      have hcz42_0 : wc.cell? ⟨gb128, 0, none⟩ = some (.int .i64 a0_0) := (blk_cell BK128.out 0).trans rfl
                      have hcz42_1 : wc.cell? ⟨gb128, 1, none⟩ = some (.slice Ao12 t130.length co12) := (blk_cell BK128.out 1).trans rfl
                      have hfz42_0 := blk_frozen BK128.out 0
                      have hfz42_1 := blk_frozen BK128.out 1
                      go_wp2_with (first | ((with_reducible refine gate_callee (f := 18) rfl ?_); refine goesL_ (some 50) rfl rfl Try.func18 (by kernel_rfl) rfl #[.slice Ao12 t130.length co12, .int .u8 t134] rfl (by (try simp only [List.map_toArray, List.map_cons, List.map_nil]); first | done | rfl | (simp only [List.length_drop, List.length_take]; rfl)) ?_; (with_reducible refine (network_find.calls _ _ t130 t134 t137 _ ?side1 ?side2 A34.out).mono ?_); (case side1 => repeat (first | exact (Kd.R_reads' HO_129001.out).2.2 | (with_reducible refine Kd.C_alloc ?_ _) | (with_reducible refine Kd.C_drewN ?_ _) | (with_reducible refine Kd.C_drew ?_))); (case side2 => exact (Kd.R_reads' HO_129001.out).2.1); rintro e w43 ⟨rfl, hb⟩; refine ⟨_, rfl, ?_⟩; have n0_ := Aside0.mk (Kd.R_below (by (with_reducible repeat (first | apply Kd.R_alloc | apply Kd.R_drewN | apply Kd.R_drew)); exact HO_129001.out) hb); have n1_ := Aside0.mk (blk_below (g := gb128) (o := .cells #[.int .i64 a0_0, .slice Ao12 t130.length co12] 26 (0, 0)) (by (with_reducible repeat (first | refine blk_drewN ?_ _ | refine blk_drew ?_ | refine blk_alloc ?_ _)); exact BK128.out) hb); have n2_ := Aside0.mk (blk_below (g := gb129) (o := .cells #[.int .i64 0, .slice none 0 0] 26 (0, 0)) (by (with_reducible repeat (first | refine blk_drewN ?_ _ | refine blk_drew ?_ | refine blk_alloc ?_ _)); exact BK129.out) hb); have n3_ := Aside0.mk (below_step (by repeat (first | (with_reducible first | exact HB.out | apply below_alloc | apply pw_below_drewN | apply below_drew1 | refine below_set ?_ GE128.out | refine below_set ?_ GE129.out) | exact HB.out)) hb); clear HO_129001; clear BK128; clear BK129; clear HB; have HO_129001 := n0_; have BK128 := n1_; have BK129 := n2_; have HB := n3_; clear n0_ n1_ n2_ n3_; (try clear hb); (try clear hb2); (try clear hk); (try clear hi); have hcz44_0 : w43.cell? ⟨gb128, 0, none⟩ = some (.int .i64 a0_0) := (blk_cell BK128.out 0).trans rfl; have hcz44_1 : w43.cell? ⟨gb128, 1, none⟩ = some (.slice Ao12 t130.length co12) := (blk_cell BK128.out 1).trans rfl; have hfz44_0 := blk_frozen BK128.out 0; have hfz44_1 := blk_frozen BK128.out 1) | (go_at_call 19; (with_reducible refine (del35 w.heap.size w _ (.slice Ao12 t130.length co12) t130 t137 _ ?aI ?aJ ?aL ?aO ?aB ?aS).mono ?_); (case aI => exact of_decide_eq_true (by assumption)); (case aJ => have h0_ : 0 ≤ t137 := of_decide_eq_true (by assumption); obtain ⟨g1_, g2_⟩ := LMc36.out; first | rfl | (unfold wrap64; omega)); (case aL => obtain ⟨g1_, g2_⟩ := LMc36.out; exact g2_); (case aB => exact (by repeat (first | (with_reducible first | exact HB.out | apply below_alloc | apply pw_below_drewN | apply below_drew1 | refine below_set ?_ GE128.out | refine below_set ?_ GE129.out) | exact HB.out))); (case aO => exact (by (with_reducible repeat (first | apply Kd.R_alloc | apply Kd.R_drewN | apply Kd.R_drew)); exact HO_129001.out)); (case aS => exact (below_size (by repeat (first | (with_reducible first | exact HB.out | apply below_alloc | apply pw_below_drewN | apply below_drew1 | refine below_set ?_ GE128.out | refine below_set ?_ GE129.out) | exact HB.out)))); rintro e w45 ⟨v139, rfl, ho, hb, hg, hat⟩; rw [← Ny138.out] at ho; have n0_ := Aside0.mk (blk_grown (g := gb128) (o := .cells #[.int .i64 a0_0, .slice Ao12 t130.length co12] 26 (0, 0)) (by (with_reducible repeat (first | refine blk_drewN ?_ _ | refine blk_drew ?_ | refine blk_alloc ?_ _)); exact BK128.out) hg (Kd.R_ne HO_129001.out BK128.out (by decide))); have n1_ := Aside0.mk (blk_grown (g := gb129) (o := .cells #[.int .i64 0, .slice none 0 0] 26 (0, 0)) (by (with_reducible repeat (first | refine blk_drewN ?_ _ | refine blk_drew ?_ | refine blk_alloc ?_ _)); exact BK129.out) hg (Kd.R_ne HO_129001.out BK129.out (by decide))); have n2_ := Aside0.mk (hb); have n3_ := Aside0.mk (ho); clear BK128; clear BK129; clear HB; clear HO_129001; have BK128 := n0_; have BK129 := n1_; have HB := n2_; have HO140 := n3_; clear n0_ n1_ n2_ n3_; clear ho hb hg hat; obtain ⟨Ao46, co46, eo46⟩ := Kd.R_slice HO140.out; subst eo46; have hcz47_0 : w45.cell? ⟨gb128, 0, none⟩ = some (.int .i64 a0_0) := (blk_cell BK128.out 0).trans rfl; have hcz47_1 : w45.cell? ⟨gb128, 1, none⟩ = some (.slice Ao12 t130.length co12) := (blk_cell BK128.out 1).trans rfl; have hfz47_0 := blk_frozen BK128.out 0; have hfz47_1 := blk_frozen BK128.out 1) | (go_at_call 20; (with_reducible refine (ins35 w.heap.size w _ (.slice Ao46 y138.length co46) y138 t134 a1 _ ?aN ?aL ?aO ?aB ?aS).mono ?_); (case aN => first | rfl | (simp; done) | (go_simp; done)); (case aO => exact (by (with_reducible repeat (first | apply Kd.R_alloc | apply Kd.R_drewN | apply Kd.R_drew)); exact Kd.R_mono (Kd.R_far (p := ⟨gb128, 1, none⟩) (Kd.R_types HO140.out BK128.out (by decide)) (fun _ hk => hk.2) (.slice Ao46 y138.length co46)) (fun _ hk => trivial))); (case aB => exact (by repeat (first | (with_reducible first | exact HB.out | apply below_alloc | apply pw_below_drewN | apply below_drew1 | refine below_set ?_ GE128.out | refine below_set ?_ GE129.out) | exact HB.out))); (case aS => exact (below_size (by repeat (first | (with_reducible first | exact HB.out | apply below_alloc | apply pw_below_drewN | apply below_drew1 | refine below_set ?_ GE128.out | refine below_set ?_ GE129.out) | exact HB.out)))); (case aL => have := LMc37.out; omega); rintro e w48 ⟨v142, rfl, ho, hb, hg, hat⟩; rw [← Ny141.out] at ho; have n0_ := Aside0.mk (blk_grown (g := gb128) (o := .cells #[.int .i64 a0_0, .slice Ao46 y138.length co46] 26 (0, 0)) (by (with_reducible repeat (first | refine blk_drewN ?_ _ | refine blk_drew ?_ | refine blk_alloc ?_ _)); refine blk_put (cs := #[.int .i64 a0_0, .slice Ao12 t130.length co12]) ?_ 1 _ rfl; (with_reducible repeat (first | refine blk_drewN ?_ _ | refine blk_drew ?_ | refine blk_alloc ?_ _)); exact BK128.out) hg (Kd.R_ne HO140.out BK128.out (by decide))); have n1_ := Aside0.mk (blk_grown (g := gb129) (o := .cells #[.int .i64 0, .slice none 0 0] 26 (0, 0)) (by (with_reducible repeat (first | refine blk_drewN ?_ _ | refine blk_drew ?_ | refine blk_alloc ?_ _)); refine blk_far ?_ NB129_128.out _; (with_reducible repeat (first | refine blk_drewN ?_ _ | refine blk_drew ?_ | refine blk_alloc ?_ _)); exact BK129.out) hg (Kd.R_ne HO140.out BK129.out (by decide))); have n2_ := Aside0.mk (hb); have n3_ := Aside0.mk (ho); clear BK128; clear BK129; clear HB; clear HO140; have BK128 := n0_; have BK129 := n1_; have HB := n2_; have HO143 := n3_; clear n0_ n1_ n2_ n3_; clear ho hb hg hat; obtain ⟨Ao49, co49, eo49⟩ := Kd.R_slice HO143.out; subst eo49; have hcz50_0 : w48.cell? ⟨gb128, 0, none⟩ = some (.int .i64 a0_0) := (blk_cell BK128.out 0).trans rfl; have hcz50_1 : w48.cell? ⟨gb128, 1, none⟩ = some (.slice Ao46 y138.length co46) := (blk_cell BK128.out 1).trans rfl; have hfz50_0 := blk_frozen BK128.out 0; have hfz50_1 := blk_frozen BK128.out 1) | ((with_reducible refine gate_store (t := 24) (p := 67) rfl ?_); refine store_event (t := 24) (p := 67) (v := ?vo_w51) (w1 := (w48.setCell ⟨gb128, 1, none⟩ (.slice Ao49 y141.length co49))) ?hg ?ho ?hn ?hr ?_; (case ho => rfl); (case hg => rfl); (case hn => rfl); (case hr => first | (go_simp; done) | (go_simp; rfl)); intro w51 hw; have n0_ : Aside0 (Kd.R k35 35 w51 w.heap.size (fun _ => True) (.slice Ao49 y141.length co49) y141) := ⟨(by rw [hw]; exact (by (with_reducible repeat (first | apply Kd.R_alloc | apply Kd.R_drewN | apply Kd.R_drew)); exact Kd.R_mono (Kd.R_far (p := ⟨gb128, 1, none⟩) (Kd.R_types HO143.out BK128.out (by decide)) (fun _ hk => hk.2) (.slice Ao49 y141.length co49)) (fun _ hk => trivial)))⟩; have n1_ : Aside0 (w51.heap[gb128]? = some (.cells #[.int .i64 a0_0, .slice Ao49 y141.length co49] 26 (0, 0))) := ⟨(by rw [hw]; exact (by (with_reducible repeat (first | refine blk_drewN ?_ _ | refine blk_drew ?_ | refine blk_alloc ?_ _)); refine blk_put (cs := #[.int .i64 a0_0, .slice Ao46 y138.length co46]) ?_ 1 _ rfl; (with_reducible repeat (first | refine blk_drewN ?_ _ | refine blk_drew ?_ | refine blk_alloc ?_ _)); exact BK128.out))⟩; have n2_ : Aside0 (w51.heap[gb129]? = some (.cells #[.int .i64 0, .slice none 0 0] 26 (0, 0))) := ⟨(by rw [hw]; exact (by (with_reducible repeat (first | refine blk_drewN ?_ _ | refine blk_drew ?_ | refine blk_alloc ?_ _)); refine blk_far ?_ NB129_128.out _; (with_reducible repeat (first | refine blk_drewN ?_ _ | refine blk_drew ?_ | refine blk_alloc ?_ _)); exact BK129.out))⟩; have n3_ : Aside0 (Below w.heap.size w w51) := ⟨(by rw [hw]; exact (by repeat (first | (with_reducible first | exact HB.out | apply below_alloc | apply pw_below_drewN | apply below_drew1 | refine below_set ?_ GE128.out | refine below_set ?_ GE129.out) | exact HB.out)))⟩; clear hw; clear HO143; clear BK128; clear BK129; clear HB; have HO143 := n0_; have BK128 := n1_; have BK129 := n2_; have HB := n3_; clear n0_ n1_ n2_ n3_; have hcz52_0 : w51.cell? ⟨gb128, 0, none⟩ = some (.int .i64 a0_0) := (blk_cell BK128.out 0).trans rfl; have hcz52_1 : w51.cell? ⟨gb128, 1, none⟩ = some (.slice Ao49 y141.length co49) := (blk_cell BK128.out 1).trans rfl; have hfz52_0 := blk_frozen BK128.out 0; have hfz52_1 := blk_frozen BK128.out 1; have q53 : ((ji38) : Int) ≤ ((y141.length : Int) : Int) := of_decide_eq_true (by first | (with_reducible assumption) | assumption); obtain ⟨i053, hi053, _, hsz53, _⟩ := info_parts info35; have hcut53 := cut_to (P := Try.prog) 24 35 .i64 Try.underlying24 hi053 Ao49 y141.length co49 (ji38) (of_decide_eq_true (by first | (with_reducible assumption) | assumption)) q53 (Kd.R_reads' HO143.out).2.1; have hr53 := Kd.R_take (m := ((ji38) : Int).toNat) HO143.out (by omega); have hy53 : y144.length = ((ji38) : Int).toNat := (by rw [Ny144.out, List.length_take]; omega); rw [← Ny144.out] at hr53; rw [← hy53] at hr53 hcut53; clear hy53 hi053 hsz53 HO143; have HO146 := Aside0.mk hr53; clear hr53; replace q53 := eq_true q53))
                      go_meet
                      case rel => exact ⟨_, (y144), (.slice Ao49 y144.length co49), H', ⟨by have := HJ5.out; first | omega | exact Nat.le_refl _⟩, ⟨by (with_reducible repeat (first | apply Kd.R_alloc | apply Kd.R_drewN | apply Kd.R_drew)); exact Kd.R_mono (Kd.R_far (p := ⟨gb128, 1, none⟩) (Kd.R_types HO146.out BK128.out (by decide)) (fun _ hk => hk.2) (.slice Ao49 y144.length co49)) (fun _ hk => trivial)⟩, ⟨by (with_reducible repeat (first | refine blk_drewN ?_ _ | refine blk_drew ?_ | refine blk_alloc ?_ _)); refine blk_put (cs := #[.int .i64 a0_0, .slice Ao49 y141.length co49]) ?_ 1 _ rfl; (with_reducible repeat (first | refine blk_drewN ?_ _ | refine blk_drew ?_ | refine blk_alloc ?_ _)); exact BK128.out⟩, ⟨by (with_reducible repeat (first | refine blk_drewN ?_ _ | refine blk_drew ?_ | refine blk_alloc ?_ _)); refine blk_far ?_ NB129_128.out _; (with_reducible repeat (first | refine blk_drewN ?_ _ | refine blk_drew ?_ | refine blk_alloc ?_ _)); exact BK129.out⟩, ⟨by repeat (first | (with_reducible first | exact HB.out | apply below_alloc | apply pw_below_drewN | apply below_drew1 | refine below_set ?_ GE128.out | refine below_set ?_ GE129.out) | exact HB.out)⟩⟩
                    · rw [if_neg c40] at H
                      exact absurd H (by simp)
                  · rw [if_neg c39] at H
                    exact absurd H (by simp)
                · rw [if_neg c37] at H
                  exact absurd H (by simp)
              · rw [if_neg c36] at H
                exact absurd H (by simp)
            · rw [if_neg c35] at H
              have c35b0 : decide (0 ≤ t137) = false := decide_eq_false c35
              clear c35
              by_cases c54 : t130.length < 1000000
              · rw [if_pos c54] at H
                have LMc54 := Aside0.mk c54
                clear c54
                obtain ⟨y147, hy147⟩ : ∃ y_ : List (S35), y_ = ((⟨t134, a1⟩ : S35) :: t130) := ⟨_, rfl⟩
                replace H : (if 0 ≤ (mn (y147.length : Int) 16) then (if (mn (y147.length : Int) 16) ≤ (y147.length : Int) then (network_Forward.j1 kj5 a1 t133 a0_0 (y147.take ((mn (y147.length : Int) 16) : Int).toNat)) else (none)) else (none)) = some (r1, r2, r3) := by first | (rw [hy147]; with_reducible exact H) | (have H2_ := (Option.bind_some _ _).symm.trans H; rw [hy147]; with_reducible exact H2_) | (have H2_ := (Option.bind_some _ _).symm.trans H; with_reducible exact H2_) | with_reducible exact H | (rw [hy147]; exact H) | exact H
                have Ny147 := Aside0.mk hy147
                clear hy147
                obtain ⟨ji55, hji55⟩ : ∃ j_ : Int, (mn (y147.length : Int) 16) = j_ := ⟨_, rfl⟩
                replace H : (if 0 ≤ (ji55) then (if (ji55) ≤ (y147.length : Int) then (network_Forward.j1 kj5 a1 t133 a0_0 (y147.take ((ji55) : Int).toNat)) else (none)) else (none)) = some (r1, r2, r3) := by first | (rw [hji55] at H; exact H) | (simp only [hji55] at H ⊢; exact H)
                (try rw [hji55] at A34)
                (try (have hji55h : ji55 ≤ 16 := by (rw [← hji55]; unfold mn; (repeat' split) <;> omega)))
                (try (have hji55g : ji55 ≤ 64 := by omega))
                (try (have hji55l : 0 ≤ ji55 := by (rw [← hji55]; unfold mn; (repeat' split) <;> omega)))
                (try (have hji55m : 0 ≤ ji55 := by omega))
                have hji55_ : (if 16 < (y147.length : Int) then 16 else (y147.length : Int)) = ji55 := hji55
                by_cases c56 : 0 ≤ (ji55)
                · rw [if_pos c56] at H
                  have c56b0 := eq_true c56
                  have c56b1 : decide (0 ≤ (ji55)) = true := decide_eq_true c56
                  clear c56
                  by_cases c57 : (ji55) ≤ (y147.length : Int)
                  · rw [if_pos c57] at H
                    have c57b0 := eq_true c57
                    have c57b1 : decide ((ji55) ≤ (y147.length : Int)) = true := decide_eq_true c57
                    clear c57
                    obtain ⟨y150, hy150⟩ : ∃ y_ : List (S35), y_ = (y147.take ((ji55) : Int).toNat) := ⟨_, rfl⟩
                    replace H : (network_Forward.j1 kj5 a1 t133 a0_0 y150) = some (r1, r2, r3) := by first | (rw [hy150]; with_reducible exact H) | (have H2_ := (Option.bind_some _ _).symm.trans H; rw [hy150]; with_reducible exact H2_) | (have H2_ := (Option.bind_some _ _).symm.trans H; with_reducible exact H2_) | with_reducible exact H | (rw [hy150]; exact H) | exact H
                    have Ny150 := Aside0.mk hy150
                    clear hy150
                    have H' := Aside0.mk H
                    clear H
                    have hnb58 := NB128_129.out
                    have hnc58 := NB129_128.out
                    have hcz59_0 : wc.cell? ⟨gb128, 0, none⟩ = some (.int .i64 a0_0) := (blk_cell BK128.out 0).trans rfl
                    have hcz59_1 : wc.cell? ⟨gb128, 1, none⟩ = some (.slice Ao12 t130.length co12) := (blk_cell BK128.out 1).trans rfl
                    have hfz59_0 := blk_frozen BK128.out 0
                    have hfz59_1 := blk_frozen BK128.out 1
                    go_wp2_with (first | ((with_reducible refine gate_callee (f := 18) rfl ?_); refine goesL_ (some 50) rfl rfl Try.func18 (by kernel_rfl) rfl #[.slice Ao12 t130.length co12, .int .u8 t134] rfl (by (try simp only [List.map_toArray, List.map_cons, List.map_nil]); first | done | rfl | (simp only [List.length_drop, List.length_take]; rfl)) ?_; (with_reducible refine (network_find.calls _ _ t130 t134 t137 _ ?side1 ?side2 A34.out).mono ?_); (case side1 => repeat (first | exact (Kd.R_reads' HO_129001.out).2.2 | (with_reducible refine Kd.C_alloc ?_ _) | (with_reducible refine Kd.C_drewN ?_ _) | (with_reducible refine Kd.C_drew ?_))); (case side2 => exact (Kd.R_reads' HO_129001.out).2.1); rintro e w60 ⟨rfl, hb⟩; refine ⟨_, rfl, ?_⟩; have n0_ := Aside0.mk (Kd.R_below (by (with_reducible repeat (first | apply Kd.R_alloc | apply Kd.R_drewN | apply Kd.R_drew)); exact HO_129001.out) hb); have n1_ := Aside0.mk (blk_below (g := gb128) (o := .cells #[.int .i64 a0_0, .slice Ao12 t130.length co12] 26 (0, 0)) (by (with_reducible repeat (first | refine blk_drewN ?_ _ | refine blk_drew ?_ | refine blk_alloc ?_ _)); exact BK128.out) hb); have n2_ := Aside0.mk (blk_below (g := gb129) (o := .cells #[.int .i64 0, .slice none 0 0] 26 (0, 0)) (by (with_reducible repeat (first | refine blk_drewN ?_ _ | refine blk_drew ?_ | refine blk_alloc ?_ _)); exact BK129.out) hb); have n3_ := Aside0.mk (below_step (by repeat (first | (with_reducible first | exact HB.out | apply below_alloc | apply pw_below_drewN | apply below_drew1 | refine below_set ?_ GE128.out | refine below_set ?_ GE129.out) | exact HB.out)) hb); clear HO_129001; clear BK128; clear BK129; clear HB; have HO_129001 := n0_; have BK128 := n1_; have BK129 := n2_; have HB := n3_; clear n0_ n1_ n2_ n3_; (try clear hb); (try clear hb2); (try clear hk); (try clear hi); have hcz61_0 : w60.cell? ⟨gb128, 0, none⟩ = some (.int .i64 a0_0) := (blk_cell BK128.out 0).trans rfl; have hcz61_1 : w60.cell? ⟨gb128, 1, none⟩ = some (.slice Ao12 t130.length co12) := (blk_cell BK128.out 1).trans rfl; have hfz61_0 := blk_frozen BK128.out 0; have hfz61_1 := blk_frozen BK128.out 1) | (go_at_call 20; (with_reducible refine (ins35 w.heap.size w _ (.slice Ao12 t130.length co12) t130 t134 a1 _ ?aN ?aL ?aO ?aB ?aS).mono ?_); (case aN => first | rfl | (simp; done) | (go_simp; done)); (case aO => exact (by (with_reducible repeat (first | apply Kd.R_alloc | apply Kd.R_drewN | apply Kd.R_drew)); exact HO_129001.out)); (case aB => exact (by repeat (first | (with_reducible first | exact HB.out | apply below_alloc | apply pw_below_drewN | apply below_drew1 | refine below_set ?_ GE128.out | refine below_set ?_ GE129.out) | exact HB.out))); (case aS => exact (below_size (by repeat (first | (with_reducible first | exact HB.out | apply below_alloc | apply pw_below_drewN | apply below_drew1 | refine below_set ?_ GE128.out | refine below_set ?_ GE129.out) | exact HB.out)))); (case aL => have := LMc54.out; omega); rintro e w62 ⟨v148, rfl, ho, hb, hg, hat⟩; rw [← Ny147.out] at ho; have n0_ := Aside0.mk (blk_grown (g := gb128) (o := .cells #[.int .i64 a0_0, .slice Ao12 t130.length co12] 26 (0, 0)) (by (with_reducible repeat (first | refine blk_drewN ?_ _ | refine blk_drew ?_ | refine blk_alloc ?_ _)); exact BK128.out) hg (Kd.R_ne HO_129001.out BK128.out (by decide))); have n1_ := Aside0.mk (blk_grown (g := gb129) (o := .cells #[.int .i64 0, .slice none 0 0] 26 (0, 0)) (by (with_reducible repeat (first | refine blk_drewN ?_ _ | refine blk_drew ?_ | refine blk_alloc ?_ _)); exact BK129.out) hg (Kd.R_ne HO_129001.out BK129.out (by decide))); have n2_ := Aside0.mk (hb); have n3_ := Aside0.mk (ho); clear BK128; clear BK129; clear HB; clear HO_129001; have BK128 := n0_; have BK129 := n1_; have HB := n2_; have HO149 := n3_; clear n0_ n1_ n2_ n3_; clear ho hb hg hat; obtain ⟨Ao63, co63, eo63⟩ := Kd.R_slice HO149.out; subst eo63; have hcz64_0 : w62.cell? ⟨gb128, 0, none⟩ = some (.int .i64 a0_0) := (blk_cell BK128.out 0).trans rfl; have hcz64_1 : w62.cell? ⟨gb128, 1, none⟩ = some (.slice Ao12 t130.length co12) := (blk_cell BK128.out 1).trans rfl; have hfz64_0 := blk_frozen BK128.out 0; have hfz64_1 := blk_frozen BK128.out 1) | ((with_reducible refine gate_store (t := 24) (p := 67) rfl ?_); refine store_event (t := 24) (p := 67) (v := ?vo_w65) (w1 := (w62.setCell ⟨gb128, 1, none⟩ (.slice Ao63 y147.length co63))) ?hg ?ho ?hn ?hr ?_; (case ho => rfl); (case hg => rfl); (case hn => rfl); (case hr => first | (go_simp; done) | (go_simp; rfl)); intro w65 hw; have n0_ : Aside0 (Kd.R k35 35 w65 w.heap.size (fun _ => True) (.slice Ao63 y147.length co63) y147) := ⟨(by rw [hw]; exact (by (with_reducible repeat (first | apply Kd.R_alloc | apply Kd.R_drewN | apply Kd.R_drew)); exact Kd.R_mono (Kd.R_far (p := ⟨gb128, 1, none⟩) (Kd.R_types HO149.out BK128.out (by decide)) (fun _ hk => hk.2) (.slice Ao63 y147.length co63)) (fun _ hk => trivial)))⟩; have n1_ : Aside0 (w65.heap[gb128]? = some (.cells #[.int .i64 a0_0, .slice Ao63 y147.length co63] 26 (0, 0))) := ⟨(by rw [hw]; exact (by (with_reducible repeat (first | refine blk_drewN ?_ _ | refine blk_drew ?_ | refine blk_alloc ?_ _)); refine blk_put (cs := #[.int .i64 a0_0, .slice Ao12 t130.length co12]) ?_ 1 _ rfl; (with_reducible repeat (first | refine blk_drewN ?_ _ | refine blk_drew ?_ | refine blk_alloc ?_ _)); exact BK128.out))⟩; have n2_ : Aside0 (w65.heap[gb129]? = some (.cells #[.int .i64 0, .slice none 0 0] 26 (0, 0))) := ⟨(by rw [hw]; exact (by (with_reducible repeat (first | refine blk_drewN ?_ _ | refine blk_drew ?_ | refine blk_alloc ?_ _)); refine blk_far ?_ NB129_128.out _; (with_reducible repeat (first | refine blk_drewN ?_ _ | refine blk_drew ?_ | refine blk_alloc ?_ _)); exact BK129.out))⟩; have n3_ : Aside0 (Below w.heap.size w w65) := ⟨(by rw [hw]; exact (by repeat (first | (with_reducible first | exact HB.out | apply below_alloc | apply pw_below_drewN | apply below_drew1 | refine below_set ?_ GE128.out | refine below_set ?_ GE129.out) | exact HB.out)))⟩; clear hw; clear HO149; clear BK128; clear BK129; clear HB; have HO149 := n0_; have BK128 := n1_; have BK129 := n2_; have HB := n3_; clear n0_ n1_ n2_ n3_; have hcz66_0 : w65.cell? ⟨gb128, 0, none⟩ = some (.int .i64 a0_0) := (blk_cell BK128.out 0).trans rfl; have hcz66_1 : w65.cell? ⟨gb128, 1, none⟩ = some (.slice Ao63 y147.length co63) := (blk_cell BK128.out 1).trans rfl; have hfz66_0 := blk_frozen BK128.out 0; have hfz66_1 := blk_frozen BK128.out 1; have q67 : ((ji55) : Int) ≤ ((y147.length : Int) : Int) := of_decide_eq_true (by first | (with_reducible assumption) | assumption); obtain ⟨i067, hi067, _, hsz67, _⟩ := info_parts info35; have hcut67 := cut_to (P := Try.prog) 24 35 .i64 Try.underlying24 hi067 Ao63 y147.length co63 (ji55) (of_decide_eq_true (by first | (with_reducible assumption) | assumption)) q67 (Kd.R_reads' HO149.out).2.1; have hr67 := Kd.R_take (m := ((ji55) : Int).toNat) HO149.out (by omega); have hy67 : y150.length = ((ji55) : Int).toNat := (by rw [Ny150.out, List.length_take]; omega); rw [← Ny150.out] at hr67; rw [← hy67] at hr67 hcut67; clear hy67 hi067 hsz67 HO149; have HO152 := Aside0.mk hr67; clear hr67; replace q67 := eq_true q67))
                    go_meet
                    case rel => exact ⟨_, (y150), (.slice Ao63 y150.length co63), H', ⟨by have := HJ5.out; first | omega | exact Nat.le_refl _⟩, ⟨by (with_reducible repeat (first | apply Kd.R_alloc | apply Kd.R_drewN | apply Kd.R_drew)); exact Kd.R_mono (Kd.R_far (p := ⟨gb128, 1, none⟩) (Kd.R_types HO152.out BK128.out (by decide)) (fun _ hk => hk.2) (.slice Ao63 y150.length co63)) (fun _ hk => trivial)⟩, ⟨by (with_reducible repeat (first | refine blk_drewN ?_ _ | refine blk_drew ?_ | refine blk_alloc ?_ _)); refine blk_put (cs := #[.int .i64 a0_0, .slice Ao63 y147.length co63]) ?_ 1 _ rfl; (with_reducible repeat (first | refine blk_drewN ?_ _ | refine blk_drew ?_ | refine blk_alloc ?_ _)); exact BK128.out⟩, ⟨by (with_reducible repeat (first | refine blk_drewN ?_ _ | refine blk_drew ?_ | refine blk_alloc ?_ _)); refine blk_far ?_ NB129_128.out _; (with_reducible repeat (first | refine blk_drewN ?_ _ | refine blk_drew ?_ | refine blk_alloc ?_ _)); exact BK129.out⟩, ⟨by repeat (first | (with_reducible first | exact HB.out | apply below_alloc | apply pw_below_drewN | apply below_drew1 | refine below_set ?_ GE128.out | refine below_set ?_ GE129.out) | exact HB.out)⟩⟩
                  · rw [if_neg c57] at H
                    exact absurd H (by simp)
                · rw [if_neg c56] at H
                  exact absurd H (by simp)
              · rw [if_neg c54] at H
                exact absurd H (by simp)
        case rest =>
          clear HC32
          try clear c1
          try clear c2
          try clear p2
          try clear c3
          try clear c4
          try clear c5
          try clear q5
          try clear q6
          try clear c9
          try clear c14
          try clear c16
          try clear c17
          try clear c17b0
          try clear c18
          try clear c21
          try clear c25
          try clear c28
          try clear c29
          try clear c33
          try clear c33b0
          try clear c33b1
          try clear c35
          try clear c35b0
          try clear c36
          try clear c37
          try clear c39
          try clear c39b0
          try clear c39b1
          try clear c40
          try clear c40b0
          try clear c40b1
          try clear c41
          try clear q53
          try clear c54
          try clear c56
          try clear c56b0
          try clear c56b1
          try clear c57
          try clear c57b0
          try clear c57b1
          try clear c58
          try clear q67
          try clear hcz10_0
          try clear hcz10_1
          try clear hcz13_0
          try clear hcz13_1
          try clear hcz19_0
          try clear hcz19_1
          try clear hcz22_0
          try clear hcz22_1
          try clear hcz24_0
          try clear hcz24_1
          try clear hcz26_0
          try clear hcz26_1
          try clear hcz30_0
          try clear hcz30_1
          try clear hcz31_0
          try clear hcz31_1
          try clear hcz42_0
          try clear hcz42_1
          try clear hcz44_0
          try clear hcz44_1
          try clear hcz47_0
          try clear hcz47_1
          try clear hcz50_0
          try clear hcz50_1
          try clear hcz52_0
          try clear hcz52_1
          try clear hcz59_0
          try clear hcz59_1
          try clear hcz61_0
          try clear hcz61_1
          try clear hcz64_0
          try clear hcz64_1
          try clear hcz66_0
          try clear hcz66_1
          try clear hfz10_0
          try clear hfz10_1
          try clear hfz13_0
          try clear hfz13_1
          try clear hfz19_0
          try clear hfz19_1
          try clear hfz22_0
          try clear hfz22_1
          try clear hfz24_0
          try clear hfz24_1
          try clear hfz26_0
          try clear hfz26_1
          try clear hfz30_0
          try clear hfz30_1
          try clear hfz31_0
          try clear hfz31_1
          try clear hfz42_0
          try clear hfz42_1
          try clear hfz44_0
          try clear hfz44_1
          try clear hfz47_0
          try clear hfz47_1
          try clear hfz50_0
          try clear hfz50_1
          try clear hfz52_0
          try clear hfz52_1
          try clear hfz59_0
          try clear hfz59_1
          try clear hfz61_0
          try clear hfz61_1
          try clear hfz64_0
          try clear hfz64_1
          try clear hfz66_0
          try clear hfz66_1
          try clear p2
          try clear q53
          try clear q67
          obtain ⟨kq, x129001_31, u129001, HA, HJ31, HO_129001, BK128, BK129, HB⟩ := hcut
          cases kq with
          | zero => exact absurd HA.out (by simp [network_Forward.j1])
          | succ kj31 =>
            have H := HA.out
            clear HA
            simp only [network_Forward.j1] at H
            have HC68 := Aside0.mk H
            clear H
            go_upto_if 77 with (fail)
            go_cut [13] (fun v13 wc => ∃ (kq : Nat) (x13_67 : Int), v13 = .int .i64 x13_67 ∧ Aside0 (network_Forward.j2 kq a1 ([] : List Int) x13_67 a0_0 x129001_31 = some (r1, r2, r3)) ∧ Aside0 (kq ≤ kj31) ∧ Aside0 (Kd.R (Kd.int .i64) 3 wc w.heap.size (fun _ => True) (.slice none 0 0) ([] : List Int)) ∧ Aside0 (Kd.R k35 35 wc w.heap.size (fun _ => True) u129001 x129001_31) ∧ Aside0 (wc.heap[gb128]? = some (.cells #[.int .i64 a0_0, u129001] 26 (0, 0))) ∧ Aside0 (wc.heap[gb129]? = some (.cells #[.int .i64 0, (.slice none 0 0)] 26 (0, 0))) ∧ Aside0 (Below w.heap.size w wc))
            case first =>
              have H := HC68.out
              clear HC68
              by_cases c69 : t133 = 255
              · rw [if_pos c69] at H
                have c69b0 : (t133 == 255) = true := beq_iff_eq.mpr c69
                have c69b1 : (t133 != 255) = false := bne_eq_false_iff_eq.mpr c69
                clear c69
                (first | rw [c69b0] | (simp only [i64_w, i32_w]; rw [c69b0]) | skip)
                have H' := Aside0.mk H
                clear H
                go_wp2
                go_meet
                case rel => exact ⟨_, ((-1)), (by first | rfl | (simp; done) | (simp [*]; done)), H', ⟨by have := HJ5.out; have := HJ31.out; first | omega | exact Nat.le_refl _⟩, ⟨by first | exact Kd.R_nil _ _ _ _ _ | exact Kd.N_nil _ _ _ _ _ | exact Kd.V_nil _ _ _ _ _ | exact Kd.Q_nil _ _ _ _ _ | exact Kd.S_nil _ _ _ _ _⟩, ⟨by (with_reducible repeat (first | apply Kd.R_alloc | apply Kd.R_drewN | apply Kd.R_drew)); exact HO_129001.out⟩, ⟨by (with_reducible repeat (first | refine blk_drewN ?_ _ | refine blk_drew ?_ | refine blk_alloc ?_ _)); exact BK128.out⟩, ⟨by (with_reducible repeat (first | refine blk_drewN ?_ _ | refine blk_drew ?_ | refine blk_alloc ?_ _)); exact BK129.out⟩, ⟨by repeat (first | (with_reducible first | exact HB.out | apply below_alloc | apply pw_below_drewN | apply below_drew1 | refine below_set ?_ GE128.out | refine below_set ?_ GE129.out) | exact HB.out)⟩⟩
              · rw [if_neg c69] at H
                have c69b0 : (t133 == 255) = false := beq_eq_false_iff_ne.mpr c69
                have c69b1 : (t133 != 255) = true := bne_iff_ne.mpr c69
                (first | rw [c69b0] | (simp only [i64_w, i32_w]; rw [c69b0]) | skip)
                replace H := Option.bind_eq_some_iff.mp H
                obtain ⟨⟨t153, t154⟩, A700, H⟩ := H
                replace H : (if t154 = true then (network_Forward.j2 kj31 a1 ([] : List Int) t153 a0_0 x129001_31) else (network_Forward.j2 kj31 a1 ([] : List Int) (-1) a0_0 x129001_31)) = some (r1, r2, r3) := H
                have A70 := Aside0.mk A700
                clear A700
                by_cases c71 : t154 = true
                · subst c71
                  have H1 : (network_Forward.j2 kj31 a1 ([] : List Int) t153 a0_0 x129001_31) = some (r1, r2, r3) := by rw [if_pos rfl] at H; exact H
                  clear H
                  have H := H1
                  clear H1
                  have H' := Aside0.mk H
                  clear H
                  have hnb72 := NB128_129.out
                  have hnc72 := NB129_128.out
                  have hcz73_0 : wc.cell? ⟨gb128, 0, none⟩ = some (.int .i64 a0_0) := (blk_cell BK128.out 0).trans rfl
                  have hcz73_1 : wc.cell? ⟨gb128, 1, none⟩ = some (u129001) := (blk_cell BK128.out 1).trans rfl
                  have hfz73_0 := blk_frozen BK128.out 0
                  have hfz73_1 := blk_frozen BK128.out 1
                  obtain ⟨Ao74, co74, eo74⟩ := Kd.R_slice HO_129001.out
                  subst eo74
                  go_wp2_with (first | ((with_reducible refine gate_callee (f := 12) rfl ?_); refine goesL_ (some 81) rfl rfl Try.func12 (by kernel_rfl) rfl #[.agg #[.int .i64 a0_0, .slice Ao74 x129001_31.length co74], .int .u8 t133] rfl (by (try simp only [List.map_toArray, List.map_cons, List.map_nil]); first | done | rfl | (simp only [List.length_drop, List.length_take]; rfl)) ?_; (with_reducible refine (network_Port.calls a0_0 _ _ x129001_31 t133 t153 true _ ?side1 ?side2 A70.out).mono ?_); (case side1 => repeat (first | exact (Kd.R_reads' HO_129001.out).2.2 | (with_reducible refine Kd.C_alloc ?_ _) | (with_reducible refine Kd.C_drewN ?_ _) | (with_reducible refine Kd.C_drew ?_))); (case side2 => exact (Kd.R_reads' HO_129001.out).2.1); rintro e w75 ⟨rfl, hb⟩; refine ⟨_, rfl, ?_⟩; have n0_ := Aside0.mk (Kd.R_below (by (with_reducible repeat (first | apply Kd.R_alloc | apply Kd.R_drewN | apply Kd.R_drew)); exact HO_129001.out) hb); have n1_ := Aside0.mk (blk_below (g := gb128) (o := .cells #[.int .i64 a0_0, .slice Ao74 x129001_31.length co74] 26 (0, 0)) (by (with_reducible repeat (first | refine blk_drewN ?_ _ | refine blk_drew ?_ | refine blk_alloc ?_ _)); exact BK128.out) hb); have n2_ := Aside0.mk (blk_below (g := gb129) (o := .cells #[.int .i64 0, .slice none 0 0] 26 (0, 0)) (by (with_reducible repeat (first | refine blk_drewN ?_ _ | refine blk_drew ?_ | refine blk_alloc ?_ _)); exact BK129.out) hb); have n3_ := Aside0.mk (below_step (by repeat (first | (with_reducible first | exact HB.out | apply below_alloc | apply pw_below_drewN | apply below_drew1 | refine below_set ?_ GE128.out | refine below_set ?_ GE129.out) | exact HB.out)) hb); clear HO_129001; clear BK128; clear BK129; clear HB; have HO_129001 := n0_; have BK128 := n1_; have BK129 := n2_; have HB := n3_; clear n0_ n1_ n2_ n3_; (try clear hb); (try clear hb2); (try clear hk); (try clear hi)))
                  go_meet
                  case rel => exact ⟨_, (t153), (by first | rfl | (simp; done) | (simp [*]; done)), H', ⟨by have := HJ5.out; have := HJ31.out; first | omega | exact Nat.le_refl _⟩, ⟨by first | exact Kd.R_nil _ _ _ _ _ | exact Kd.N_nil _ _ _ _ _ | exact Kd.V_nil _ _ _ _ _ | exact Kd.Q_nil _ _ _ _ _ | exact Kd.S_nil _ _ _ _ _⟩, ⟨by (with_reducible repeat (first | apply Kd.R_alloc | apply Kd.R_drewN | apply Kd.R_drew)); exact HO_129001.out⟩, ⟨by (with_reducible repeat (first | refine blk_drewN ?_ _ | refine blk_drew ?_ | refine blk_alloc ?_ _)); exact BK128.out⟩, ⟨by (with_reducible repeat (first | refine blk_drewN ?_ _ | refine blk_drew ?_ | refine blk_alloc ?_ _)); exact BK129.out⟩, ⟨by repeat (first | (with_reducible first | exact HB.out | apply below_alloc | apply pw_below_drewN | apply below_drew1 | refine below_set ?_ GE128.out | refine below_set ?_ GE129.out) | exact HB.out)⟩⟩
                · replace c71 := Bool.eq_false_iff.mpr c71
                  subst c71
                  have H1 : (network_Forward.j2 kj31 a1 ([] : List Int) (-1) a0_0 x129001_31) = some (r1, r2, r3) := by rw [if_neg (show ¬ (false = true) by decide)] at H; exact H
                  clear H
                  have H := H1
                  clear H1
                  have H' := Aside0.mk H
                  clear H
                  have hnb76 := NB128_129.out
                  have hnc76 := NB129_128.out
                  have hcz77_0 : wc.cell? ⟨gb128, 0, none⟩ = some (.int .i64 a0_0) := (blk_cell BK128.out 0).trans rfl
                  have hcz77_1 : wc.cell? ⟨gb128, 1, none⟩ = some (u129001) := (blk_cell BK128.out 1).trans rfl
                  have hfz77_0 := blk_frozen BK128.out 0
                  have hfz77_1 := blk_frozen BK128.out 1
                  obtain ⟨Ao78, co78, eo78⟩ := Kd.R_slice HO_129001.out
                  subst eo78
                  go_wp2_with (first | ((with_reducible refine gate_callee (f := 12) rfl ?_); refine goesL_ (some 81) rfl rfl Try.func12 (by kernel_rfl) rfl #[.agg #[.int .i64 a0_0, .slice Ao78 x129001_31.length co78], .int .u8 t133] rfl (by (try simp only [List.map_toArray, List.map_cons, List.map_nil]); first | done | rfl | (simp only [List.length_drop, List.length_take]; rfl)) ?_; (with_reducible refine (network_Port.calls a0_0 _ _ x129001_31 t133 t153 false _ ?side1 ?side2 A70.out).mono ?_); (case side1 => repeat (first | exact (Kd.R_reads' HO_129001.out).2.2 | (with_reducible refine Kd.C_alloc ?_ _) | (with_reducible refine Kd.C_drewN ?_ _) | (with_reducible refine Kd.C_drew ?_))); (case side2 => exact (Kd.R_reads' HO_129001.out).2.1); rintro e w79 ⟨rfl, hb⟩; refine ⟨_, rfl, ?_⟩; have n0_ := Aside0.mk (Kd.R_below (by (with_reducible repeat (first | apply Kd.R_alloc | apply Kd.R_drewN | apply Kd.R_drew)); exact HO_129001.out) hb); have n1_ := Aside0.mk (blk_below (g := gb128) (o := .cells #[.int .i64 a0_0, .slice Ao78 x129001_31.length co78] 26 (0, 0)) (by (with_reducible repeat (first | refine blk_drewN ?_ _ | refine blk_drew ?_ | refine blk_alloc ?_ _)); exact BK128.out) hb); have n2_ := Aside0.mk (blk_below (g := gb129) (o := .cells #[.int .i64 0, .slice none 0 0] 26 (0, 0)) (by (with_reducible repeat (first | refine blk_drewN ?_ _ | refine blk_drew ?_ | refine blk_alloc ?_ _)); exact BK129.out) hb); have n3_ := Aside0.mk (below_step (by repeat (first | (with_reducible first | exact HB.out | apply below_alloc | apply pw_below_drewN | apply below_drew1 | refine below_set ?_ GE128.out | refine below_set ?_ GE129.out) | exact HB.out)) hb); clear HO_129001; clear BK128; clear BK129; clear HB; have HO_129001 := n0_; have BK128 := n1_; have BK129 := n2_; have HB := n3_; clear n0_ n1_ n2_ n3_; (try clear hb); (try clear hb2); (try clear hk); (try clear hi)))
                  go_meet
                  case rel => exact ⟨_, ((-1)), (by first | rfl | (simp; done) | (simp [*]; done)), H', ⟨by have := HJ5.out; have := HJ31.out; first | omega | exact Nat.le_refl _⟩, ⟨by first | exact Kd.R_nil _ _ _ _ _ | exact Kd.N_nil _ _ _ _ _ | exact Kd.V_nil _ _ _ _ _ | exact Kd.Q_nil _ _ _ _ _ | exact Kd.S_nil _ _ _ _ _⟩, ⟨by (with_reducible repeat (first | apply Kd.R_alloc | apply Kd.R_drewN | apply Kd.R_drew)); exact HO_129001.out⟩, ⟨by (with_reducible repeat (first | refine blk_drewN ?_ _ | refine blk_drew ?_ | refine blk_alloc ?_ _)); exact BK128.out⟩, ⟨by (with_reducible repeat (first | refine blk_drewN ?_ _ | refine blk_drew ?_ | refine blk_alloc ?_ _)); exact BK129.out⟩, ⟨by repeat (first | (with_reducible first | exact HB.out | apply below_alloc | apply pw_below_drewN | apply below_drew1 | refine below_set ?_ GE128.out | refine below_set ?_ GE129.out) | exact HB.out)⟩⟩
            case rest =>
              clear HC68
              try clear c1
              try clear c2
              try clear p2
              try clear c3
              try clear c4
              try clear c5
              try clear q5
              try clear c6
              try clear q6
              try clear c7
              try clear c9
              try clear c12
              try clear c14
              try clear c16
              try clear c17
              try clear c17b0
              try clear c18
              try clear c21
              try clear c25
              try clear c28
              try clear c29
              try clear c33
              try clear c33b0
              try clear c33b1
              try clear c35
              try clear c35b0
              try clear c36
              try clear c37
              try clear c39
              try clear c39b0
              try clear c39b1
              try clear c40
              try clear c40b0
              try clear c40b1
              try clear c41
              try clear q53
              try clear c54
              try clear c56
              try clear c56b0
              try clear c56b1
              try clear c57
              try clear c57b0
              try clear c57b1
              try clear c58
              try clear q67
              try clear c69
              try clear c69b0
              try clear c69b1
              try clear c71
              try clear c72
              try clear c76
              try clear hcz10_0
              try clear hcz10_1
              try clear hcz13_0
              try clear hcz13_1
              try clear hcz19_0
              try clear hcz19_1
              try clear hcz22_0
              try clear hcz22_1
              try clear hcz24_0
              try clear hcz24_1
              try clear hcz26_0
              try clear hcz26_1
              try clear hcz30_0
              try clear hcz30_1
              try clear hcz31_0
              try clear hcz31_1
              try clear hcz42_0
              try clear hcz42_1
              try clear hcz44_0
              try clear hcz44_1
              try clear hcz47_0
              try clear hcz47_1
              try clear hcz50_0
              try clear hcz50_1
              try clear hcz52_0
              try clear hcz52_1
              try clear hcz59_0
              try clear hcz59_1
              try clear hcz61_0
              try clear hcz61_1
              try clear hcz64_0
              try clear hcz64_1
              try clear hcz66_0
              try clear hcz66_1
              try clear hcz73_0
              try clear hcz73_1
              try clear hcz77_0
              try clear hcz77_1
              try clear hfz10_0
              try clear hfz10_1
              try clear hfz13_0
              try clear hfz13_1
              try clear hfz19_0
              try clear hfz19_1
              try clear hfz22_0
              try clear hfz22_1
              try clear hfz24_0
              try clear hfz24_1
              try clear hfz26_0
              try clear hfz26_1
              try clear hfz30_0
              try clear hfz30_1
              try clear hfz31_0
              try clear hfz31_1
              try clear hfz42_0
              try clear hfz42_1
              try clear hfz44_0
              try clear hfz44_1
              try clear hfz47_0
              try clear hfz47_1
              try clear hfz50_0
              try clear hfz50_1
              try clear hfz52_0
              try clear hfz52_1
              try clear hfz59_0
              try clear hfz59_1
              try clear hfz61_0
              try clear hfz61_1
              try clear hfz64_0
              try clear hfz64_1
              try clear hfz66_0
              try clear hfz66_1
              try clear hfz73_0
              try clear hfz73_1
              try clear hfz77_0
              try clear hfz77_1
              try clear p2
              try clear q5
              try clear q53
              try clear q6
              try clear q67
              obtain ⟨kq, x13_67, rfl, HA, HJ67, HO_12, HO_129001, BK128, BK129, HB⟩ := hcut
              cases kq with
              | zero => exact absurd HA.out (by simp [network_Forward.j2])
              | succ kj67 =>
                have H := HA.out
                clear HA
                simp only [network_Forward.j2] at H
                have H' := Aside0.mk H
                clear H
                have hnb80 := NB128_129.out
                have hnc80 := NB129_128.out
                have hcz81_0 : wc.cell? ⟨gb128, 0, none⟩ = some (.int .i64 a0_0) := (blk_cell BK128.out 0).trans rfl
                have hcz81_1 : wc.cell? ⟨gb128, 1, none⟩ = some (u129001) := (blk_cell BK128.out 1).trans rfl
                have hfz81_0 := blk_frozen BK128.out 0
                have hfz81_1 := blk_frozen BK128.out 1
                go_wp2
                go_loopg [12, 88] kj67 (fun kq v12 v88 w' => ∃ (x12_4 : List Int) (x88_4 : Int), v88 = .int .i64 x88_4 ∧ Aside0 (network_Forward.l0 kq a1 x12_4 x13_67 a0_0 x88_4 a0_0 x129001_31 = some (r1, r2, r3)) ∧ Aside0 (kq ≤ kj67) ∧ Aside0 (Kd.R (Kd.int .i64) 3 w' w.heap.size (fun _ => True) v12 x12_4) ∧ Aside0 (Kd.R k35 35 w' w.heap.size (fun _ => True) u129001 x129001_31) ∧ Aside0 (w'.heap[gb128]? = some (.cells #[.int .i64 a0_0, u129001] 26 (0, 0))) ∧ Aside0 (w'.heap[gb129]? = some (.cells #[.int .i64 0, (.slice none 0 0)] 26 (0, 0))) ∧ Aside0 (Below w.heap.size w w'))
                case atStart => exact ⟨(([] : List Int)), (0), (by first | rfl | (simp; done) | (simp [*]; done)), H', ⟨Nat.le_refl _⟩, ⟨by (with_reducible repeat (first | apply Kd.R_alloc | apply Kd.R_drewN | apply Kd.R_drew)); exact HO_12.out⟩, ⟨by (with_reducible repeat (first | apply Kd.R_alloc | apply Kd.R_drewN | apply Kd.R_drew)); exact HO_129001.out⟩, ⟨by (with_reducible repeat (first | refine blk_drewN ?_ _ | refine blk_drew ?_ | refine blk_alloc ?_ _)); exact BK128.out⟩, ⟨by (with_reducible repeat (first | refine blk_drewN ?_ _ | refine blk_drew ?_ | refine blk_alloc ?_ _)); exact BK129.out⟩, ⟨by repeat (first | (with_reducible first | exact HB.out | apply below_alloc | apply pw_below_drewN | apply below_drew1 | refine below_set ?_ GE128.out | refine below_set ?_ GE129.out) | exact HB.out)⟩⟩
                case round =>
                  clear H'
                  try clear c1
                  try clear c2
                  try clear p2
                  try clear c3
                  try clear c4
                  try clear c5
                  try clear q5
                  try clear c6
                  try clear q6
                  try clear c7
                  try clear c8
                  try clear c9
                  try clear c12
                  try clear c14
                  try clear c16
                  try clear c17
                  try clear c17b0
                  try clear c18
                  try clear c21
                  try clear c25
                  try clear c28
                  try clear c29
                  try clear c33
                  try clear c33b0
                  try clear c33b1
                  try clear c35
                  try clear c35b0
                  try clear c36
                  try clear c37
                  try clear c39
                  try clear c39b0
                  try clear c39b1
                  try clear c40
                  try clear c40b0
                  try clear c40b1
                  try clear c41
                  try clear q53
                  try clear c54
                  try clear c56
                  try clear c56b0
                  try clear c56b1
                  try clear c57
                  try clear c57b0
                  try clear c57b1
                  try clear c58
                  try clear q67
                  try clear c69
                  try clear c69b0
                  try clear c69b1
                  try clear c71
                  try clear c72
                  try clear c76
                  try clear c80
                  try clear hcz10_0
                  try clear hcz10_1
                  try clear hcz13_0
                  try clear hcz13_1
                  try clear hcz19_0
                  try clear hcz19_1
                  try clear hcz22_0
                  try clear hcz22_1
                  try clear hcz24_0
                  try clear hcz24_1
                  try clear hcz26_0
                  try clear hcz26_1
                  try clear hcz30_0
                  try clear hcz30_1
                  try clear hcz31_0
                  try clear hcz31_1
                  try clear hcz42_0
                  try clear hcz42_1
                  try clear hcz44_0
                  try clear hcz44_1
                  try clear hcz47_0
                  try clear hcz47_1
                  try clear hcz50_0
                  try clear hcz50_1
                  try clear hcz52_0
                  try clear hcz52_1
                  try clear hcz59_0
                  try clear hcz59_1
                  try clear hcz61_0
                  try clear hcz61_1
                  try clear hcz64_0
                  try clear hcz64_1
                  try clear hcz66_0
                  try clear hcz66_1
                  try clear hcz73_0
                  try clear hcz73_1
                  try clear hcz77_0
                  try clear hcz77_1
                  try clear hcz81_0
                  try clear hcz81_1
                  try clear hfz10_0
                  try clear hfz10_1
                  try clear hfz13_0
                  try clear hfz13_1
                  try clear hfz19_0
                  try clear hfz19_1
                  try clear hfz22_0
                  try clear hfz22_1
                  try clear hfz24_0
                  try clear hfz24_1
                  try clear hfz26_0
                  try clear hfz26_1
                  try clear hfz30_0
                  try clear hfz30_1
                  try clear hfz31_0
                  try clear hfz31_1
                  try clear hfz42_0
                  try clear hfz42_1
                  try clear hfz44_0
                  try clear hfz44_1
                  try clear hfz47_0
                  try clear hfz47_1
                  try clear hfz50_0
                  try clear hfz50_1
                  try clear hfz52_0
                  try clear hfz52_1
                  try clear hfz59_0
                  try clear hfz59_1
                  try clear hfz61_0
                  try clear hfz61_1
                  try clear hfz64_0
                  try clear hfz64_1
                  try clear hfz66_0
                  try clear hfz66_1
                  try clear hfz73_0
                  try clear hfz73_1
                  try clear hfz77_0
                  try clear hfz77_1
                  try clear hfz81_0
                  try clear hfz81_1
                  try clear p2
                  try clear q5
                  try clear q53
                  try clear q6
                  try clear q67
                  obtain ⟨x12_4, x88_4, rfl, HA, HK4, HO_12, HO_129001, BK128, BK129, HB⟩ := hrel
                  cases gk with
                  | zero => exact absurd HA.out (by simp [network_Forward.l0])
                  | succ k4 =>
                    have H := HA.out
                    clear HA
                    simp only [network_Forward.l0] at H
                    by_cases c82 : x88_4 < a0_0
                    · rw [if_pos c82] at H
                      have c82b0 : decide (x88_4 < a0_0) = true := decide_eq_true c82
                      clear c82
                      by_cases c83 : x88_4 = a1
                      · rw [if_pos c83] at H
                        have c83b0 : (x88_4 == a1) = true := beq_iff_eq.mpr c83
                        have c83b1 : (x88_4 != a1) = false := bne_eq_false_iff_eq.mpr c83
                        clear c83
                        have H' := Aside0.mk H
                        clear H
                        go_wp2
                        go_roundg k4
                        case measure => have := HJ5.out; have := HJ31.out; have := HJ67.out; have := HK4.out; omega
                        case rel => exact ⟨(x12_4), (wrap64 (x88_4 + 1)), (by first | rfl | (simp; done) | (simp [*]; done)), H', ⟨by have := HJ5.out; have := HJ31.out; have := HJ67.out; have := HK4.out; omega⟩, ⟨by (with_reducible repeat (first | apply Kd.R_alloc | apply Kd.R_drewN | apply Kd.R_drew)); exact HO_12.out⟩, ⟨by (with_reducible repeat (first | apply Kd.R_alloc | apply Kd.R_drewN | apply Kd.R_drew)); exact HO_129001.out⟩, ⟨by (with_reducible repeat (first | refine blk_drewN ?_ _ | refine blk_drew ?_ | refine blk_alloc ?_ _)); exact BK128.out⟩, ⟨by (with_reducible repeat (first | refine blk_drewN ?_ _ | refine blk_drew ?_ | refine blk_alloc ?_ _)); exact BK129.out⟩, ⟨by repeat (first | (with_reducible first | exact HB.out | apply below_alloc | apply pw_below_drewN | apply below_drew1 | refine below_set ?_ GE128.out | refine below_set ?_ GE129.out) | exact HB.out)⟩⟩
                      · rw [if_neg c83] at H
                        have c83b0 : (x88_4 == a1) = false := beq_eq_false_iff_ne.mpr c83
                        have c83b1 : (x88_4 != a1) = true := bne_iff_ne.mpr c83
                        by_cases c84 : x13_67 < 0
                        · rw [if_pos c84] at H
                          have c84b0 : decide (x13_67 < 0) = true := decide_eq_true c84
                          clear c84
                          by_cases c85 : x12_4.length < 17592186044416
                          · rw [if_pos c85] at H
                            have LMc85 := Aside0.mk c85
                            clear c85
                            obtain ⟨y155, hy155⟩ : ∃ y_ : List Int, y_ = (x12_4 ++ [x88_4]) := ⟨_, rfl⟩
                            replace H : (network_Forward.l0 k4 a1 y155 x13_67 a0_0 (wrap64 (x88_4 + 1)) a0_0 x129001_31) = some (r1, r2, r3) := by first | (rw [hy155]; with_reducible exact H) | (have H2_ := (Option.bind_some _ _).symm.trans H; rw [hy155]; with_reducible exact H2_) | (have H2_ := (Option.bind_some _ _).symm.trans H; with_reducible exact H2_) | with_reducible exact H | (rw [hy155]; exact H) | exact H
                            have Ny155 := Aside0.mk hy155
                            clear hy155
                            have H' := Aside0.mk H
                            clear H
                            go_wp2_with (first | ((with_reducible refine gate_builtin (b := .append) (xs := #[.tmp 103, .tmp 105]) rfl ?_); at_builtin; refine Kd.R_append (Kd.int .i64) (w0 := w) w.heap.size rfl (.tmp 103) (.tmp 105) 22 3 (.int .i64 0) 8 rfl Try.underlying22 info3 rfl (by decide) (by omega) u12 x12_4 x88_4 [.int .i64 x88_4] (fun _ => True) (fun _ => False) rfl rfl ?aP (fun _ hk => hk.elim) ?aF ?aO ?aB ?aS ?aL ?_; (case aP => exact rfl); (case aB => exact (by repeat (first | (with_reducible first | exact HB.out | apply below_alloc | apply pw_below_drewN | apply below_drew1 | refine below_set ?_ GE128.out | refine below_set ?_ GE129.out) | exact HB.out))); (case aF => exact (fun _ _ => trivial)); (case aO => exact (by (with_reducible repeat (first | apply Kd.R_alloc | apply Kd.R_drewN | apply Kd.R_drew)); exact HO_12.out)); (case aS => exact (below_size (by repeat (first | (with_reducible first | exact HB.out | apply below_alloc | apply pw_below_drewN | apply below_drew1 | refine below_set ?_ GE128.out | refine below_set ?_ GE129.out) | exact HB.out)))); (case aL => have := LMc85.out; omega); intro v156 w86 ho hb hg hat; rw [← Ny155.out] at ho; have n0_ := Aside0.mk (Kd.R_over' (by (with_reducible repeat (first | apply Kd.R_alloc | apply Kd.R_drewN | apply Kd.R_drew)); exact HO_129001.out) (Kd.R_typed (by (with_reducible repeat (first | apply Kd.R_alloc | apply Kd.R_drewN | apply Kd.R_drew)); exact HO_12.out)) (by decide) hg); have n1_ := Aside0.mk (blk_grown (g := gb128) (o := .cells #[.int .i64 a0_0, u129001] 26 (0, 0)) (by (with_reducible repeat (first | refine blk_drewN ?_ _ | refine blk_drew ?_ | refine blk_alloc ?_ _)); exact BK128.out) hg (Kd.R_ne HO_12.out BK128.out (by decide))); have n2_ := Aside0.mk (blk_grown (g := gb129) (o := .cells #[.int .i64 0, .slice none 0 0] 26 (0, 0)) (by (with_reducible repeat (first | refine blk_drewN ?_ _ | refine blk_drew ?_ | refine blk_alloc ?_ _)); exact BK129.out) hg (Kd.R_ne HO_12.out BK129.out (by decide))); have n3_ := Aside0.mk (hb); have n4_ := Aside0.mk (ho); clear HO_129001; clear BK128; clear BK129; clear HB; clear HO_12; have HO_129001 := n0_; have BK128 := n1_; have BK129 := n2_; have HB := n3_; have HO157 := n4_; clear n0_ n1_ n2_ n3_ n4_; clear ho hb hg hat))
                            go_roundg k4
                            case measure => have := HJ5.out; have := HJ31.out; have := HJ67.out; have := HK4.out; omega
                            case rel => exact ⟨(y155), (wrap64 (x88_4 + 1)), (by first | rfl | (simp; done) | (simp [*]; done)), H', ⟨by have := HJ5.out; have := HJ31.out; have := HJ67.out; have := HK4.out; omega⟩, ⟨by (with_reducible repeat (first | apply Kd.R_alloc | apply Kd.R_drewN | apply Kd.R_drew)); exact HO157.out⟩, ⟨by (with_reducible repeat (first | apply Kd.R_alloc | apply Kd.R_drewN | apply Kd.R_drew)); exact HO_129001.out⟩, ⟨by (with_reducible repeat (first | refine blk_drewN ?_ _ | refine blk_drew ?_ | refine blk_alloc ?_ _)); exact BK128.out⟩, ⟨by (with_reducible repeat (first | refine blk_drewN ?_ _ | refine blk_drew ?_ | refine blk_alloc ?_ _)); exact BK129.out⟩, ⟨by repeat (first | (with_reducible first | exact HB.out | apply below_alloc | apply pw_below_drewN | apply below_drew1 | refine below_set ?_ GE128.out | refine below_set ?_ GE129.out) | exact HB.out)⟩⟩
                          · rw [if_neg c85] at H
                            exact absurd H (by simp)
                        · rw [if_neg c84] at H
                          have c84b0 : decide (x13_67 < 0) = false := decide_eq_false c84
                          clear c84
                          by_cases c87 : x88_4 = x13_67
                          · rw [if_pos c87] at H
                            have c87b0 : (x88_4 == x13_67) = true := beq_iff_eq.mpr c87
                            have c87b1 : (x88_4 != x13_67) = false := bne_eq_false_iff_eq.mpr c87
                            clear c87
                            by_cases c88 : x12_4.length < 17592186044416
                            · rw [if_pos c88] at H
                              have LMc88 := Aside0.mk c88
                              clear c88
                              obtain ⟨y158, hy158⟩ : ∃ y_ : List Int, y_ = (x12_4 ++ [x88_4]) := ⟨_, rfl⟩
                              replace H : (network_Forward.l0 k4 a1 y158 x13_67 a0_0 (wrap64 (x88_4 + 1)) a0_0 x129001_31) = some (r1, r2, r3) := by first | (rw [hy158]; with_reducible exact H) | (have H2_ := (Option.bind_some _ _).symm.trans H; rw [hy158]; with_reducible exact H2_) | (have H2_ := (Option.bind_some _ _).symm.trans H; with_reducible exact H2_) | with_reducible exact H | (rw [hy158]; exact H) | exact H
                              have Ny158 := Aside0.mk hy158
                              clear hy158
                              have H' := Aside0.mk H
                              clear H
                              go_wp2_with (first | ((with_reducible refine gate_builtin (b := .append) (xs := #[.tmp 103, .tmp 105]) rfl ?_); at_builtin; refine Kd.R_append (Kd.int .i64) (w0 := w) w.heap.size rfl (.tmp 103) (.tmp 105) 22 3 (.int .i64 0) 8 rfl Try.underlying22 info3 rfl (by decide) (by omega) u12 x12_4 x88_4 [.int .i64 x88_4] (fun _ => True) (fun _ => False) rfl rfl ?aP (fun _ hk => hk.elim) ?aF ?aO ?aB ?aS ?aL ?_; (case aP => exact rfl); (case aB => exact (by repeat (first | (with_reducible first | exact HB.out | apply below_alloc | apply pw_below_drewN | apply below_drew1 | refine below_set ?_ GE128.out | refine below_set ?_ GE129.out) | exact HB.out))); (case aF => exact (fun _ _ => trivial)); (case aO => exact (by (with_reducible repeat (first | apply Kd.R_alloc | apply Kd.R_drewN | apply Kd.R_drew)); exact HO_12.out)); (case aS => exact (below_size (by repeat (first | (with_reducible first | exact HB.out | apply below_alloc | apply pw_below_drewN | apply below_drew1 | refine below_set ?_ GE128.out | refine below_set ?_ GE129.out) | exact HB.out)))); (case aL => have := LMc88.out; omega); intro v159 w89 ho hb hg hat; rw [← Ny158.out] at ho; have n0_ := Aside0.mk (Kd.R_over' (by (with_reducible repeat (first | apply Kd.R_alloc | apply Kd.R_drewN | apply Kd.R_drew)); exact HO_129001.out) (Kd.R_typed (by (with_reducible repeat (first | apply Kd.R_alloc | apply Kd.R_drewN | apply Kd.R_drew)); exact HO_12.out)) (by decide) hg); have n1_ := Aside0.mk (blk_grown (g := gb128) (o := .cells #[.int .i64 a0_0, u129001] 26 (0, 0)) (by (with_reducible repeat (first | refine blk_drewN ?_ _ | refine blk_drew ?_ | refine blk_alloc ?_ _)); exact BK128.out) hg (Kd.R_ne HO_12.out BK128.out (by decide))); have n2_ := Aside0.mk (blk_grown (g := gb129) (o := .cells #[.int .i64 0, .slice none 0 0] 26 (0, 0)) (by (with_reducible repeat (first | refine blk_drewN ?_ _ | refine blk_drew ?_ | refine blk_alloc ?_ _)); exact BK129.out) hg (Kd.R_ne HO_12.out BK129.out (by decide))); have n3_ := Aside0.mk (hb); have n4_ := Aside0.mk (ho); clear HO_129001; clear BK128; clear BK129; clear HB; clear HO_12; have HO_129001 := n0_; have BK128 := n1_; have BK129 := n2_; have HB := n3_; have HO160 := n4_; clear n0_ n1_ n2_ n3_ n4_; clear ho hb hg hat))
                              go_roundg k4
                              case measure => have := HJ5.out; have := HJ31.out; have := HJ67.out; have := HK4.out; omega
                              case rel => exact ⟨(y158), (wrap64 (x88_4 + 1)), (by first | rfl | (simp; done) | (simp [*]; done)), H', ⟨by have := HJ5.out; have := HJ31.out; have := HJ67.out; have := HK4.out; omega⟩, ⟨by (with_reducible repeat (first | apply Kd.R_alloc | apply Kd.R_drewN | apply Kd.R_drew)); exact HO160.out⟩, ⟨by (with_reducible repeat (first | apply Kd.R_alloc | apply Kd.R_drewN | apply Kd.R_drew)); exact HO_129001.out⟩, ⟨by (with_reducible repeat (first | refine blk_drewN ?_ _ | refine blk_drew ?_ | refine blk_alloc ?_ _)); exact BK128.out⟩, ⟨by (with_reducible repeat (first | refine blk_drewN ?_ _ | refine blk_drew ?_ | refine blk_alloc ?_ _)); exact BK129.out⟩, ⟨by repeat (first | (with_reducible first | exact HB.out | apply below_alloc | apply pw_below_drewN | apply below_drew1 | refine below_set ?_ GE128.out | refine below_set ?_ GE129.out) | exact HB.out)⟩⟩
                            · rw [if_neg c88] at H
                              exact absurd H (by simp)
                          · rw [if_neg c87] at H
                            have c87b0 : (x88_4 == x13_67) = false := beq_eq_false_iff_ne.mpr c87
                            have c87b1 : (x88_4 != x13_67) = true := bne_iff_ne.mpr c87
                            have H' := Aside0.mk H
                            clear H
                            go_wp2
                            go_roundg k4
                            case measure => have := HJ5.out; have := HJ31.out; have := HJ67.out; have := HK4.out; omega
                            case rel => exact ⟨(x12_4), (wrap64 (x88_4 + 1)), (by first | rfl | (simp; done) | (simp [*]; done)), H', ⟨by have := HJ5.out; have := HJ31.out; have := HJ67.out; have := HK4.out; omega⟩, ⟨by (with_reducible repeat (first | apply Kd.R_alloc | apply Kd.R_drewN | apply Kd.R_drew)); exact HO_12.out⟩, ⟨by (with_reducible repeat (first | apply Kd.R_alloc | apply Kd.R_drewN | apply Kd.R_drew)); exact HO_129001.out⟩, ⟨by (with_reducible repeat (first | refine blk_drewN ?_ _ | refine blk_drew ?_ | refine blk_alloc ?_ _)); exact BK128.out⟩, ⟨by (with_reducible repeat (first | refine blk_drewN ?_ _ | refine blk_drew ?_ | refine blk_alloc ?_ _)); exact BK129.out⟩, ⟨by repeat (first | (with_reducible first | exact HB.out | apply below_alloc | apply pw_below_drewN | apply below_drew1 | refine below_set ?_ GE128.out | refine below_set ?_ GE129.out) | exact HB.out)⟩⟩
                    · rw [if_neg c82] at H
                      have c82b0 : decide (x88_4 < a0_0) = false := decide_eq_false c82
                      clear c82
                      simp only [Option.some.injEq, Prod.mk.injEq] at H
                      obtain ⟨rfl, rfl, rfl⟩ := H
                      have hnb90 := NB128_129.out
                      have hnc90 := NB129_128.out
                      have hcz91_0 : wr.cell? ⟨gb128, 0, none⟩ = some (.int .i64 a0_0) := (blk_cell BK128.out 0).trans rfl
                      have hcz91_1 : wr.cell? ⟨gb128, 1, none⟩ = some (u129001) := (blk_cell BK128.out 1).trans rfl
                      have hfz91_0 := blk_frozen BK128.out 0
                      have hfz91_1 := blk_frozen BK128.out 1
                      have hcz92_0 : wr.cell? ⟨gb129, 0, none⟩ = some (.int .i64 0) := (blk_cell BK129.out 0).trans rfl
                      have hcz92_1 : wr.cell? ⟨gb129, 1, none⟩ = some (.slice none 0 0) := (blk_cell BK129.out 1).trans rfl
                      have hfz92_0 := blk_frozen BK129.out 0
                      have hfz92_1 := blk_frozen BK129.out 1
                      obtain ⟨Ao93, co93, eo93⟩ := Kd.R_slice HO_129001.out
                      subst eo93
                      go_wp2
                      refine bodyPost_ret (results_ct rfl _ _ gb129 26 #[.int .i64 a0_0, .slice Ao93 x129001_31.length co93] (0, 0) _ rfl (by (with_reducible repeat (first | refine blk_drewN ?_ _ | refine blk_drew ?_ | refine blk_alloc ?_ _)); refine blk_put (cs := #[.int .i64 a0_0, .slice none 0 0]) ?_ 1 _ rfl; (with_reducible repeat (first | refine blk_drewN ?_ _ | refine blk_drew ?_ | refine blk_alloc ?_ _)); refine blk_put (cs := #[.int .i64 0, .slice none 0 0]) ?_ 0 _ rfl; (with_reducible repeat (first | refine blk_drewN ?_ _ | refine blk_drew ?_ | refine blk_alloc ?_ _)); exact BK129.out) Try.underlying26 rfl (by kernel_rfl)) rfl ?_
                      exact ⟨_, _, by first | rfl | (simp [errW_none, errW_some] <;> rfl) | (simp [*, errW_none, errW_some] <;> rfl), by (with_reducible repeat (first | apply Kd.R_alloc | apply Kd.R_drewN | apply Kd.R_drew)); exact Kd.R_mono (Kd.R_far (p := ⟨gb129, 1, none⟩) (Kd.R_far (p := ⟨gb129, 0, none⟩) (Kd.R_types HO_129001.out BK129.out (by decide)) (fun _ hk => hk.2) (.int .i64 a0_0)) (fun _ hk => hk.2) (.slice Ao93 x129001_31.length co93)) (fun _ hk => trivial), by (with_reducible repeat (first | apply Kd.R_alloc | apply Kd.R_drewN | apply Kd.R_drew)); exact Kd.R_mono (Kd.R_far (p := ⟨gb129, 1, none⟩) (Kd.R_far (p := ⟨gb129, 0, none⟩) (Kd.R_types HO_12.out BK129.out (by decide)) (fun _ hk => hk.2) (.int .i64 a0_0)) (fun _ hk => hk.2) (.slice Ao93 x129001_31.length co93)) (fun _ hk => trivial), by repeat (first | (with_reducible first | exact HB.out | apply below_alloc | apply pw_below_drewN | apply below_drew1 | refine below_set ?_ GE128.out | refine below_set ?_ GE129.out) | exact HB.out)⟩

end Go.Proofs.Ytdkbhjmoiblobaa.HSwitchLearns
