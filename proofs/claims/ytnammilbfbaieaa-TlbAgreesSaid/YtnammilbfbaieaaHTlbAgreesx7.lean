-- Written for this claim by wip/hook.py, by means of the kit's print and of hand-proved contracts.
import Derived.Test.YtnammilbfbaieaaHTlbAgreesx0
import Derived.Test.YtnammilbfbaieaaHTlbAgreesx2
import Derived.Test.YtnammilbfbaieaaHTlbAgreesx3
import Derived.Test.YtnammilbfbaieaaHTlbAgreesx4
import Derived.Test.YtnammilbfbaieaaHTlbAgreesx5
import Derived.Test.YtnammilbfbaieaaHTlbAgreesx6
namespace Go.Proofs.Ytnammilbfbaieaa.HTlbAgrees
open Go.RowKit Go.Proofs.YtnammilbfbaieaaW.PrintWords Go.Proofs.YtnammilbfbaieaaW.PrintLast Go.Proofs.YtnammilbfbaieaaW.PrintMore
attribute [local go_sem] max2_int min2_int max_two min_two max_three min_three max_four min_four   -- for this text's walks alone
attribute [local go_sem] Instr.field asAgg
set_option linter.unusedVariables false
set_option linter.unusedSimpArgs false

/-! ### vmfleetlaw14_tables: function 6 -/
mutual
def vmfleetlaw14_tables.l0 : Nat → List Int → List Int → Int → Option (List Int)
  | 0, _, _, _ => none
  | k + 1, x0, x5, x6 => if x6 < (x0.length : Int) then (vmfleetlaw14_tables.j1 k x0 x5 x6 (decide (x6 < 60))) else (vmfleetlaw14_tables.j1 k x0 x5 x6 false)
def vmfleetlaw14_tables.j1 : Nat → List Int → List Int → Int → Bool → Option (List Int)
  | 0, _, _, _, _ => none
  | k + 1, x0, x5, x6, x19 => if x19 = true then (if 0 ≤ x6 then (if x6 < (x0.length : Int) then ((vmfleetmake_Mix.f (rd x0 x6) 9).bind fun t256 => ((vmfleetmake_Round.f t256 (x5.length : Int)).bind fun t257 => (if 0 ≤ t257 then (if t257 < (x5.length : Int) then (vmfleetlaw14_tables.l0 k x0 (x5.set (t257 : Int).toNat (Go.bits .or .u32 (Go.bits .or .u32 ((Go.bits .and .i64 (t256 / 65536) 31) % 4294967296) 1) ((((Go.bits .and .i64 (t256 / 16777216) 7) % 4294967296) * 256) % 4294967296))) (wrap64 (x6 + 1))) else (none)) else (none)))) else (none)) else (none)) else (some x5)
end
def vmfleetlaw14_tables.f (k : Nat) (l0 : List Int) (a1 : Int) : Option (List Int) := (vmfleetmake_Round.f a1 8).bind fun t251 => ((vmfleetref1_New.f (wrap64 (1 + t251))).bind fun t252 => (vmfleetlaw14_tables.l0 k l0 t252 0))
theorem vmfleetlaw14_tables.mono_l : ∀ k, (∀ y0 y1 y2, LeO (vmfleetlaw14_tables.l0 k y0 y1 y2) (vmfleetlaw14_tables.l0 (k + 1) y0 y1 y2)) ∧ (∀ y0 y1 y2 y3, LeO (vmfleetlaw14_tables.j1 k y0 y1 y2 y3) (vmfleetlaw14_tables.j1 (k + 1) y0 y1 y2 y3))
  | 0 => ⟨fun _ _ _ r h => by simp [vmfleetlaw14_tables.l0] at h, fun _ _ _ _ r h => by simp [vmfleetlaw14_tables.j1] at h⟩
  | k + 1 => by
    obtain ⟨ih0, ih1⟩ := vmfleetlaw14_tables.mono_l k
    refine ⟨?_, ?_⟩
    · intro y0 y1 y2
      unfold vmfleetlaw14_tables.l0
      repeat' first
      | (with_reducible exact ih0 _ _ _)
      | (with_reducible exact ih1 _ _ _ _)
      | (with_reducible exact LeO.refl _)
      | (with_reducible exact LeO.none _)
      | (with_reducible refine LeO.ite ?_ ?_)
      | (with_reducible refine LeO.bind ?_ (fun _ => ?_))
      | exact ih0 _ _ _
      | exact ih1 _ _ _ _
      | exact LeO.none _
      | refine LeO.ite ?_ ?_
      | refine LeO.bind ?_ (fun _ => ?_)
    · intro y0 y1 y2 y3
      unfold vmfleetlaw14_tables.j1
      repeat' first
      | (with_reducible exact ih0 _ _ _)
      | (with_reducible exact ih1 _ _ _ _)
      | (with_reducible exact LeO.refl _)
      | (with_reducible exact LeO.none _)
      | (with_reducible refine LeO.ite ?_ ?_)
      | (with_reducible refine LeO.bind ?_ (fun _ => ?_))
      | exact ih0 _ _ _
      | exact ih1 _ _ _ _
      | exact LeO.none _
      | refine LeO.ite ?_ ?_
      | refine LeO.bind ?_ (fun _ => ?_)
theorem vmfleetlaw14_tables.mono : ∀ a0 a1 k, LeO (vmfleetlaw14_tables.f k a0 a1) (vmfleetlaw14_tables.f (k + 1) a0 a1) := by
  intro a0 a1 k
  obtain ⟨ih0, ih1⟩ := vmfleetlaw14_tables.mono_l k
  unfold vmfleetlaw14_tables.f
  repeat' first
      | (with_reducible exact ih0 _ _ _)
      | (with_reducible exact ih1 _ _ _ _)
      | (with_reducible exact LeO.refl _)
      | (with_reducible exact LeO.none _)
      | (with_reducible refine LeO.ite ?_ ?_)
      | (with_reducible refine LeO.bind ?_ (fun _ => ?_))
      | exact ih0 _ _ _
      | exact ih1 _ _ _ _
      | exact LeO.none _
      | refine LeO.ite ?_ ?_
      | refine LeO.bind ?_ (fun _ => ?_)
set_option maxHeartbeats 8000000 in
set_option maxRecDepth 100000 in
theorem vmfleetlaw14_tables.calls (k : Nat) (A0 : Option Addr) (c0 : Nat) (l0 : List Int) (a1 : Int) (r : List Int) (w : World) (hr0 : Kd.C (Kd.int .i64) w A0 l0.length l0) (hc0 : l0.length ≤ c0) (h : vmfleetlaw14_tables.f k l0 a1 = some r) :
    Calls Try.prog 6 #[.slice A0 l0.length c0, .int .i64 a1] w fun e w' => ∃ v0_ : Value, e = .returned (v0_) ∧ Kd.R (Kd.int .u32) 23 w' w.heap.size (fun _ => True) v0_ r ∧ Below w.heap.size w w' := by
  have HR0 := Aside0.mk hr0
  have HC0 := Aside0.mk hc0
  clear hr0 hc0
  have HB := Aside0.mk (Below.refl w.heap.size w)
  have H : ((vmfleetmake_Round.f a1 8).bind fun t251 => ((vmfleetref1_New.f (wrap64 (1 + t251))).bind fun t252 => (vmfleetlaw14_tables.l0 k l0 t252 0))) = some r := h
  clear h
  replace H := Option.bind_eq_some_iff.mp H
  obtain ⟨t251, A30, H⟩ := H
  replace H : ((vmfleetref1_New.f (wrap64 (1 + t251))).bind fun t252 => (vmfleetlaw14_tables.l0 k l0 t252 0)) = some r := H
  have A3 := Aside0.mk A30
  clear A30
  replace H := Option.bind_eq_some_iff.mp H
  obtain ⟨t252, A40, H⟩ := H
  replace H : (vmfleetlaw14_tables.l0 k l0 t252 0) = some r := H
  have A4 := Aside0.mk A40
  clear A40
  have H' := Aside0.mk H
  clear H
  go_enter Try.func6, Try.ntmps6
  go_wp2_with (first | ((with_reducible refine gate_callee (f := 16) rfl ?_); refine goesL_ (some 9) rfl rfl Try.func16 (by kernel_rfl) rfl #[.int .i64 a1, .int .i64 8] rfl (by (try simp only [List.map_toArray, List.map_cons, List.map_nil]); first | done | rfl | (simp only [List.length_drop, List.length_take]; rfl)) ?_; (with_reducible refine (vmfleetmake_Round.calls a1 8 t251 _ A3.out).mono ?_); rintro e w' ⟨rfl, ⟨nd, rfl⟩⟩; refine ⟨_, rfl, ?_⟩) | ((with_reducible refine gate_callee (f := 15) rfl ?_); refine goesL_ (some 11) rfl rfl Try.func15 (by kernel_rfl) rfl #[.int .i64 (wrap64 (1 + t251))] rfl (by (try simp only [List.map_toArray, List.map_cons, List.map_nil]); first | done | rfl | (simp only [List.length_drop, List.length_take]; rfl)) ?_; (with_reducible refine (vmfleetref1_New.calls (wrap64 (1 + t251)) t252 _ A4.out).mono ?_); rintro e w5 ⟨v253, rfl, ho0, hb⟩; refine ⟨_, rfl, ?_⟩; have n0_ := Aside0.mk (Kd.R_lower ho0 (below_size (by repeat (first | (with_reducible first | exact HB.out | apply below_alloc | apply pw_below_drewN | apply below_drew1) | exact HB.out)))); have n1_ := Aside0.mk (below_step (by repeat (first | (with_reducible first | exact HB.out | apply below_alloc | apply pw_below_drewN | apply below_drew1) | exact HB.out)) hb); clear HB; have HO254 := n0_; have HB := n1_; clear n0_ n1_; (try clear hb); (try clear hb2); (try clear hk); (try clear hi); (try clear ho0)))
  go_loopg [6] k (fun kq v6 w' => ∃ (x5_1 : List Int) (x6_1 : Int), v6 = .int .i64 x6_1 ∧ Aside0 (vmfleetlaw14_tables.l0 kq l0 x5_1 x6_1 = some r) ∧ Aside0 (kq ≤ k) ∧ Aside0 (Kd.R (Kd.int .u32) 23 w' w.heap.size (fun _ => True) v253 x5_1) ∧ Aside0 (Below w.heap.size w w'))
  case atStart => exact ⟨(t252), (0), (by first | rfl | (simp; done) | (simp [*]; done)), H', ⟨Nat.le_refl _⟩, ⟨by (with_reducible repeat (first | apply Kd.R_alloc | apply Kd.R_drewN | apply Kd.R_drew)); exact HO254.out⟩, ⟨by repeat (first | (with_reducible first | exact HB.out | apply below_alloc | apply pw_below_drewN | apply below_drew1) | exact HB.out)⟩⟩
  case round =>
    clear H'
    try clear c1
    try clear p2
    obtain ⟨x5_1, x6_1, rfl, HA, HK1, HO_5, HB⟩ := hrel
    cases gk with
    | zero => exact absurd HA.out (by simp [vmfleetlaw14_tables.l0])
    | succ k1 =>
      have H := HA.out
      clear HA
      simp only [vmfleetlaw14_tables.l0] at H
      have HC6 := Aside0.mk H
      clear H
      go_upto_region 3 with (fail)
      go_cut [19] (fun v19 wc => ∃ (kq : Nat) (x19_5 : Bool), v19 = .bool x19_5 ∧ Aside0 (vmfleetlaw14_tables.j1 kq l0 x5_1 x6_1 x19_5 = some r) ∧ Aside0 (kq ≤ k1) ∧ Aside0 (Kd.R (Kd.int .u32) 23 wc w.heap.size (fun _ => True) v253 x5_1) ∧ Aside0 (Below w.heap.size w wc))
      case first =>
        have H := HC6.out
        clear HC6
        by_cases c7 : x6_1 < (l0.length : Int)
        · rw [if_pos c7] at H
          have c7b0 : decide (x6_1 < (l0.length : Int)) = true := decide_eq_true c7
          clear c7
          (first | rw [c7b0] | (simp only [i64_w, i32_w]; rw [c7b0]) | skip)
          have H' := Aside0.mk H
          clear H
          go_wp2
          go_meet
          case rel => exact ⟨_, (decide (x6_1 < 60)), (by first | rfl | (simp; done) | (simp [*]; done)), H', ⟨by have := HK1.out; first | omega | exact Nat.le_refl _⟩, ⟨by (with_reducible repeat (first | apply Kd.R_alloc | apply Kd.R_drewN | apply Kd.R_drew)); exact HO_5.out⟩, ⟨by repeat (first | (with_reducible first | exact HB.out | apply below_alloc | apply pw_below_drewN | apply below_drew1) | exact HB.out)⟩⟩
        · rw [if_neg c7] at H
          have c7b0 : decide (x6_1 < (l0.length : Int)) = false := decide_eq_false c7
          clear c7
          (first | rw [c7b0] | (simp only [i64_w, i32_w]; rw [c7b0]) | skip)
          have H' := Aside0.mk H
          clear H
          go_wp2
          go_meet
          case rel => exact ⟨_, (false), (by first | rfl | (simp; done) | (simp [*]; done)), H', ⟨by have := HK1.out; first | omega | exact Nat.le_refl _⟩, ⟨by (with_reducible repeat (first | apply Kd.R_alloc | apply Kd.R_drewN | apply Kd.R_drew)); exact HO_5.out⟩, ⟨by repeat (first | (with_reducible first | exact HB.out | apply below_alloc | apply pw_below_drewN | apply below_drew1) | exact HB.out)⟩⟩
      case rest =>
        clear HC6
        try clear c1
        try clear p2
        try clear c6
        try clear p6
        try clear c7
        try clear c7b0
        try clear p2
        obtain ⟨kq, x19_5, rfl, HA, HJ5, HO_5, HB⟩ := hcut
        cases kq with
        | zero => exact absurd HA.out (by simp [vmfleetlaw14_tables.j1])
        | succ kj5 =>
          have H := HA.out
          clear HA
          simp only [vmfleetlaw14_tables.j1] at H
          by_cases c8 : x19_5 = true
          · subst c8
            have H1 : (if 0 ≤ x6_1 then (if x6_1 < (l0.length : Int) then ((vmfleetmake_Mix.f (rd l0 x6_1) 9).bind fun t256 => ((vmfleetmake_Round.f t256 (x5_1.length : Int)).bind fun t257 => (if 0 ≤ t257 then (if t257 < (x5_1.length : Int) then (vmfleetlaw14_tables.l0 kj5 l0 (x5_1.set (t257 : Int).toNat (Go.bits .or .u32 (Go.bits .or .u32 ((Go.bits .and .i64 (t256 / 65536) 31) % 4294967296) 1) ((((Go.bits .and .i64 (t256 / 16777216) 7) % 4294967296) * 256) % 4294967296))) (wrap64 (x6_1 + 1))) else (none)) else (none)))) else (none)) else (none)) = some r := by rw [if_pos rfl] at H; exact H
            clear H
            have H := H1
            clear H1
            by_cases c9 : 0 ≤ x6_1
            · rw [if_pos c9] at H
              have c9b0 : decide (0 ≤ x6_1) = true := decide_eq_true c9
              clear c9
              by_cases c10 : x6_1 < (l0.length : Int)
              · rw [if_pos c10] at H
                have c10b0 : decide (x6_1 < (l0.length : Int)) = true := decide_eq_true c10
                clear c10
                replace H := Option.bind_eq_some_iff.mp H
                obtain ⟨t256, A110, H⟩ := H
                replace H : ((vmfleetmake_Round.f t256 (x5_1.length : Int)).bind fun t257 => (if 0 ≤ t257 then (if t257 < (x5_1.length : Int) then (vmfleetlaw14_tables.l0 kj5 l0 (x5_1.set (t257 : Int).toNat (Go.bits .or .u32 (Go.bits .or .u32 ((Go.bits .and .i64 (t256 / 65536) 31) % 4294967296) 1) ((((Go.bits .and .i64 (t256 / 16777216) 7) % 4294967296) * 256) % 4294967296))) (wrap64 (x6_1 + 1))) else (none)) else (none))) = some r := H
                have A11 := Aside0.mk A110
                clear A110
                replace H := Option.bind_eq_some_iff.mp H
                obtain ⟨t257, A120, H⟩ := H
                replace H : (if 0 ≤ t257 then (if t257 < (x5_1.length : Int) then (vmfleetlaw14_tables.l0 kj5 l0 (x5_1.set (t257 : Int).toNat (Go.bits .or .u32 (Go.bits .or .u32 ((Go.bits .and .i64 (t256 / 65536) 31) % 4294967296) 1) ((((Go.bits .and .i64 (t256 / 16777216) 7) % 4294967296) * 256) % 4294967296))) (wrap64 (x6_1 + 1))) else (none)) else (none)) = some r := H
                have A12 := Aside0.mk A120
                clear A120
                by_cases c13 : 0 ≤ t257
                · rw [if_pos c13] at H
                  have c13b0 : decide (0 ≤ t257) = true := decide_eq_true c13
                  clear c13
                  by_cases c14 : t257 < (x5_1.length : Int)
                  · rw [if_pos c14] at H
                    have c14b0 : decide (t257 < (x5_1.length : Int)) = true := decide_eq_true c14
                    clear c14
                    obtain ⟨y258, hy258⟩ : ∃ y_ : List Int, y_ = (x5_1.set (t257 : Int).toNat (Go.bits .or .u32 (Go.bits .or .u32 ((Go.bits .and .i64 (t256 / 65536) 31) % 4294967296) 1) ((((Go.bits .and .i64 (t256 / 16777216) 7) % 4294967296) * 256) % 4294967296))) := ⟨_, rfl⟩
                    replace H : (vmfleetlaw14_tables.l0 kj5 l0 y258 (wrap64 (x6_1 + 1))) = some r := by first | (rw [hy258]; with_reducible exact H) | (have H2_ := (Option.bind_some _ _).symm.trans H; rw [hy258]; with_reducible exact H2_) | (have H2_ := (Option.bind_some _ _).symm.trans H; with_reducible exact H2_) | with_reducible exact H | (rw [hy258]; exact H) | exact H
                    have Ny258 := Aside0.mk hy258
                    clear hy258
                    have H' := Aside0.mk H
                    clear H
                    have p255 : 0 ≤ (x6_1 : Int) := of_decide_eq_true (by first | (with_reducible assumption) | assumption)
                    have q255 : x6_1 < (l0.length : Int) := of_decide_eq_true (by first | (with_reducible assumption) | assumption)
                    obtain ⟨ad255, e255, hx255_0⟩ := Kd.at_int HR0.out x6_1 p255 q255
                    cases e255
                    replace hx255_0 := (HB.out.cell (World.block_lt_of_cell? w _ hx255_0)).trans hx255_0
                    replace p255 := eq_true p255
                    replace q255 := eq_true q255
                    go_wp2_with (first | ((with_reducible refine gate_callee (f := 8) rfl ?_); refine goesL_ (some 26) rfl rfl Try.func8 (by kernel_rfl) rfl #[.int .i64 (rd l0 x6_1), .int .i64 9] rfl (by (try simp only [List.map_toArray, List.map_cons, List.map_nil]); first | done | rfl | (simp only [List.length_drop, List.length_take]; rfl)) ?_; (with_reducible refine (vmfleetmake_Mix.calls (rd l0 x6_1) 9 t256 _ A11.out).mono ?_); rintro e w' ⟨rfl, ⟨nd, rfl⟩⟩; refine ⟨_, rfl, ?_⟩; (try (rw [drewN_self wc]; generalize hq_ : World.drewN wc _ = wc; have n0_ : Aside0 (Kd.R (Kd.int .u32) 23 wc w.heap.size (fun _ => True) v253 x5_1) := ⟨by rw [← hq_]; exact (by (with_reducible repeat (first | apply Kd.R_alloc | apply Kd.R_drewN | apply Kd.R_drew)); exact HO_5.out)⟩; have n1_ : Aside0 (Below w.heap.size w wc) := ⟨by rw [← hq_]; exact (by repeat (first | (with_reducible first | exact HB.out | apply below_alloc | apply pw_below_drewN | apply below_drew1) | exact HB.out))⟩; clear HO_5 HB hq_; have HO_5 := n0_; have HB := n1_; clear n0_ n1_)); obtain ⟨Ao16, co16, eo16⟩ := Kd.R_slice HO_5.out; subst eo16) | ((with_reducible refine gate_callee (f := 16) rfl ?_); refine goesL_ (some 31) rfl rfl Try.func16 (by kernel_rfl) rfl #[.int .i64 t256, .int .i64 (x5_1.length : Int)] rfl (by (try simp only [List.map_toArray, List.map_cons, List.map_nil]); first | done | rfl | (simp only [List.length_drop, List.length_take]; rfl)) ?_; (with_reducible refine (vmfleetmake_Round.calls t256 (x5_1.length : Int) t257 _ A12.out).mono ?_); rintro e w' ⟨rfl, ⟨nd, rfl⟩⟩; refine ⟨_, rfl, ?_⟩; (try (rw [drewN_self wc]; generalize hq_ : World.drewN wc _ = wc; have n0_ : Aside0 (Kd.R (Kd.int .u32) 23 wc w.heap.size (fun _ => True) (.slice Ao16 x5_1.length co16) x5_1) := ⟨by rw [← hq_]; exact (by (with_reducible repeat (first | apply Kd.R_alloc | apply Kd.R_drewN | apply Kd.R_drew)); exact HO_5.out)⟩; have n1_ : Aside0 (Below w.heap.size w wc) := ⟨by rw [← hq_]; exact (by repeat (first | (with_reducible first | exact HB.out | apply below_alloc | apply pw_below_drewN | apply below_drew1) | exact HB.out))⟩; clear HO_5 HB hq_; have HO_5 := n0_; have HB := n1_; clear n0_ n1_)); have p15 : 0 ≤ (t257 : Int) := of_decide_eq_true (by first | (with_reducible assumption) | assumption); have q15 : (t257 : Int) < ((x5_1.length : Int) : Int) := of_decide_eq_true (by first | (with_reducible assumption) | assumption); obtain ⟨go15, co15, eo15, gb15, gl15, cl15, HG15⟩ := Kd.R_form HO_5.out (by omega); (first | cases eo15 | (injection eo15 with ea_ en_ ec_; (first | subst ea_ | (injection ea_ with ea_; subst ea_)); subst ec_; clear en_)); have GB15 := Aside0.mk gb15; have GG15 := Aside0.mk HG15; clear gb15 gl15 HG15; obtain ⟨hx15_0, hf15_0⟩ := Kd.R_celln 0 HO_5.out (t257 : Int) p15 q15; replace p15 := eq_true p15; replace q15 := eq_true q15; obtain ⟨hy17_, hz17_⟩ := Kd.R_celln 0 HO_5.out (t257 : Int) (of_decide_eq_true (by first | (with_reducible assumption) | assumption)) (of_decide_eq_true (by first | (with_reducible assumption) | assumption)); have HP17 := Kd.R_putg HO_5.out (t257 : Int) (Go.bits .or .u32 (Go.bits .or .u32 ((Go.bits .and .i64 (t256 / 65536) 31) % 4294967296) 1) ((((Go.bits .and .i64 (t256 / 16777216) 7) % 4294967296) * 256) % 4294967296))) | ((with_reducible refine gate_store (t := 23) (p := 43) rfl ?_); refine store_event (t := 23) (p := 43) (v := ?vo_w18) (w1 := (wc.setCell ⟨go15, (t257 : Int).toNat, none⟩ (.int .u32 (Go.bits .or .u32 (Go.bits .or .u32 ((Go.bits .and .i64 (t256 / 65536) 31) % 4294967296) 1) ((((Go.bits .and .i64 (t256 / 16777216) 7) % 4294967296) * 256) % 4294967296))))) ?hg ?ho ?hn ?hr ?_; (case ho => rfl); (case hg => rfl); (case hn => rfl); (case hr => first | (go_simp; done) | (go_simp; rfl)); intro w18 hw; have hg : wc.grownBy w18 (some go15) := (by rw [hw]; exact HP17.2); have hp_ : Kd.R (Kd.int .u32) 23 w18 w.heap.size (fun _ => True) (.slice (some ⟨go15, 0, none⟩) x5_1.length co16) y258 := (by rw [hw, Ny258.out]; exact HP17.1); clear HP17; have n0_ := Aside0.mk (hp_); have n1_ := Aside0.mk ((by rw [hw]; exact below_set (HB.out) GB15.out : Below w.heap.size w w18)); clear HO_5; clear HB; have HO_5 := n0_; have HB := n1_; clear n0_ n1_; clear hg hw hp_))
                    go_roundg kj5
                    case measure => have := HK1.out; have := HJ5.out; omega
                    case rel => exact ⟨(y258), (wrap64 (x6_1 + 1)), (by first | rfl | (simp; done) | (simp [*]; done)), H', ⟨by have := HK1.out; have := HJ5.out; omega⟩, ⟨by (with_reducible repeat (first | apply Kd.R_alloc | apply Kd.R_drewN | apply Kd.R_drew)); exact HO_5.out⟩, ⟨by repeat (first | (with_reducible first | exact HB.out | apply below_alloc | apply pw_below_drewN | apply below_drew1) | exact HB.out)⟩⟩
                  · rw [if_neg c14] at H
                    exact absurd H (by simp)
                · rw [if_neg c13] at H
                  exact absurd H (by simp)
              · rw [if_neg c10] at H
                exact absurd H (by simp)
            · rw [if_neg c9] at H
              exact absurd H (by simp)
          · replace c8 := Bool.eq_false_iff.mpr c8
            subst c8
            have H1 : (some x5_1) = some r := by rw [if_neg (show ¬ (false = true) by decide)] at H; exact H
            clear H
            have H := H1
            clear H1
            obtain rfl := Option.some.inj H
            go_wp2
            go_ret
            exact ⟨_, by first | rfl | (simp [errW_none, errW_some] <;> rfl) | (simp [*, errW_none, errW_some] <;> rfl), by (with_reducible repeat (first | apply Kd.R_alloc | apply Kd.R_drewN | apply Kd.R_drew)); exact HO_5.out, by repeat (first | (with_reducible first | exact HB.out | apply below_alloc | apply pw_below_drewN | apply below_drew1) | exact HB.out)⟩

/-! ### vmfleetref1_Pages: function 7 -/
def vmfleetref1_Pages.f (l0 : List Int) : Option (Int) := if ((l0.length : Int) % 32) = 0 then (if (l0.length : Int) > 1024 then (some 0) else (some (wrap64 ((l0.length : Int) / 32)))) else (some 0)
set_option maxHeartbeats 8000000 in
set_option maxRecDepth 100000 in
theorem vmfleetref1_Pages.calls (A0 : Option Addr) (c0 : Nat) (l0 : List Int) (r : Int) (w : World) (hr0 : Kd.C (Kd.int .u32) w A0 l0.length l0) (hc0 : l0.length ≤ c0) (h : vmfleetref1_Pages.f l0 = some r) :
    Calls Try.prog 7 #[.slice A0 l0.length c0] w fun e w' => e = .returned (.int .i64 r) ∧ Drawn0 w w' := by
  have HR0 := Aside0.mk hr0
  have HC0 := Aside0.mk hc0
  clear hr0 hc0
  have H : (if ((l0.length : Int) % 32) = 0 then (if (l0.length : Int) > 1024 then (some 0) else (some (wrap64 ((l0.length : Int) / 32)))) else (some 0)) = some r := h
  clear h
  by_cases c2 : ((l0.length : Int) % 32) = 0
  · rw [if_pos c2] at H
    have c2b0 : (((l0.length : Int) % 32) == 0) = true := beq_iff_eq.mpr c2
    have c2b1 : (((l0.length : Int) % 32) != 0) = false := bne_eq_false_iff_eq.mpr c2
    clear c2
    by_cases c3 : (l0.length : Int) > 1024
    · rw [if_pos c3] at H
      have c3b0 : decide (1024 < (l0.length : Int)) = true := decide_eq_true c3
      have c3b1 : decide (1024 < l0.length) = true := decide_eq_true (by omega)
      clear c3
      obtain rfl := Option.some.inj H
      go_enter Try.func7, Try.ntmps7
      go_wp2
      go_ret
      exact ⟨by first | rfl | (simp; done) | (simp [*]; done), by repeat (first | exact Drawn0.refl _ | apply Drawn0.step)⟩
    · rw [if_neg c3] at H
      have c3b0 : decide (1024 < (l0.length : Int)) = false := decide_eq_false c3
      have c3b1 : decide (1024 < l0.length) = false := decide_eq_false (by omega)
      clear c3
      obtain rfl := Option.some.inj H
      go_enter Try.func7, Try.ntmps7
      go_wp2
      go_ret
      exact ⟨by first | rfl | (simp; done) | (simp [*]; done), by repeat (first | exact Drawn0.refl _ | apply Drawn0.step)⟩
  · rw [if_neg c2] at H
    have c2b0 : (((l0.length : Int) % 32) == 0) = false := beq_eq_false_iff_ne.mpr c2
    have c2b1 : (((l0.length : Int) % 32) != 0) = true := bne_iff_ne.mpr c2
    obtain rfl := Option.some.inj H
    go_enter Try.func7, Try.ntmps7
    go_wp2
    go_ret
    exact ⟨by first | rfl | (simp; done) | (simp [*]; done), by repeat (first | exact Drawn0.refl _ | apply Drawn0.step)⟩

/-! ### vmfleetref1_SameWords: function 11 -/
def vmfleetref1_SameWords.l0 : Nat → List Int → List Int → Int → Option (Bool)
  | 0, _, _, _ => none
  | k + 1, x0, x1, x5 => if x5 < (x0.length : Int) then (if 0 ≤ x5 then (if x5 < (x1.length : Int) then (if (rd x0 x5) = (rd x1 x5) then (vmfleetref1_SameWords.l0 k x0 x1 (wrap64 (x5 + 1))) else (some false)) else (none)) else (none)) else (some true)
def vmfleetref1_SameWords.f (k : Nat) (l0 : List Int) (l1 : List Int) : Option (Bool) := if (l0.length : Int) = (l1.length : Int) then (vmfleetref1_SameWords.l0 k l0 l1 0) else (some false)
theorem vmfleetref1_SameWords.mono_l : ∀ k, (∀ y0 y1 y2, LeO (vmfleetref1_SameWords.l0 k y0 y1 y2) (vmfleetref1_SameWords.l0 (k + 1) y0 y1 y2))
  | 0 => fun _ _ _ r h => by simp [vmfleetref1_SameWords.l0] at h
  | k + 1 => by
    have ih0 := vmfleetref1_SameWords.mono_l k
    · intro y0 y1 y2
      unfold vmfleetref1_SameWords.l0
      repeat' first
      | (with_reducible exact ih0 _ _ _)
      | (with_reducible exact LeO.refl _)
      | (with_reducible exact LeO.none _)
      | (with_reducible refine LeO.ite ?_ ?_)
      | (with_reducible refine LeO.bind ?_ (fun _ => ?_))
      | exact ih0 _ _ _
      | exact LeO.none _
      | refine LeO.ite ?_ ?_
      | refine LeO.bind ?_ (fun _ => ?_)
theorem vmfleetref1_SameWords.mono : ∀ a0 a1 k, LeO (vmfleetref1_SameWords.f k a0 a1) (vmfleetref1_SameWords.f (k + 1) a0 a1) := by
  intro a0 a1 k
  have ih0 := vmfleetref1_SameWords.mono_l k
  unfold vmfleetref1_SameWords.f
  repeat' first
      | (with_reducible exact ih0 _ _ _)
      | (with_reducible exact LeO.refl _)
      | (with_reducible exact LeO.none _)
      | (with_reducible refine LeO.ite ?_ ?_)
      | (with_reducible refine LeO.bind ?_ (fun _ => ?_))
      | exact ih0 _ _ _
      | exact LeO.none _
      | refine LeO.ite ?_ ?_
      | refine LeO.bind ?_ (fun _ => ?_)
set_option maxHeartbeats 8000000 in
set_option maxRecDepth 100000 in
theorem vmfleetref1_SameWords.calls (k : Nat) (A0 : Option Addr) (c0 : Nat) (l0 : List Int) (A1 : Option Addr) (c1 : Nat) (l1 : List Int) (r : Bool) (w : World) (hr0 : Kd.C (Kd.int .u32) w A0 l0.length l0) (hc0 : l0.length ≤ c0) (hr1 : Kd.C (Kd.int .u32) w A1 l1.length l1) (hc1 : l1.length ≤ c1) (h : vmfleetref1_SameWords.f k l0 l1 = some r) :
    Calls Try.prog 11 #[.slice A0 l0.length c0, .slice A1 l1.length c1] w fun e w' => e = .returned (.bool r) ∧ Drawn0 w w' := by
  have HR0 := Aside0.mk hr0
  have HC0 := Aside0.mk hc0
  clear hr0 hc0
  have HR1 := Aside0.mk hr1
  have HC1 := Aside0.mk hc1
  clear hr1 hc1
  have H : (if (l0.length : Int) = (l1.length : Int) then (vmfleetref1_SameWords.l0 k l0 l1 0) else (some false)) = some r := h
  clear h
  by_cases c3 : (l0.length : Int) = (l1.length : Int)
  · rw [if_pos c3] at H
    have c3b0 : ((l0.length : Int) == (l1.length : Int)) = true := beq_iff_eq.mpr c3
    have c3b1 : ((l0.length : Int) != (l1.length : Int)) = false := bne_eq_false_iff_eq.mpr c3
    have c3b2 : (l0.length == l1.length) = true := by first | simpa using c3 | (simp at c3 ⊢; omega)
    clear c3
    have H' := Aside0.mk H
    clear H
    go_enter Try.func11, Try.ntmps11
    go_wp2
    repeat (go_quiet (fail); try go_wp2)
    go_loopg [5] k (fun kq v5 w' => ∃ (x5_1 : Int), v5 = .int .i64 x5_1 ∧ Aside0 (vmfleetref1_SameWords.l0 kq l0 l1 x5_1 = some r) ∧ Aside0 (kq ≤ k) ∧ Drawn0 w w')
    case atStart => exact ⟨(0), (by first | rfl | (simp; done) | (simp [*]; done)), H', ⟨Nat.le_refl _⟩, by repeat (first | exact Drawn0.refl _ | apply Drawn0.step)⟩
    case round =>
      clear H'
      try clear c1
      try clear p2
      try clear c3
      try clear c3b0
      try clear c3b1
      try clear c3b2
      obtain ⟨x5_1, rfl, HA, HK1, ⟨m1, rfl⟩⟩ := hrel
      cases gk with
      | zero => exact absurd HA.out (by simp [vmfleetref1_SameWords.l0])
      | succ k1 =>
        have H := HA.out
        clear HA
        simp only [vmfleetref1_SameWords.l0] at H
        by_cases c4 : x5_1 < (l0.length : Int)
        · rw [if_pos c4] at H
          have c4b0 : decide (x5_1 < (l0.length : Int)) = true := decide_eq_true c4
          clear c4
          by_cases c5 : 0 ≤ x5_1
          · rw [if_pos c5] at H
            have c5b0 : decide (0 ≤ x5_1) = true := decide_eq_true c5
            clear c5
            by_cases c6 : x5_1 < (l1.length : Int)
            · rw [if_pos c6] at H
              have c6b0 : decide (x5_1 < (l1.length : Int)) = true := decide_eq_true c6
              clear c6
              by_cases c7 : (rd l0 x5_1) = (rd l1 x5_1)
              · rw [if_pos c7] at H
                have c7b0 : ((rd l0 x5_1) == (rd l1 x5_1)) = true := beq_iff_eq.mpr c7
                have c7b1 : ((rd l0 x5_1) != (rd l1 x5_1)) = false := bne_eq_false_iff_eq.mpr c7
                clear c7
                have H' := Aside0.mk H
                clear H
                have p259 : 0 ≤ (x5_1 : Int) := of_decide_eq_true (by first | (with_reducible assumption) | assumption)
                have q259 : x5_1 < (l0.length : Int) := of_decide_eq_true (by first | (with_reducible assumption) | assumption)
                obtain ⟨ad259, e259, hx259_0⟩ := Kd.at_int HR0.out x5_1 p259 q259
                cases e259
                replace p259 := eq_true p259
                replace q259 := eq_true q259
                have p260 : 0 ≤ (x5_1 : Int) := of_decide_eq_true (by first | (with_reducible assumption) | assumption)
                have q260 : x5_1 < (l1.length : Int) := of_decide_eq_true (by first | (with_reducible assumption) | assumption)
                obtain ⟨ad260, e260, hx260_0⟩ := Kd.at_int HR1.out x5_1 p260 q260
                cases e260
                replace p260 := eq_true p260
                replace q260 := eq_true q260
                go_wp2
                repeat (go_quiet (fail); try go_wp2)
                go_roundg k1
                case measure => have := HK1.out; omega
                case rel => exact ⟨(wrap64 (x5_1 + 1)), (by first | rfl | (simp; done) | (simp [*]; done)), H', ⟨by have := HK1.out; omega⟩, by repeat (first | exact Drawn0.refl _ | apply Drawn0.step)⟩
              · rw [if_neg c7] at H
                have c7b0 : ((rd l0 x5_1) == (rd l1 x5_1)) = false := beq_eq_false_iff_ne.mpr c7
                have c7b1 : ((rd l0 x5_1) != (rd l1 x5_1)) = true := bne_iff_ne.mpr c7
                obtain rfl := Option.some.inj H
                have p259 : 0 ≤ (x5_1 : Int) := of_decide_eq_true (by first | (with_reducible assumption) | assumption)
                have q259 : x5_1 < (l0.length : Int) := of_decide_eq_true (by first | (with_reducible assumption) | assumption)
                obtain ⟨ad259, e259, hx259_0⟩ := Kd.at_int HR0.out x5_1 p259 q259
                cases e259
                replace p259 := eq_true p259
                replace q259 := eq_true q259
                have p260 : 0 ≤ (x5_1 : Int) := of_decide_eq_true (by first | (with_reducible assumption) | assumption)
                have q260 : x5_1 < (l1.length : Int) := of_decide_eq_true (by first | (with_reducible assumption) | assumption)
                obtain ⟨ad260, e260, hx260_0⟩ := Kd.at_int HR1.out x5_1 p260 q260
                cases e260
                replace p260 := eq_true p260
                replace q260 := eq_true q260
                go_wp2
                repeat (go_quiet (fail); try go_wp2)
                go_ret
                exact ⟨by first | rfl | (simp; done) | (simp [*]; done), by repeat (first | exact Drawn0.refl _ | apply Drawn0.step)⟩
            · rw [if_neg c6] at H
              exact absurd H (by simp)
          · rw [if_neg c5] at H
            exact absurd H (by simp)
        · rw [if_neg c4] at H
          have c4b0 : decide (x5_1 < (l0.length : Int)) = false := decide_eq_false c4
          clear c4
          obtain rfl := Option.some.inj H
          go_wp2
          repeat (go_quiet (fail); try go_wp2)
          go_ret
          exact ⟨by first | rfl | (simp; done) | (simp [*]; done), by repeat (first | exact Drawn0.refl _ | apply Drawn0.step)⟩
  · rw [if_neg c3] at H
    have c3b0 : ((l0.length : Int) == (l1.length : Int)) = false := beq_eq_false_iff_ne.mpr c3
    have c3b1 : ((l0.length : Int) != (l1.length : Int)) = true := bne_iff_ne.mpr c3
    have c3b2 : (l0.length == l1.length) = false := by first | simpa using c3 | (simp at c3 ⊢; omega)
    obtain rfl := Option.some.inj H
    go_enter Try.func11, Try.ntmps11
    go_wp2
    repeat (go_quiet (fail); try go_wp2)
    go_ret
    exact ⟨by first | rfl | (simp; done) | (simp [*]; done), by repeat (first | exact Drawn0.refl _ | apply Drawn0.step)⟩

/-! ### vmfleetlaw14_TlbAgrees: function 3 -/
def vmfleetlaw14_TlbAgrees.l0 : Nat → List Int → Int → List Int → List (S49) → Int → Option (Bool)
  | 0, _, _, _, _, _ => none
  | k + 1, x1, x3, x11, x12, x13 => if x13 < (x1.length : Int) then (if 0 ≤ x13 then ((vmfleetmake_Mix.f (rd x1 x13) 14).bind fun t268 => ((tlb_Lookup.f k x12 (((Go.bits .and .i64 t268 4095) % 4294967296) / 128) (wrap64 (1 + (Int.tmod (t268 / 4096) 3)))).bind fun bt269 => (if bt269.2.2 = true then ((paging_Walk.f k x11 x3 ((Go.bits .and .i64 t268 4095) % 4294967296) (wrap64 (1 + (Int.tmod (t268 / 4096) 3)))).bind fun bt274 => (if bt274.2.2 = 0 then (if bt274.1 = (((128 * bt269.1) + (((Go.bits .and .i64 t268 4095) % 4294967296) % 128)) % 4294967296) then ((paging_Touch.f x11 bt274.2.1 (wrap64 (1 + (Int.tmod (t268 / 4096) 3)))).bind fun t278 => ((vmfleetref1_SameWords.f k t278 x11).bind fun t281 => (if t281 = true then (vmfleetlaw14_TlbAgrees.l0 k x1 x3 x11 bt269.2.1 (wrap64 (x13 + 1))) else (some false)))) else (some false)) else (some false))) else ((tlb_Fill.f k x12 x11 x3 ((Go.bits .and .i64 t268 4095) % 4294967296) (wrap64 (1 + (Int.tmod (t268 / 4096) 3)))).bind fun bt282 => ((tlb_Coherent.f k bt282.2.2.2.1 bt282.2.2.2.2 x3).bind fun t291 => (if t291 = true then (vmfleetlaw14_TlbAgrees.l0 k x1 x3 bt282.2.2.2.2 bt282.2.2.2.1 (wrap64 (x13 + 1))) else (some false))))))) else (none)) else (if (x12.length : Int) ≤ 8 then ((vmfleetlaw14_awake.f k).bind fun t266 => (some t266)) else (some false))
def vmfleetlaw14_TlbAgrees.f (k : Nat) (l0 : List Int) (l1 : List Int) (a2 : Int) (a3 : Int) (a4 : Int) : Option (Bool) := if (l1.length : Int) > 40 then ((vmfleetlaw14_awake.f k).bind fun t261 => (some t261)) else ((vmfleetlaw14_tables.f k l0 a2).bind fun t262 => ((vmfleetref1_Pages.f t262).bind fun t265 => (if ((t265) % 4294967296) = 0 then (none) else (vmfleetlaw14_TlbAgrees.l0 k l1 (Int.tmod a3 ((t265) % 4294967296)) t262 ([] : List (S49)) 0))))
theorem vmfleetlaw14_TlbAgrees.mono_l : ∀ k, (∀ y0 y1 y2 y3 y4, LeO (vmfleetlaw14_TlbAgrees.l0 k y0 y1 y2 y3 y4) (vmfleetlaw14_TlbAgrees.l0 (k + 1) y0 y1 y2 y3 y4))
  | 0 => fun _ _ _ _ _ r h => by simp [vmfleetlaw14_TlbAgrees.l0] at h
  | k + 1 => by
    have ih0 := vmfleetlaw14_TlbAgrees.mono_l k
    · intro y0 y1 y2 y3 y4
      unfold vmfleetlaw14_TlbAgrees.l0
      repeat' first
      | (with_reducible exact ih0 _ _ _ _ _)
      | (with_reducible exact paging_Walk.mono _ _ _ _ _)
      | (with_reducible exact tlb_Coherent.mono _ _ _ _)
      | (with_reducible exact tlb_Fill.mono _ _ _ _ _ _)
      | (with_reducible exact tlb_Lookup.mono _ _ _ _)
      | (with_reducible exact vmfleetlaw14_awake.mono _)
      | (with_reducible exact vmfleetlaw14_tables.mono _ _ _)
      | (with_reducible exact vmfleetref1_SameWords.mono _ _ _)
      | (with_reducible exact LeO.refl _)
      | (with_reducible exact LeO.none _)
      | (with_reducible refine LeO.ite ?_ ?_)
      | (with_reducible refine LeO.bind ?_ (fun _ => ?_))
      | exact ih0 _ _ _ _ _
      | exact paging_Walk.mono _ _ _ _ _
      | exact tlb_Coherent.mono _ _ _ _
      | exact tlb_Fill.mono _ _ _ _ _ _
      | exact tlb_Lookup.mono _ _ _ _
      | exact vmfleetlaw14_awake.mono _
      | exact vmfleetlaw14_tables.mono _ _ _
      | exact vmfleetref1_SameWords.mono _ _ _
      | exact LeO.none _
      | refine LeO.ite ?_ ?_
      | refine LeO.bind ?_ (fun _ => ?_)
theorem vmfleetlaw14_TlbAgrees.mono : ∀ a0 a1 a2 a3 a4 k, LeO (vmfleetlaw14_TlbAgrees.f k a0 a1 a2 a3 a4) (vmfleetlaw14_TlbAgrees.f (k + 1) a0 a1 a2 a3 a4) := by
  intro a0 a1 a2 a3 a4 k
  have ih0 := vmfleetlaw14_TlbAgrees.mono_l k
  unfold vmfleetlaw14_TlbAgrees.f
  repeat' first
      | (with_reducible exact ih0 _ _ _ _ _)
      | (with_reducible exact paging_Walk.mono _ _ _ _ _)
      | (with_reducible exact tlb_Coherent.mono _ _ _ _)
      | (with_reducible exact tlb_Fill.mono _ _ _ _ _ _)
      | (with_reducible exact tlb_Lookup.mono _ _ _ _)
      | (with_reducible exact vmfleetlaw14_awake.mono _)
      | (with_reducible exact vmfleetlaw14_tables.mono _ _ _)
      | (with_reducible exact vmfleetref1_SameWords.mono _ _ _)
      | (with_reducible exact LeO.refl _)
      | (with_reducible exact LeO.none _)
      | (with_reducible refine LeO.ite ?_ ?_)
      | (with_reducible refine LeO.bind ?_ (fun _ => ?_))
      | exact ih0 _ _ _ _ _
      | exact paging_Walk.mono _ _ _ _ _
      | exact tlb_Coherent.mono _ _ _ _
      | exact tlb_Fill.mono _ _ _ _ _ _
      | exact tlb_Lookup.mono _ _ _ _
      | exact vmfleetlaw14_awake.mono _
      | exact vmfleetlaw14_tables.mono _ _ _
      | exact vmfleetref1_SameWords.mono _ _ _
      | exact LeO.none _
      | refine LeO.ite ?_ ?_
      | refine LeO.bind ?_ (fun _ => ?_)
set_option maxHeartbeats 8000000 in
set_option maxRecDepth 100000 in
theorem vmfleetlaw14_TlbAgrees.calls (k : Nat) (A0 : Option Addr) (c0 : Nat) (l0 : List Int) (A1 : Option Addr) (c1 : Nat) (l1 : List Int) (a2 : Int) (a3 : Int) (a4 : Int) (r : Bool) (w : World) (hr0 : Kd.C (Kd.int .i64) w A0 l0.length l0) (hc0 : l0.length ≤ c0) (hr1 : Kd.C (Kd.int .i64) w A1 l1.length l1) (hc1 : l1.length ≤ c1) (h : vmfleetlaw14_TlbAgrees.f k l0 l1 a2 a3 a4 = some r) :
    Calls Try.prog 3 #[.slice A0 l0.length c0, .slice A1 l1.length c1, .int .i64 a2, .int .u32 a3, .int .u32 a4] w fun e w' => e = .returned (.bool r) ∧ Below w.heap.size w w' := by
  have hu34 := Try.underlying34
  have HR0 := Aside0.mk hr0
  have HC0 := Aside0.mk hc0
  clear hr0 hc0
  have HR1 := Aside0.mk hr1
  have HC1 := Aside0.mk hc1
  clear hr1 hc1
  have HB := Aside0.mk (Below.refl w.heap.size w)
  have H : (if (l1.length : Int) > 40 then ((vmfleetlaw14_awake.f k).bind fun t261 => (some t261)) else ((vmfleetlaw14_tables.f k l0 a2).bind fun t262 => ((vmfleetref1_Pages.f t262).bind fun t265 => (if ((t265) % 4294967296) = 0 then (none) else (vmfleetlaw14_TlbAgrees.l0 k l1 (Int.tmod a3 ((t265) % 4294967296)) t262 ([] : List (S49)) 0))))) = some r := h
  clear h
  by_cases c6 : (l1.length : Int) > 40
  · rw [if_pos c6] at H
    have c6b0 : decide (40 < (l1.length : Int)) = true := decide_eq_true c6
    have c6b1 : decide (40 < l1.length) = true := decide_eq_true (by omega)
    clear c6
    replace H := Option.bind_eq_some_iff.mp H
    obtain ⟨t261, A70, H⟩ := H
    replace H : (some t261) = some r := H
    have A7 := Aside0.mk A70
    clear A70
    obtain rfl := Option.some.inj H
    go_enter Try.func3, Try.ntmps3
    go_wp2_with (first | ((with_reducible refine gate_callee (f := 5) rfl ?_); refine goesL_ (some 24) rfl rfl Try.func5 (by kernel_rfl) rfl #[] rfl (by (try simp only [List.map_toArray, List.map_cons, List.map_nil]); first | done | rfl | (simp only [List.length_drop, List.length_take]; rfl)) ?_; (with_reducible refine (vmfleetlaw14_awake.calls k  t261 _ A7.out).mono ?_); rintro e w8 ⟨rfl, hb⟩; refine ⟨_, rfl, ?_⟩; have n0_ := Aside0.mk (below_step (by repeat (first | (with_reducible first | exact HB.out | apply below_alloc | apply pw_below_drewN | apply below_drew1) | exact HB.out)) hb); clear HB; have HB := n0_; clear n0_; (try clear hb); (try clear hb2); (try clear hk); (try clear hi)))
    go_ret
    exact ⟨by first | rfl | (simp [errW_none, errW_some] <;> rfl) | (simp [*, errW_none, errW_some] <;> rfl), by repeat (first | (with_reducible first | exact HB.out | apply below_alloc | apply pw_below_drewN | apply below_drew1) | exact HB.out)⟩
  · rw [if_neg c6] at H
    have c6b0 : decide (40 < (l1.length : Int)) = false := decide_eq_false c6
    have c6b1 : decide (40 < l1.length) = false := decide_eq_false (by omega)
    clear c6
    replace H := Option.bind_eq_some_iff.mp H
    obtain ⟨t262, A90, H⟩ := H
    replace H : ((vmfleetref1_Pages.f t262).bind fun t265 => (if ((t265) % 4294967296) = 0 then (none) else (vmfleetlaw14_TlbAgrees.l0 k l1 (Int.tmod a3 ((t265) % 4294967296)) t262 ([] : List (S49)) 0))) = some r := H
    have A9 := Aside0.mk A90
    clear A90
    replace H := Option.bind_eq_some_iff.mp H
    obtain ⟨t265, A100, H⟩ := H
    replace H : (if ((t265) % 4294967296) = 0 then (none) else (vmfleetlaw14_TlbAgrees.l0 k l1 (Int.tmod a3 ((t265) % 4294967296)) t262 ([] : List (S49)) 0)) = some r := H
    have A10 := Aside0.mk A100
    clear A100
    by_cases c11 : ((t265) % 4294967296) = 0
    · rw [if_pos c11] at H
      exact absurd H (by simp)
    · rw [if_neg c11] at H
      have c11b0 : (((t265) % 4294967296) == 0) = false := beq_eq_false_iff_ne.mpr c11
      have c11b1 : (((t265) % 4294967296) != 0) = true := bne_iff_ne.mpr c11
      have H' := Aside0.mk H
      clear H
      go_enter Try.func3, Try.ntmps3
      go_wp2_with (first | ((with_reducible refine gate_callee (f := 6) rfl ?_); refine goesL_ (some 27) rfl rfl Try.func6 (by kernel_rfl) rfl #[.slice A0 l0.length c0, .int .i64 a2] rfl (by (try simp only [List.map_toArray, List.map_cons, List.map_nil]); first | done | rfl | (simp only [List.length_drop, List.length_take]; rfl)) ?_; (with_reducible refine (vmfleetlaw14_tables.calls k _ _ l0 a2 t262 _ ?side1 ?side2 A9.out).mono ?_); (case side1 => repeat (first | exact HR0.out | (with_reducible refine Kd.C_alloc ?_ _) | (with_reducible refine Kd.C_drewN ?_ _) | (with_reducible refine Kd.C_drew ?_))); (case side2 => exact HC0.out); rintro e w12 ⟨v263, rfl, ho0, hb⟩; refine ⟨_, rfl, ?_⟩; have n0_ := Aside0.mk (Kd.R_lower ho0 (below_size (by repeat (first | (with_reducible first | exact HB.out | apply below_alloc | apply pw_below_drewN | apply below_drew1) | exact HB.out)))); have n1_ := Aside0.mk (below_step (by repeat (first | (with_reducible first | exact HB.out | apply below_alloc | apply pw_below_drewN | apply below_drew1) | exact HB.out)) hb); clear HB; have HO264 := n0_; have HB := n1_; clear n0_ n1_; (try clear hb); (try clear hb2); (try clear hk); (try clear hi); (try clear ho0); obtain ⟨Ao13, co13, eo13⟩ := Kd.R_slice HO264.out; subst eo13) | ((with_reducible refine gate_callee (f := 7) rfl ?_); refine goesL_ (some 30) rfl rfl Try.func7 (by kernel_rfl) rfl #[.slice Ao13 t262.length co13] rfl (by (try simp only [List.map_toArray, List.map_cons, List.map_nil]); first | done | rfl | (simp only [List.length_drop, List.length_take]; rfl)) ?_; (with_reducible refine (vmfleetref1_Pages.calls _ _ t262 t265 _ ?side1 ?side2 A10.out).mono ?_); (case side1 => repeat (first | exact (Kd.R_reads' HO264.out).2.2 | (with_reducible refine Kd.C_alloc ?_ _) | (with_reducible refine Kd.C_drewN ?_ _) | (with_reducible refine Kd.C_drew ?_))); (case side2 => exact (Kd.R_reads' HO264.out).2.1); rintro e w' ⟨rfl, ⟨nd, rfl⟩⟩; refine ⟨_, rfl, ?_⟩))
      go_loopg [11, 12, 13] k (fun kq v11 v12 v13 w' => ∃ (x11_1 : List Int) (x12_1 : List (S49)) (x13_1 : Int), v13 = .int .i64 x13_1 ∧ Aside0 (vmfleetlaw14_TlbAgrees.l0 kq l1 (Int.tmod a3 ((t265) % 4294967296)) x11_1 x12_1 x13_1 = some r) ∧ Aside0 (kq ≤ k) ∧ Aside0 (Kd.R (Kd.int .u32) 23 w' w.heap.size (fun _ => True) v11 x11_1) ∧ Aside0 (Kd.V k49 49 w' w.heap.size (fun k_ => some k_ ≠ (v11 : Value).ownBlock) v12 x12_1) ∧ Aside0 (Below w.heap.size w w'))
      case atStart => exact ⟨(t262), (([] : List (S49))), (0), (by first | rfl | (simp; done) | (simp [*]; done)), H', ⟨Nat.le_refl _⟩, ⟨by (with_reducible repeat (first | apply Kd.R_alloc | apply Kd.R_drewN | apply Kd.R_drew)); exact HO264.out⟩, ⟨by first | exact Kd.V_nil _ _ _ _ _⟩, ⟨by repeat (first | (with_reducible first | exact HB.out | apply below_alloc | apply pw_below_drewN | apply below_drew1) | exact HB.out)⟩⟩
      case round =>
        clear H'
        try clear c1
        try clear p2
        try clear c3
        try clear c5
        try clear c6
        try clear c6b0
        try clear c6b1
        try clear c7
        try clear c11
        try clear c11b0
        try clear c11b1
        obtain ⟨x11_1, x12_1, x13_1, rfl, HA, HK1, HO_11, HO_12, HB⟩ := hrel
        cases gk with
        | zero => exact absurd HA.out (by simp [vmfleetlaw14_TlbAgrees.l0])
        | succ k1 =>
          have H := HA.out
          clear HA
          simp only [vmfleetlaw14_TlbAgrees.l0] at H
          by_cases c14 : x13_1 < (l1.length : Int)
          · rw [if_pos c14] at H
            have c14b0 : decide (x13_1 < (l1.length : Int)) = true := decide_eq_true c14
            clear c14
            by_cases c15 : 0 ≤ x13_1
            · rw [if_pos c15] at H
              have c15b0 : decide (0 ≤ x13_1) = true := decide_eq_true c15
              clear c15
              replace H := Option.bind_eq_some_iff.mp H
              obtain ⟨t268, A160, H⟩ := H
              replace H : ((tlb_Lookup.f k1 x12_1 (((Go.bits .and .i64 t268 4095) % 4294967296) / 128) (wrap64 (1 + (Int.tmod (t268 / 4096) 3)))).bind fun bt269 => (if bt269.2.2 = true then ((paging_Walk.f k1 x11_1 (Int.tmod a3 ((t265) % 4294967296)) ((Go.bits .and .i64 t268 4095) % 4294967296) (wrap64 (1 + (Int.tmod (t268 / 4096) 3)))).bind fun bt274 => (if bt274.2.2 = 0 then (if bt274.1 = (((128 * bt269.1) + (((Go.bits .and .i64 t268 4095) % 4294967296) % 128)) % 4294967296) then ((paging_Touch.f x11_1 bt274.2.1 (wrap64 (1 + (Int.tmod (t268 / 4096) 3)))).bind fun t278 => ((vmfleetref1_SameWords.f k1 t278 x11_1).bind fun t281 => (if t281 = true then (vmfleetlaw14_TlbAgrees.l0 k1 l1 (Int.tmod a3 ((t265) % 4294967296)) x11_1 bt269.2.1 (wrap64 (x13_1 + 1))) else (some false)))) else (some false)) else (some false))) else ((tlb_Fill.f k1 x12_1 x11_1 (Int.tmod a3 ((t265) % 4294967296)) ((Go.bits .and .i64 t268 4095) % 4294967296) (wrap64 (1 + (Int.tmod (t268 / 4096) 3)))).bind fun bt282 => ((tlb_Coherent.f k1 bt282.2.2.2.1 bt282.2.2.2.2 (Int.tmod a3 ((t265) % 4294967296))).bind fun t291 => (if t291 = true then (vmfleetlaw14_TlbAgrees.l0 k1 l1 (Int.tmod a3 ((t265) % 4294967296)) bt282.2.2.2.2 bt282.2.2.2.1 (wrap64 (x13_1 + 1))) else (some false)))))) = some r := H
              have A16 := Aside0.mk A160
              clear A160
              replace H := Option.bind_eq_some_iff.mp H
              obtain ⟨⟨t269, t270, t271⟩, A170, H⟩ := H
              replace H : (if t271 = true then ((paging_Walk.f k1 x11_1 (Int.tmod a3 ((t265) % 4294967296)) ((Go.bits .and .i64 t268 4095) % 4294967296) (wrap64 (1 + (Int.tmod (t268 / 4096) 3)))).bind fun bt274 => (if bt274.2.2 = 0 then (if bt274.1 = (((128 * t269) + (((Go.bits .and .i64 t268 4095) % 4294967296) % 128)) % 4294967296) then ((paging_Touch.f x11_1 bt274.2.1 (wrap64 (1 + (Int.tmod (t268 / 4096) 3)))).bind fun t278 => ((vmfleetref1_SameWords.f k1 t278 x11_1).bind fun t281 => (if t281 = true then (vmfleetlaw14_TlbAgrees.l0 k1 l1 (Int.tmod a3 ((t265) % 4294967296)) x11_1 t270 (wrap64 (x13_1 + 1))) else (some false)))) else (some false)) else (some false))) else ((tlb_Fill.f k1 x12_1 x11_1 (Int.tmod a3 ((t265) % 4294967296)) ((Go.bits .and .i64 t268 4095) % 4294967296) (wrap64 (1 + (Int.tmod (t268 / 4096) 3)))).bind fun bt282 => ((tlb_Coherent.f k1 bt282.2.2.2.1 bt282.2.2.2.2 (Int.tmod a3 ((t265) % 4294967296))).bind fun t291 => (if t291 = true then (vmfleetlaw14_TlbAgrees.l0 k1 l1 (Int.tmod a3 ((t265) % 4294967296)) bt282.2.2.2.2 bt282.2.2.2.1 (wrap64 (x13_1 + 1))) else (some false))))) = some r := H
              have A17 := Aside0.mk A170
              clear A170
              by_cases c18 : t271 = true
              · subst c18
                have H1 : ((paging_Walk.f k1 x11_1 (Int.tmod a3 ((t265) % 4294967296)) ((Go.bits .and .i64 t268 4095) % 4294967296) (wrap64 (1 + (Int.tmod (t268 / 4096) 3)))).bind fun bt274 => (if bt274.2.2 = 0 then (if bt274.1 = (((128 * t269) + (((Go.bits .and .i64 t268 4095) % 4294967296) % 128)) % 4294967296) then ((paging_Touch.f x11_1 bt274.2.1 (wrap64 (1 + (Int.tmod (t268 / 4096) 3)))).bind fun t278 => ((vmfleetref1_SameWords.f k1 t278 x11_1).bind fun t281 => (if t281 = true then (vmfleetlaw14_TlbAgrees.l0 k1 l1 (Int.tmod a3 ((t265) % 4294967296)) x11_1 t270 (wrap64 (x13_1 + 1))) else (some false)))) else (some false)) else (some false))) = some r := by rw [if_pos rfl] at H; exact H
                clear H
                have H := H1
                clear H1
                replace H := Option.bind_eq_some_iff.mp H
                obtain ⟨⟨t274, t275, t276⟩, A190, H⟩ := H
                replace H : (if t276 = 0 then (if t274 = (((128 * t269) + (((Go.bits .and .i64 t268 4095) % 4294967296) % 128)) % 4294967296) then ((paging_Touch.f x11_1 t275 (wrap64 (1 + (Int.tmod (t268 / 4096) 3)))).bind fun t278 => ((vmfleetref1_SameWords.f k1 t278 x11_1).bind fun t281 => (if t281 = true then (vmfleetlaw14_TlbAgrees.l0 k1 l1 (Int.tmod a3 ((t265) % 4294967296)) x11_1 t270 (wrap64 (x13_1 + 1))) else (some false)))) else (some false)) else (some false)) = some r := H
                have A19 := Aside0.mk A190
                clear A190
                by_cases c20 : t276 = 0
                · rw [if_pos c20] at H
                  have c20b0 : (t276 == 0) = true := beq_iff_eq.mpr c20
                  have c20b1 : (t276 != 0) = false := bne_eq_false_iff_eq.mpr c20
                  clear c20
                  by_cases c21 : t274 = (((128 * t269) + (((Go.bits .and .i64 t268 4095) % 4294967296) % 128)) % 4294967296)
                  · rw [if_pos c21] at H
                    have c21b0 : (t274 == (((128 * t269) + (((Go.bits .and .i64 t268 4095) % 4294967296) % 128)) % 4294967296)) = true := beq_iff_eq.mpr c21
                    have c21b1 : (t274 != (((128 * t269) + (((Go.bits .and .i64 t268 4095) % 4294967296) % 128)) % 4294967296)) = false := bne_eq_false_iff_eq.mpr c21
                    have c21b5 : (t274 != (128 * t269 % 4294967296 + Go.bits .and .i64 t268 4095 % 128)) = false := by rw [show (128 * t269 % 4294967296 + Go.bits .and .i64 t268 4095 % 128) = (((128 * t269) + (((Go.bits .and .i64 t268 4095) % 4294967296) % 128)) % 4294967296) from Hand.addr128 _ _]; exact c21b1
                    have c21b4 : (t274 == (128 * t269 % 4294967296 + Go.bits .and .i64 t268 4095 % 128)) = (!false) := by rw [show (128 * t269 % 4294967296 + Go.bits .and .i64 t268 4095 % 128) = (((128 * t269) + (((Go.bits .and .i64 t268 4095) % 4294967296) % 128)) % 4294967296) from Hand.addr128 _ _]; exact c21b0
                    clear c21
                    replace H := Option.bind_eq_some_iff.mp H
                    obtain ⟨t278, A220, H⟩ := H
                    replace H : ((vmfleetref1_SameWords.f k1 t278 x11_1).bind fun t281 => (if t281 = true then (vmfleetlaw14_TlbAgrees.l0 k1 l1 (Int.tmod a3 ((t265) % 4294967296)) x11_1 t270 (wrap64 (x13_1 + 1))) else (some false))) = some r := H
                    have A22 := Aside0.mk A220
                    clear A220
                    replace H := Option.bind_eq_some_iff.mp H
                    obtain ⟨t281, A230, H⟩ := H
                    replace H : (if t281 = true then (vmfleetlaw14_TlbAgrees.l0 k1 l1 (Int.tmod a3 ((t265) % 4294967296)) x11_1 t270 (wrap64 (x13_1 + 1))) else (some false)) = some r := H
                    have A23 := Aside0.mk A230
                    clear A230
                    by_cases c24 : t281 = true
                    · subst c24
                      have H1 : (vmfleetlaw14_TlbAgrees.l0 k1 l1 (Int.tmod a3 ((t265) % 4294967296)) x11_1 t270 (wrap64 (x13_1 + 1))) = some r := by rw [if_pos rfl] at H; exact H
                      clear H
                      have H := H1
                      clear H1
                      have H' := Aside0.mk H
                      clear H
                      have p267 : 0 ≤ (x13_1 : Int) := of_decide_eq_true (by first | (with_reducible assumption) | assumption)
                      have q267 : x13_1 < (l1.length : Int) := of_decide_eq_true (by first | (with_reducible assumption) | assumption)
                      obtain ⟨ad267, e267, hx267_0⟩ := Kd.at_int HR1.out x13_1 p267 q267
                      cases e267
                      replace hx267_0 := (HB.out.cell (World.block_lt_of_cell? w _ hx267_0)).trans hx267_0
                      replace p267 := eq_true p267
                      replace q267 := eq_true q267
                      go_wp2_with (first | ((with_reducible refine gate_callee (f := 8) rfl ?_); refine goesL_ (some 43) rfl rfl Try.func8 (by kernel_rfl) rfl #[.int .i64 (rd l1 x13_1), .int .i64 14] rfl (by (try simp only [List.map_toArray, List.map_cons, List.map_nil]); first | done | rfl | (simp only [List.length_drop, List.length_take]; rfl)) ?_; (with_reducible refine (vmfleetmake_Mix.calls (rd l1 x13_1) 14 t268 _ A16.out).mono ?_); rintro e w' ⟨rfl, ⟨nd, rfl⟩⟩; refine ⟨_, rfl, ?_⟩; (try (rw [drewN_self wr]; generalize hq_ : World.drewN wr _ = wr; have n0_ : Aside0 (Kd.R (Kd.int .u32) 23 wr w.heap.size (fun _ => True) u11 x11_1) := ⟨by rw [← hq_]; exact (by (with_reducible repeat (first | apply Kd.R_alloc | apply Kd.R_drewN | apply Kd.R_drew)); exact HO_11.out)⟩; have n1_ : Aside0 (Kd.V k49 49 wr w.heap.size (fun k_ => some k_ ≠ (u11 : Value).ownBlock) u12 x12_1) := ⟨by rw [← hq_]; exact (by (with_reducible repeat (first | apply Kd.V_alloc | apply Kd.V_drewN | apply Kd.V_drew)); exact HO_12.out)⟩; have n2_ : Aside0 (Below w.heap.size w wr) := ⟨by rw [← hq_]; exact (by repeat (first | (with_reducible first | exact HB.out | apply below_alloc | apply pw_below_drewN | apply below_drew1) | exact HB.out))⟩; clear HO_11 HO_12 HB hq_; have HO_11 := n0_; have HO_12 := n1_; have HB := n2_; clear n0_ n1_ n2_)); obtain ⟨Ao25, co25, eo25⟩ := Kd.V_slice HO_12.out; subst eo25) | ((with_reducible refine gate_callee (f := 9) rfl ?_); refine goesL_ (some 56) rfl rfl Try.func9 (by kernel_rfl) rfl #[.slice Ao25 x12_1.length co25, .int .u32 (((Go.bits .and .i64 t268 4095) % 4294967296) / 128), .int .i64 (wrap64 (1 + (Int.tmod (t268 / 4096) 3)))] rfl (by (try simp only [List.map_toArray, List.map_cons, List.map_nil]); first | done | rfl | (simp only [List.length_drop, List.length_take]; rfl)) ?_; (with_reducible refine (tlb_Lookup.calls k1 _ _ x12_1 (((Go.bits .and .i64 t268 4095) % 4294967296) / 128) (wrap64 (1 + (Int.tmod (t268 / 4096) 3))) t269 t270 true _ ?side1 ?side2 A17.out).mono ?_); (case side1 => repeat (first | exact (Kd.V_reads' HO_12.out).2.2 | (with_reducible refine Kd.C_alloc ?_ _) | (with_reducible refine Kd.C_drewN ?_ _) | (with_reducible refine Kd.C_drew ?_))); (case side2 => exact (Kd.V_reads' HO_12.out).2.1); rintro e w26 ⟨v272, rfl, ho0, hb⟩; refine ⟨_, rfl, ?_⟩; have n0_ := Aside0.mk (Kd.R_below (by (with_reducible repeat (first | apply Kd.R_alloc | apply Kd.R_drewN | apply Kd.R_drew)); exact HO_11.out) hb); have n1_ := Aside0.mk (Kd.V_elder' (by (with_reducible repeat (first | apply Kd.V_alloc | apply Kd.V_drewN | apply Kd.V_drew)); exact HO_12.out) (Kd.R_base ho0) hb); have n2_ := Aside0.mk (Kd.R_lower ho0 (below_size (by repeat (first | (with_reducible first | exact HB.out | apply below_alloc | apply pw_below_drewN | apply below_drew1) | exact HB.out)))); have n3_ := Aside0.mk (below_step (by repeat (first | (with_reducible first | exact HB.out | apply below_alloc | apply pw_below_drewN | apply below_drew1) | exact HB.out)) hb); clear HO_11; clear HO_12; clear HB; have HO_11 := n0_; have HO_12 := n1_; have HO273 := n2_; have HB := n3_; clear n0_ n1_ n2_ n3_; (try clear hb); (try clear hb2); (try clear hk); (try clear hi); (try clear ho0); obtain ⟨Ao27, co27, eo27⟩ := Kd.R_slice HO_11.out; subst eo27) | ((with_reducible refine gate_callee (f := 10) rfl ?_); refine goesL_ (some 65) rfl rfl Try.func10 (by kernel_rfl) rfl #[.slice Ao27 x11_1.length co27, .int .u32 (Int.tmod a3 ((t265) % 4294967296)), .int .u32 ((Go.bits .and .i64 t268 4095) % 4294967296), .int .i64 (wrap64 (1 + (Int.tmod (t268 / 4096) 3)))] rfl (by (try simp only [List.map_toArray, List.map_cons, List.map_nil]); first | done | rfl | (simp only [List.length_drop, List.length_take]; rfl)) ?_; (with_reducible refine (paging_Walk.calls k1 _ _ x11_1 (Int.tmod a3 ((t265) % 4294967296)) ((Go.bits .and .i64 t268 4095) % 4294967296) (wrap64 (1 + (Int.tmod (t268 / 4096) 3))) t274 t275 t276 _ ?side1 ?side2 A19.out).mono ?_); (case side1 => repeat (first | exact (Kd.R_reads' HO_11.out).2.2 | (with_reducible refine Kd.C_alloc ?_ _) | (with_reducible refine Kd.C_drewN ?_ _) | (with_reducible refine Kd.C_drew ?_))); (case side2 => exact (Kd.R_reads' HO_11.out).2.1); rintro e w28 ⟨rfl, hb⟩; refine ⟨_, rfl, ?_⟩; have n0_ := Aside0.mk (Kd.R_below (by (with_reducible repeat (first | apply Kd.R_alloc | apply Kd.R_drewN | apply Kd.R_drew)); exact HO_11.out) hb); have n1_ := Aside0.mk (Kd.V_below (by (with_reducible repeat (first | apply Kd.V_alloc | apply Kd.V_drewN | apply Kd.V_drew)); exact HO_12.out) hb); have n2_ := Aside0.mk (Kd.R_below (by (with_reducible repeat (first | apply Kd.R_alloc | apply Kd.R_drewN | apply Kd.R_drew)); exact HO273.out) hb); have n3_ := Aside0.mk (below_step (by repeat (first | (with_reducible first | exact HB.out | apply below_alloc | apply pw_below_drewN | apply below_drew1) | exact HB.out)) hb); clear HO_11; clear HO_12; clear HO273; clear HB; have HO_11 := n0_; have HO_12 := n1_; have HO273 := n2_; have HB := n3_; clear n0_ n1_ n2_ n3_; (try clear hb); (try clear hb2); (try clear hk); (try clear hi)) | ((with_reducible refine gate_dst (N := 20) rfl ?_); refine box_event ?hg (N := 20) ?hd (cs := #[.int .u32 0, .int .u32 0, .int .i64 0]) (t := 34) ?hr ?_; (case hd => rfl); (case hg => rfl); (case hr => first | (go_simp; done) | (go_simp; rfl)); intro gb277 hg w29 hbox hb; have n0_ := Aside0.mk (Kd.R_below (by (with_reducible repeat (first | apply Kd.R_alloc | apply Kd.R_drewN | apply Kd.R_drew)); exact HO_11.out) hb); have n1_ := Aside0.mk (Kd.V_below (Kd.V_elderB (by (with_reducible repeat (first | apply Kd.V_alloc | apply Kd.V_drewN | apply Kd.V_drew)); exact HO_12.out) gb277 (Nat.le_of_eq hg.symm)) hb); have n2_ := Aside0.mk (Kd.R_below (by (with_reducible repeat (first | apply Kd.R_alloc | apply Kd.R_drewN | apply Kd.R_drew)); exact HO273.out) hb); have n3_ := Aside0.mk (below_step (by repeat (first | (with_reducible first | exact HB.out | apply below_alloc | apply pw_below_drewN | apply below_drew1) | exact HB.out)) hb); have n4_ := Aside0.mk (hbox); have n5_ := Aside0.mk ((by rw [hg]; exact (below_size (by repeat (first | (with_reducible first | exact HB.out | apply below_alloc | apply pw_below_drewN | apply below_drew1) | exact HB.out))) : w.heap.size ≤ gb277)); have n6_ := Aside0.mk ((by rw [hg]; exact (below_size (by repeat (first | (with_reducible first | exact HB.out | apply below_alloc | apply pw_below_drewN | apply below_drew1) | exact HB.out))) : w.heap.size ≤ gb277)); clear HO_11; clear HO_12; clear HO273; clear HB; have HO_11 := n0_; have HO_12 := n1_; have HO273 := n2_; have HB := n3_; have BK277 := n4_; have GW277 := n5_; have GE277 := n6_; clear n0_ n1_ n2_ n3_ n4_ n5_ n6_; clear hb hbox hg; have hcz30_0 : w29.cell? ⟨gb277, 0, none⟩ = some (.int .u32 0) := (blk_cell BK277.out 0).trans rfl; have hcz30_1 : w29.cell? ⟨gb277, 1, none⟩ = some (.int .u32 0) := (blk_cell BK277.out 1).trans rfl; have hcz30_2 : w29.cell? ⟨gb277, 2, none⟩ = some (.int .i64 0) := (blk_cell BK277.out 2).trans rfl; have hfz30_0 := blk_frozen BK277.out 0; have hfz30_1 := blk_frozen BK277.out 1; have hfz30_2 := blk_frozen BK277.out 2) | (go_at_call 12; (with_reducible refine (paging_Touch.calls _ _ x11_1 t275 (wrap64 (1 + (Int.tmod (t268 / 4096) 3))) t278 _ ?side1 ?side2 A22.out).mono ?_); (case side1 => refine (Kd.R_reads' (e := 23) (base := w.heap.size) (ok := fun k_ => True) (n := x11_1.length) (c := co27) ?_).2.2; exact (by (with_reducible repeat (first | apply Kd.R_alloc | apply Kd.R_drewN | apply Kd.R_drew)); exact (Kd.R_mono (Kd.R_far (p := ⟨gb277, 2, none⟩) (Kd.R_far (p := ⟨gb277, 1, none⟩) (Kd.R_far (p := ⟨gb277, 0, none⟩) (Kd.R_types HO_11.out BK277.out (by decide)) (fun _ hk => hk.2) (.int .u32 t274)) (fun _ hk => hk.2) (.int .u32 t275)) (fun _ hk => hk.2) (.int .i64 t276)) (fun _ h_ => h_.1)))); (case side2 => exact (Kd.R_reads' HO_11.out).2.1); rintro e w31 ⟨v279, rfl, ho0, hb⟩; have n0_ := Aside0.mk (Kd.R_elder' (by (with_reducible repeat (first | apply Kd.R_alloc | apply Kd.R_drewN | apply Kd.R_drew)); exact (Kd.R_mono (Kd.R_far (p := ⟨gb277, 2, none⟩) (Kd.R_far (p := ⟨gb277, 1, none⟩) (Kd.R_far (p := ⟨gb277, 0, none⟩) (Kd.R_types HO_11.out BK277.out (by decide)) (fun _ hk => hk.2) (.int .u32 t274)) (fun _ hk => hk.2) (.int .u32 t275)) (fun _ hk => hk.2) (.int .i64 t276)) (fun _ h_ => h_.1))) (Kd.R_base ho0) hb); have n1_ := Aside0.mk (Kd.V_elder' (by (with_reducible repeat (first | apply Kd.V_alloc | apply Kd.V_drewN | apply Kd.V_drew)); exact (Kd.V_mono (Kd.V_far (p := ⟨gb277, 2, none⟩) (Kd.V_far (p := ⟨gb277, 1, none⟩) (Kd.V_far (p := ⟨gb277, 0, none⟩) (Kd.V_mono HO_12.out (fun k_ hk => (⟨hk, hk.2⟩ : _ ∧ k_ ≠ gb277))) (fun _ hk => hk.2) (.int .u32 t274)) (fun _ hk => hk.2) (.int .u32 t275)) (fun _ hk => hk.2) (.int .i64 t276)) (fun _ h_ => h_.1))) (Kd.R_base ho0) hb); have n2_ := Aside0.mk (Kd.R_below (by (with_reducible repeat (first | apply Kd.R_alloc | apply Kd.R_drewN | apply Kd.R_drew)); exact (Kd.R_mono (Kd.R_far (p := ⟨gb277, 2, none⟩) (Kd.R_far (p := ⟨gb277, 1, none⟩) (Kd.R_far (p := ⟨gb277, 0, none⟩) (Kd.R_types HO273.out BK277.out (by decide)) (fun _ hk => hk.2) (.int .u32 t274)) (fun _ hk => hk.2) (.int .u32 t275)) (fun _ hk => hk.2) (.int .i64 t276)) (fun _ h_ => h_.1))) hb); have n3_ := Aside0.mk (Kd.R_lower (Kd.R_new' ho0 (Kd.R_lt (by (with_reducible repeat (first | apply Kd.R_alloc | apply Kd.R_drewN | apply Kd.R_drew)); exact (Kd.R_mono (Kd.R_far (p := ⟨gb277, 2, none⟩) (Kd.R_far (p := ⟨gb277, 1, none⟩) (Kd.R_far (p := ⟨gb277, 0, none⟩) (Kd.R_types HO_11.out BK277.out (by decide)) (fun _ hk => hk.2) (.int .u32 t274)) (fun _ hk => hk.2) (.int .u32 t275)) (fun _ hk => hk.2) (.int .i64 t276)) (fun _ h_ => h_.1))))) (below_size (by repeat (first | (with_reducible first | exact HB.out | apply below_alloc | apply pw_below_drewN | apply below_drew1 | refine below_set ?_ GE277.out) | exact HB.out)))); have n4_ := Aside0.mk (blk_below (g := gb277) (o := .cells #[.int .u32 t274, .int .u32 t275, .int .i64 t276] 34 (0, 0)) (by (with_reducible repeat (first | refine blk_drewN ?_ _ | refine blk_drew ?_ | refine blk_alloc ?_ _)); refine blk_put (cs := #[.int .u32 t274, .int .u32 t275, .int .i64 0]) ?_ 2 _ rfl; (with_reducible repeat (first | refine blk_drewN ?_ _ | refine blk_drew ?_ | refine blk_alloc ?_ _)); refine blk_put (cs := #[.int .u32 t274, .int .u32 0, .int .i64 0]) ?_ 1 _ rfl; (with_reducible repeat (first | refine blk_drewN ?_ _ | refine blk_drew ?_ | refine blk_alloc ?_ _)); refine blk_put (cs := #[.int .u32 0, .int .u32 0, .int .i64 0]) ?_ 0 _ rfl; (with_reducible repeat (first | refine blk_drewN ?_ _ | refine blk_drew ?_ | refine blk_alloc ?_ _)); exact BK277.out) hb); have n5_ := Aside0.mk (below_step (by repeat (first | (with_reducible first | exact HB.out | apply below_alloc | apply pw_below_drewN | apply below_drew1 | refine below_set ?_ GE277.out) | exact HB.out)) hb); clear HO_11; clear HO_12; clear HO273; clear BK277; clear HB; have HO_11 := n0_; have HO_12 := n1_; have HO273 := n2_; have HO280 := n3_; have BK277 := n4_; have HB := n5_; clear n0_ n1_ n2_ n3_ n4_ n5_; (try clear hb); (try clear hb2); (try clear hk); (try clear hi); (try clear ho0); obtain ⟨Ao32, co32, eo32⟩ := Kd.R_slice HO280.out; subst eo32) | (go_at_call 11; (with_reducible refine (vmfleetref1_SameWords.calls k1 _ _ t278 _ _ x11_1 true _ ?side1 ?side2 ?side3 ?side4 A23.out).mono ?_); (case side1 => repeat (first | exact (Kd.R_reads' HO280.out).2.2 | (with_reducible refine Kd.C_alloc ?_ _) | (with_reducible refine Kd.C_drewN ?_ _) | (with_reducible refine Kd.C_drew ?_))); (case side2 => exact (Kd.R_reads' HO280.out).2.1); (case side3 => repeat (first | exact (Kd.R_reads' HO_11.out).2.2 | (with_reducible refine Kd.C_alloc ?_ _) | (with_reducible refine Kd.C_drewN ?_ _) | (with_reducible refine Kd.C_drew ?_))); (case side4 => exact (Kd.R_reads' HO_11.out).2.1); rintro e w' ⟨rfl, ⟨nd, rfl⟩⟩))
                      go_roundg k1
                      case measure => have := HK1.out; omega
                      case rel => exact ⟨(x11_1), (t270), (wrap64 (x13_1 + 1)), (by first | rfl | (simp; done) | (simp [*]; done)), H', ⟨by have := HK1.out; omega⟩, ⟨by (with_reducible repeat (first | apply Kd.R_alloc | apply Kd.R_drewN | apply Kd.R_drew)); exact Kd.R_mono HO_11.out (fun _ hk => trivial)⟩, ⟨Kd.R_V (by (with_reducible repeat (first | apply Kd.R_alloc | apply Kd.R_drewN | apply Kd.R_drew)); exact Kd.R_mono (Kd.R_apart' HO273.out (Kd.R_typed HO_11.out) (by decide)) (fun _ hk => hk.2))⟩, ⟨by repeat (first | (with_reducible first | exact HB.out | apply below_alloc | apply pw_below_drewN | apply below_drew1 | refine below_set ?_ GE277.out) | exact HB.out)⟩⟩
                    · replace c24 := Bool.eq_false_iff.mpr c24
                      subst c24
                      have H1 : (some false) = some r := by rw [if_neg (show ¬ (false = true) by decide)] at H; exact H
                      clear H
                      have H := H1
                      clear H1
                      obtain rfl := Option.some.inj H
                      have p267 : 0 ≤ (x13_1 : Int) := of_decide_eq_true (by first | (with_reducible assumption) | assumption)
                      have q267 : x13_1 < (l1.length : Int) := of_decide_eq_true (by first | (with_reducible assumption) | assumption)
                      obtain ⟨ad267, e267, hx267_0⟩ := Kd.at_int HR1.out x13_1 p267 q267
                      cases e267
                      replace hx267_0 := (HB.out.cell (World.block_lt_of_cell? w _ hx267_0)).trans hx267_0
                      replace p267 := eq_true p267
                      replace q267 := eq_true q267
                      go_wp2_with (first | ((with_reducible refine gate_callee (f := 8) rfl ?_); refine goesL_ (some 43) rfl rfl Try.func8 (by kernel_rfl) rfl #[.int .i64 (rd l1 x13_1), .int .i64 14] rfl (by (try simp only [List.map_toArray, List.map_cons, List.map_nil]); first | done | rfl | (simp only [List.length_drop, List.length_take]; rfl)) ?_; (with_reducible refine (vmfleetmake_Mix.calls (rd l1 x13_1) 14 t268 _ A16.out).mono ?_); rintro e w' ⟨rfl, ⟨nd, rfl⟩⟩; refine ⟨_, rfl, ?_⟩; (try (rw [drewN_self wr]; generalize hq_ : World.drewN wr _ = wr; have n0_ : Aside0 (Kd.R (Kd.int .u32) 23 wr w.heap.size (fun _ => True) u11 x11_1) := ⟨by rw [← hq_]; exact (by (with_reducible repeat (first | apply Kd.R_alloc | apply Kd.R_drewN | apply Kd.R_drew)); exact HO_11.out)⟩; have n1_ : Aside0 (Kd.V k49 49 wr w.heap.size (fun k_ => some k_ ≠ (u11 : Value).ownBlock) u12 x12_1) := ⟨by rw [← hq_]; exact (by (with_reducible repeat (first | apply Kd.V_alloc | apply Kd.V_drewN | apply Kd.V_drew)); exact HO_12.out)⟩; have n2_ : Aside0 (Below w.heap.size w wr) := ⟨by rw [← hq_]; exact (by repeat (first | (with_reducible first | exact HB.out | apply below_alloc | apply pw_below_drewN | apply below_drew1) | exact HB.out))⟩; clear HO_11 HO_12 HB hq_; have HO_11 := n0_; have HO_12 := n1_; have HB := n2_; clear n0_ n1_ n2_)); obtain ⟨Ao33, co33, eo33⟩ := Kd.V_slice HO_12.out; subst eo33) | ((with_reducible refine gate_callee (f := 9) rfl ?_); refine goesL_ (some 56) rfl rfl Try.func9 (by kernel_rfl) rfl #[.slice Ao33 x12_1.length co33, .int .u32 (((Go.bits .and .i64 t268 4095) % 4294967296) / 128), .int .i64 (wrap64 (1 + (Int.tmod (t268 / 4096) 3)))] rfl (by (try simp only [List.map_toArray, List.map_cons, List.map_nil]); first | done | rfl | (simp only [List.length_drop, List.length_take]; rfl)) ?_; (with_reducible refine (tlb_Lookup.calls k1 _ _ x12_1 (((Go.bits .and .i64 t268 4095) % 4294967296) / 128) (wrap64 (1 + (Int.tmod (t268 / 4096) 3))) t269 t270 true _ ?side1 ?side2 A17.out).mono ?_); (case side1 => repeat (first | exact (Kd.V_reads' HO_12.out).2.2 | (with_reducible refine Kd.C_alloc ?_ _) | (with_reducible refine Kd.C_drewN ?_ _) | (with_reducible refine Kd.C_drew ?_))); (case side2 => exact (Kd.V_reads' HO_12.out).2.1); rintro e w34 ⟨v272, rfl, ho0, hb⟩; refine ⟨_, rfl, ?_⟩; have n0_ := Aside0.mk (Kd.R_below (by (with_reducible repeat (first | apply Kd.R_alloc | apply Kd.R_drewN | apply Kd.R_drew)); exact HO_11.out) hb); have n1_ := Aside0.mk (Kd.V_elder' (by (with_reducible repeat (first | apply Kd.V_alloc | apply Kd.V_drewN | apply Kd.V_drew)); exact HO_12.out) (Kd.R_base ho0) hb); have n2_ := Aside0.mk (Kd.R_lower ho0 (below_size (by repeat (first | (with_reducible first | exact HB.out | apply below_alloc | apply pw_below_drewN | apply below_drew1) | exact HB.out)))); have n3_ := Aside0.mk (below_step (by repeat (first | (with_reducible first | exact HB.out | apply below_alloc | apply pw_below_drewN | apply below_drew1) | exact HB.out)) hb); clear HO_11; clear HO_12; clear HB; have HO_11 := n0_; have HO_12 := n1_; have HO273 := n2_; have HB := n3_; clear n0_ n1_ n2_ n3_; (try clear hb); (try clear hb2); (try clear hk); (try clear hi); (try clear ho0); obtain ⟨Ao35, co35, eo35⟩ := Kd.R_slice HO_11.out; subst eo35) | ((with_reducible refine gate_callee (f := 10) rfl ?_); refine goesL_ (some 65) rfl rfl Try.func10 (by kernel_rfl) rfl #[.slice Ao35 x11_1.length co35, .int .u32 (Int.tmod a3 ((t265) % 4294967296)), .int .u32 ((Go.bits .and .i64 t268 4095) % 4294967296), .int .i64 (wrap64 (1 + (Int.tmod (t268 / 4096) 3)))] rfl (by (try simp only [List.map_toArray, List.map_cons, List.map_nil]); first | done | rfl | (simp only [List.length_drop, List.length_take]; rfl)) ?_; (with_reducible refine (paging_Walk.calls k1 _ _ x11_1 (Int.tmod a3 ((t265) % 4294967296)) ((Go.bits .and .i64 t268 4095) % 4294967296) (wrap64 (1 + (Int.tmod (t268 / 4096) 3))) t274 t275 t276 _ ?side1 ?side2 A19.out).mono ?_); (case side1 => repeat (first | exact (Kd.R_reads' HO_11.out).2.2 | (with_reducible refine Kd.C_alloc ?_ _) | (with_reducible refine Kd.C_drewN ?_ _) | (with_reducible refine Kd.C_drew ?_))); (case side2 => exact (Kd.R_reads' HO_11.out).2.1); rintro e w36 ⟨rfl, hb⟩; refine ⟨_, rfl, ?_⟩; have n0_ := Aside0.mk (Kd.R_below (by (with_reducible repeat (first | apply Kd.R_alloc | apply Kd.R_drewN | apply Kd.R_drew)); exact HO_11.out) hb); have n1_ := Aside0.mk (Kd.V_below (by (with_reducible repeat (first | apply Kd.V_alloc | apply Kd.V_drewN | apply Kd.V_drew)); exact HO_12.out) hb); have n2_ := Aside0.mk (Kd.R_below (by (with_reducible repeat (first | apply Kd.R_alloc | apply Kd.R_drewN | apply Kd.R_drew)); exact HO273.out) hb); have n3_ := Aside0.mk (below_step (by repeat (first | (with_reducible first | exact HB.out | apply below_alloc | apply pw_below_drewN | apply below_drew1) | exact HB.out)) hb); clear HO_11; clear HO_12; clear HO273; clear HB; have HO_11 := n0_; have HO_12 := n1_; have HO273 := n2_; have HB := n3_; clear n0_ n1_ n2_ n3_; (try clear hb); (try clear hb2); (try clear hk); (try clear hi)) | ((with_reducible refine gate_dst (N := 20) rfl ?_); refine box_event ?hg (N := 20) ?hd (cs := #[.int .u32 0, .int .u32 0, .int .i64 0]) (t := 34) ?hr ?_; (case hd => rfl); (case hg => rfl); (case hr => first | (go_simp; done) | (go_simp; rfl)); intro gb277 hg w37 hbox hb; have n0_ := Aside0.mk (Kd.R_below (by (with_reducible repeat (first | apply Kd.R_alloc | apply Kd.R_drewN | apply Kd.R_drew)); exact HO_11.out) hb); have n1_ := Aside0.mk (Kd.V_below (Kd.V_elderB (by (with_reducible repeat (first | apply Kd.V_alloc | apply Kd.V_drewN | apply Kd.V_drew)); exact HO_12.out) gb277 (Nat.le_of_eq hg.symm)) hb); have n2_ := Aside0.mk (Kd.R_below (by (with_reducible repeat (first | apply Kd.R_alloc | apply Kd.R_drewN | apply Kd.R_drew)); exact HO273.out) hb); have n3_ := Aside0.mk (below_step (by repeat (first | (with_reducible first | exact HB.out | apply below_alloc | apply pw_below_drewN | apply below_drew1) | exact HB.out)) hb); have n4_ := Aside0.mk (hbox); have n5_ := Aside0.mk ((by rw [hg]; exact (below_size (by repeat (first | (with_reducible first | exact HB.out | apply below_alloc | apply pw_below_drewN | apply below_drew1) | exact HB.out))) : w.heap.size ≤ gb277)); have n6_ := Aside0.mk ((by rw [hg]; exact (below_size (by repeat (first | (with_reducible first | exact HB.out | apply below_alloc | apply pw_below_drewN | apply below_drew1) | exact HB.out))) : w.heap.size ≤ gb277)); clear HO_11; clear HO_12; clear HO273; clear HB; have HO_11 := n0_; have HO_12 := n1_; have HO273 := n2_; have HB := n3_; have BK277 := n4_; have GW277 := n5_; have GE277 := n6_; clear n0_ n1_ n2_ n3_ n4_ n5_ n6_; clear hb hbox hg; have hcz38_0 : w37.cell? ⟨gb277, 0, none⟩ = some (.int .u32 0) := (blk_cell BK277.out 0).trans rfl; have hcz38_1 : w37.cell? ⟨gb277, 1, none⟩ = some (.int .u32 0) := (blk_cell BK277.out 1).trans rfl; have hcz38_2 : w37.cell? ⟨gb277, 2, none⟩ = some (.int .i64 0) := (blk_cell BK277.out 2).trans rfl; have hfz38_0 := blk_frozen BK277.out 0; have hfz38_1 := blk_frozen BK277.out 1; have hfz38_2 := blk_frozen BK277.out 2) | (go_at_call 12; (with_reducible refine (paging_Touch.calls _ _ x11_1 t275 (wrap64 (1 + (Int.tmod (t268 / 4096) 3))) t278 _ ?side1 ?side2 A22.out).mono ?_); (case side1 => refine (Kd.R_reads' (e := 23) (base := w.heap.size) (ok := fun k_ => True) (n := x11_1.length) (c := co35) ?_).2.2; exact (by (with_reducible repeat (first | apply Kd.R_alloc | apply Kd.R_drewN | apply Kd.R_drew)); exact (Kd.R_mono (Kd.R_far (p := ⟨gb277, 2, none⟩) (Kd.R_far (p := ⟨gb277, 1, none⟩) (Kd.R_far (p := ⟨gb277, 0, none⟩) (Kd.R_types HO_11.out BK277.out (by decide)) (fun _ hk => hk.2) (.int .u32 t274)) (fun _ hk => hk.2) (.int .u32 t275)) (fun _ hk => hk.2) (.int .i64 t276)) (fun _ h_ => h_.1)))); (case side2 => exact (Kd.R_reads' HO_11.out).2.1); rintro e w39 ⟨v279, rfl, ho0, hb⟩; have n0_ := Aside0.mk (Kd.R_elder' (by (with_reducible repeat (first | apply Kd.R_alloc | apply Kd.R_drewN | apply Kd.R_drew)); exact (Kd.R_mono (Kd.R_far (p := ⟨gb277, 2, none⟩) (Kd.R_far (p := ⟨gb277, 1, none⟩) (Kd.R_far (p := ⟨gb277, 0, none⟩) (Kd.R_types HO_11.out BK277.out (by decide)) (fun _ hk => hk.2) (.int .u32 t274)) (fun _ hk => hk.2) (.int .u32 t275)) (fun _ hk => hk.2) (.int .i64 t276)) (fun _ h_ => h_.1))) (Kd.R_base ho0) hb); have n1_ := Aside0.mk (Kd.V_elder' (by (with_reducible repeat (first | apply Kd.V_alloc | apply Kd.V_drewN | apply Kd.V_drew)); exact (Kd.V_mono (Kd.V_far (p := ⟨gb277, 2, none⟩) (Kd.V_far (p := ⟨gb277, 1, none⟩) (Kd.V_far (p := ⟨gb277, 0, none⟩) (Kd.V_mono HO_12.out (fun k_ hk => (⟨hk, hk.2⟩ : _ ∧ k_ ≠ gb277))) (fun _ hk => hk.2) (.int .u32 t274)) (fun _ hk => hk.2) (.int .u32 t275)) (fun _ hk => hk.2) (.int .i64 t276)) (fun _ h_ => h_.1))) (Kd.R_base ho0) hb); have n2_ := Aside0.mk (Kd.R_below (by (with_reducible repeat (first | apply Kd.R_alloc | apply Kd.R_drewN | apply Kd.R_drew)); exact (Kd.R_mono (Kd.R_far (p := ⟨gb277, 2, none⟩) (Kd.R_far (p := ⟨gb277, 1, none⟩) (Kd.R_far (p := ⟨gb277, 0, none⟩) (Kd.R_types HO273.out BK277.out (by decide)) (fun _ hk => hk.2) (.int .u32 t274)) (fun _ hk => hk.2) (.int .u32 t275)) (fun _ hk => hk.2) (.int .i64 t276)) (fun _ h_ => h_.1))) hb); have n3_ := Aside0.mk (Kd.R_lower (Kd.R_new' ho0 (Kd.R_lt (by (with_reducible repeat (first | apply Kd.R_alloc | apply Kd.R_drewN | apply Kd.R_drew)); exact (Kd.R_mono (Kd.R_far (p := ⟨gb277, 2, none⟩) (Kd.R_far (p := ⟨gb277, 1, none⟩) (Kd.R_far (p := ⟨gb277, 0, none⟩) (Kd.R_types HO_11.out BK277.out (by decide)) (fun _ hk => hk.2) (.int .u32 t274)) (fun _ hk => hk.2) (.int .u32 t275)) (fun _ hk => hk.2) (.int .i64 t276)) (fun _ h_ => h_.1))))) (below_size (by repeat (first | (with_reducible first | exact HB.out | apply below_alloc | apply pw_below_drewN | apply below_drew1 | refine below_set ?_ GE277.out) | exact HB.out)))); have n4_ := Aside0.mk (blk_below (g := gb277) (o := .cells #[.int .u32 t274, .int .u32 t275, .int .i64 t276] 34 (0, 0)) (by (with_reducible repeat (first | refine blk_drewN ?_ _ | refine blk_drew ?_ | refine blk_alloc ?_ _)); refine blk_put (cs := #[.int .u32 t274, .int .u32 t275, .int .i64 0]) ?_ 2 _ rfl; (with_reducible repeat (first | refine blk_drewN ?_ _ | refine blk_drew ?_ | refine blk_alloc ?_ _)); refine blk_put (cs := #[.int .u32 t274, .int .u32 0, .int .i64 0]) ?_ 1 _ rfl; (with_reducible repeat (first | refine blk_drewN ?_ _ | refine blk_drew ?_ | refine blk_alloc ?_ _)); refine blk_put (cs := #[.int .u32 0, .int .u32 0, .int .i64 0]) ?_ 0 _ rfl; (with_reducible repeat (first | refine blk_drewN ?_ _ | refine blk_drew ?_ | refine blk_alloc ?_ _)); exact BK277.out) hb); have n5_ := Aside0.mk (below_step (by repeat (first | (with_reducible first | exact HB.out | apply below_alloc | apply pw_below_drewN | apply below_drew1 | refine below_set ?_ GE277.out) | exact HB.out)) hb); clear HO_11; clear HO_12; clear HO273; clear BK277; clear HB; have HO_11 := n0_; have HO_12 := n1_; have HO273 := n2_; have HO280 := n3_; have BK277 := n4_; have HB := n5_; clear n0_ n1_ n2_ n3_ n4_ n5_; (try clear hb); (try clear hb2); (try clear hk); (try clear hi); (try clear ho0); obtain ⟨Ao40, co40, eo40⟩ := Kd.R_slice HO280.out; subst eo40) | (go_at_call 11; (with_reducible refine (vmfleetref1_SameWords.calls k1 _ _ t278 _ _ x11_1 false _ ?side1 ?side2 ?side3 ?side4 A23.out).mono ?_); (case side1 => repeat (first | exact (Kd.R_reads' HO280.out).2.2 | (with_reducible refine Kd.C_alloc ?_ _) | (with_reducible refine Kd.C_drewN ?_ _) | (with_reducible refine Kd.C_drew ?_))); (case side2 => exact (Kd.R_reads' HO280.out).2.1); (case side3 => repeat (first | exact (Kd.R_reads' HO_11.out).2.2 | (with_reducible refine Kd.C_alloc ?_ _) | (with_reducible refine Kd.C_drewN ?_ _) | (with_reducible refine Kd.C_drew ?_))); (case side4 => exact (Kd.R_reads' HO_11.out).2.1); rintro e w' ⟨rfl, ⟨nd, rfl⟩⟩))
                      go_ret
                      exact ⟨by first | rfl | (simp [errW_none, errW_some] <;> rfl) | (simp [*, errW_none, errW_some] <;> rfl), by repeat (first | (with_reducible first | exact HB.out | apply below_alloc | apply pw_below_drewN | apply below_drew1 | refine below_set ?_ GE277.out) | exact HB.out)⟩
                  · rw [if_neg c21] at H
                    have c21b0 : (t274 == (((128 * t269) + (((Go.bits .and .i64 t268 4095) % 4294967296) % 128)) % 4294967296)) = false := beq_eq_false_iff_ne.mpr c21
                    have c21b1 : (t274 != (((128 * t269) + (((Go.bits .and .i64 t268 4095) % 4294967296) % 128)) % 4294967296)) = true := bne_iff_ne.mpr c21
                    have c21b5 : (t274 != (128 * t269 % 4294967296 + Go.bits .and .i64 t268 4095 % 128)) = true := by rw [show (128 * t269 % 4294967296 + Go.bits .and .i64 t268 4095 % 128) = (((128 * t269) + (((Go.bits .and .i64 t268 4095) % 4294967296) % 128)) % 4294967296) from Hand.addr128 _ _]; exact c21b1
                    have c21b4 : (t274 == (128 * t269 % 4294967296 + Go.bits .and .i64 t268 4095 % 128)) = (!true) := by rw [show (128 * t269 % 4294967296 + Go.bits .and .i64 t268 4095 % 128) = (((128 * t269) + (((Go.bits .and .i64 t268 4095) % 4294967296) % 128)) % 4294967296) from Hand.addr128 _ _]; exact c21b0
                    obtain rfl := Option.some.inj H
                    have p267 : 0 ≤ (x13_1 : Int) := of_decide_eq_true (by first | (with_reducible assumption) | assumption)
                    have q267 : x13_1 < (l1.length : Int) := of_decide_eq_true (by first | (with_reducible assumption) | assumption)
                    obtain ⟨ad267, e267, hx267_0⟩ := Kd.at_int HR1.out x13_1 p267 q267
                    cases e267
                    replace hx267_0 := (HB.out.cell (World.block_lt_of_cell? w _ hx267_0)).trans hx267_0
                    replace p267 := eq_true p267
                    replace q267 := eq_true q267
                    go_wp2_with (first | ((with_reducible refine gate_callee (f := 8) rfl ?_); refine goesL_ (some 43) rfl rfl Try.func8 (by kernel_rfl) rfl #[.int .i64 (rd l1 x13_1), .int .i64 14] rfl (by (try simp only [List.map_toArray, List.map_cons, List.map_nil]); first | done | rfl | (simp only [List.length_drop, List.length_take]; rfl)) ?_; (with_reducible refine (vmfleetmake_Mix.calls (rd l1 x13_1) 14 t268 _ A16.out).mono ?_); rintro e w' ⟨rfl, ⟨nd, rfl⟩⟩; refine ⟨_, rfl, ?_⟩; (try (rw [drewN_self wr]; generalize hq_ : World.drewN wr _ = wr; have n0_ : Aside0 (Kd.R (Kd.int .u32) 23 wr w.heap.size (fun _ => True) u11 x11_1) := ⟨by rw [← hq_]; exact (by (with_reducible repeat (first | apply Kd.R_alloc | apply Kd.R_drewN | apply Kd.R_drew)); exact HO_11.out)⟩; have n1_ : Aside0 (Kd.V k49 49 wr w.heap.size (fun k_ => some k_ ≠ (u11 : Value).ownBlock) u12 x12_1) := ⟨by rw [← hq_]; exact (by (with_reducible repeat (first | apply Kd.V_alloc | apply Kd.V_drewN | apply Kd.V_drew)); exact HO_12.out)⟩; have n2_ : Aside0 (Below w.heap.size w wr) := ⟨by rw [← hq_]; exact (by repeat (first | (with_reducible first | exact HB.out | apply below_alloc | apply pw_below_drewN | apply below_drew1) | exact HB.out))⟩; clear HO_11 HO_12 HB hq_; have HO_11 := n0_; have HO_12 := n1_; have HB := n2_; clear n0_ n1_ n2_)); obtain ⟨Ao41, co41, eo41⟩ := Kd.V_slice HO_12.out; subst eo41) | ((with_reducible refine gate_callee (f := 9) rfl ?_); refine goesL_ (some 56) rfl rfl Try.func9 (by kernel_rfl) rfl #[.slice Ao41 x12_1.length co41, .int .u32 (((Go.bits .and .i64 t268 4095) % 4294967296) / 128), .int .i64 (wrap64 (1 + (Int.tmod (t268 / 4096) 3)))] rfl (by (try simp only [List.map_toArray, List.map_cons, List.map_nil]); first | done | rfl | (simp only [List.length_drop, List.length_take]; rfl)) ?_; (with_reducible refine (tlb_Lookup.calls k1 _ _ x12_1 (((Go.bits .and .i64 t268 4095) % 4294967296) / 128) (wrap64 (1 + (Int.tmod (t268 / 4096) 3))) t269 t270 true _ ?side1 ?side2 A17.out).mono ?_); (case side1 => repeat (first | exact (Kd.V_reads' HO_12.out).2.2 | (with_reducible refine Kd.C_alloc ?_ _) | (with_reducible refine Kd.C_drewN ?_ _) | (with_reducible refine Kd.C_drew ?_))); (case side2 => exact (Kd.V_reads' HO_12.out).2.1); rintro e w42 ⟨v272, rfl, ho0, hb⟩; refine ⟨_, rfl, ?_⟩; have n0_ := Aside0.mk (Kd.R_below (by (with_reducible repeat (first | apply Kd.R_alloc | apply Kd.R_drewN | apply Kd.R_drew)); exact HO_11.out) hb); have n1_ := Aside0.mk (Kd.V_elder' (by (with_reducible repeat (first | apply Kd.V_alloc | apply Kd.V_drewN | apply Kd.V_drew)); exact HO_12.out) (Kd.R_base ho0) hb); have n2_ := Aside0.mk (Kd.R_lower ho0 (below_size (by repeat (first | (with_reducible first | exact HB.out | apply below_alloc | apply pw_below_drewN | apply below_drew1) | exact HB.out)))); have n3_ := Aside0.mk (below_step (by repeat (first | (with_reducible first | exact HB.out | apply below_alloc | apply pw_below_drewN | apply below_drew1) | exact HB.out)) hb); clear HO_11; clear HO_12; clear HB; have HO_11 := n0_; have HO_12 := n1_; have HO273 := n2_; have HB := n3_; clear n0_ n1_ n2_ n3_; (try clear hb); (try clear hb2); (try clear hk); (try clear hi); (try clear ho0); obtain ⟨Ao43, co43, eo43⟩ := Kd.R_slice HO_11.out; subst eo43) | ((with_reducible refine gate_callee (f := 10) rfl ?_); refine goesL_ (some 65) rfl rfl Try.func10 (by kernel_rfl) rfl #[.slice Ao43 x11_1.length co43, .int .u32 (Int.tmod a3 ((t265) % 4294967296)), .int .u32 ((Go.bits .and .i64 t268 4095) % 4294967296), .int .i64 (wrap64 (1 + (Int.tmod (t268 / 4096) 3)))] rfl (by (try simp only [List.map_toArray, List.map_cons, List.map_nil]); first | done | rfl | (simp only [List.length_drop, List.length_take]; rfl)) ?_; (with_reducible refine (paging_Walk.calls k1 _ _ x11_1 (Int.tmod a3 ((t265) % 4294967296)) ((Go.bits .and .i64 t268 4095) % 4294967296) (wrap64 (1 + (Int.tmod (t268 / 4096) 3))) t274 t275 t276 _ ?side1 ?side2 A19.out).mono ?_); (case side1 => repeat (first | exact (Kd.R_reads' HO_11.out).2.2 | (with_reducible refine Kd.C_alloc ?_ _) | (with_reducible refine Kd.C_drewN ?_ _) | (with_reducible refine Kd.C_drew ?_))); (case side2 => exact (Kd.R_reads' HO_11.out).2.1); rintro e w44 ⟨rfl, hb⟩; refine ⟨_, rfl, ?_⟩; have n0_ := Aside0.mk (Kd.R_below (by (with_reducible repeat (first | apply Kd.R_alloc | apply Kd.R_drewN | apply Kd.R_drew)); exact HO_11.out) hb); have n1_ := Aside0.mk (Kd.V_below (by (with_reducible repeat (first | apply Kd.V_alloc | apply Kd.V_drewN | apply Kd.V_drew)); exact HO_12.out) hb); have n2_ := Aside0.mk (Kd.R_below (by (with_reducible repeat (first | apply Kd.R_alloc | apply Kd.R_drewN | apply Kd.R_drew)); exact HO273.out) hb); have n3_ := Aside0.mk (below_step (by repeat (first | (with_reducible first | exact HB.out | apply below_alloc | apply pw_below_drewN | apply below_drew1) | exact HB.out)) hb); clear HO_11; clear HO_12; clear HO273; clear HB; have HO_11 := n0_; have HO_12 := n1_; have HO273 := n2_; have HB := n3_; clear n0_ n1_ n2_ n3_; (try clear hb); (try clear hb2); (try clear hk); (try clear hi)) | ((with_reducible refine gate_dst (N := 20) rfl ?_); refine box_event ?hg (N := 20) ?hd (cs := #[.int .u32 0, .int .u32 0, .int .i64 0]) (t := 34) ?hr ?_; (case hd => rfl); (case hg => rfl); (case hr => first | (go_simp; done) | (go_simp; rfl)); intro gb277 hg w45 hbox hb; have n0_ := Aside0.mk (Kd.R_below (by (with_reducible repeat (first | apply Kd.R_alloc | apply Kd.R_drewN | apply Kd.R_drew)); exact HO_11.out) hb); have n1_ := Aside0.mk (Kd.V_below (Kd.V_elderB (by (with_reducible repeat (first | apply Kd.V_alloc | apply Kd.V_drewN | apply Kd.V_drew)); exact HO_12.out) gb277 (Nat.le_of_eq hg.symm)) hb); have n2_ := Aside0.mk (Kd.R_below (by (with_reducible repeat (first | apply Kd.R_alloc | apply Kd.R_drewN | apply Kd.R_drew)); exact HO273.out) hb); have n3_ := Aside0.mk (below_step (by repeat (first | (with_reducible first | exact HB.out | apply below_alloc | apply pw_below_drewN | apply below_drew1) | exact HB.out)) hb); have n4_ := Aside0.mk (hbox); have n5_ := Aside0.mk ((by rw [hg]; exact (below_size (by repeat (first | (with_reducible first | exact HB.out | apply below_alloc | apply pw_below_drewN | apply below_drew1) | exact HB.out))) : w.heap.size ≤ gb277)); have n6_ := Aside0.mk ((by rw [hg]; exact (below_size (by repeat (first | (with_reducible first | exact HB.out | apply below_alloc | apply pw_below_drewN | apply below_drew1) | exact HB.out))) : w.heap.size ≤ gb277)); clear HO_11; clear HO_12; clear HO273; clear HB; have HO_11 := n0_; have HO_12 := n1_; have HO273 := n2_; have HB := n3_; have BK277 := n4_; have GW277 := n5_; have GE277 := n6_; clear n0_ n1_ n2_ n3_ n4_ n5_ n6_; clear hb hbox hg; have hcz46_0 : w45.cell? ⟨gb277, 0, none⟩ = some (.int .u32 0) := (blk_cell BK277.out 0).trans rfl; have hcz46_1 : w45.cell? ⟨gb277, 1, none⟩ = some (.int .u32 0) := (blk_cell BK277.out 1).trans rfl; have hcz46_2 : w45.cell? ⟨gb277, 2, none⟩ = some (.int .i64 0) := (blk_cell BK277.out 2).trans rfl; have hfz46_0 := blk_frozen BK277.out 0; have hfz46_1 := blk_frozen BK277.out 1; have hfz46_2 := blk_frozen BK277.out 2))
                    go_ret
                    exact ⟨by first | rfl | (simp [errW_none, errW_some] <;> rfl) | (simp [*, errW_none, errW_some] <;> rfl), by repeat (first | (with_reducible first | exact HB.out | apply below_alloc | apply pw_below_drewN | apply below_drew1 | refine below_set ?_ GE277.out) | exact HB.out)⟩
                · rw [if_neg c20] at H
                  have c20b0 : (t276 == 0) = false := beq_eq_false_iff_ne.mpr c20
                  have c20b1 : (t276 != 0) = true := bne_iff_ne.mpr c20
                  obtain rfl := Option.some.inj H
                  have p267 : 0 ≤ (x13_1 : Int) := of_decide_eq_true (by first | (with_reducible assumption) | assumption)
                  have q267 : x13_1 < (l1.length : Int) := of_decide_eq_true (by first | (with_reducible assumption) | assumption)
                  obtain ⟨ad267, e267, hx267_0⟩ := Kd.at_int HR1.out x13_1 p267 q267
                  cases e267
                  replace hx267_0 := (HB.out.cell (World.block_lt_of_cell? w _ hx267_0)).trans hx267_0
                  replace p267 := eq_true p267
                  replace q267 := eq_true q267
                  go_wp2_with (first | ((with_reducible refine gate_callee (f := 8) rfl ?_); refine goesL_ (some 43) rfl rfl Try.func8 (by kernel_rfl) rfl #[.int .i64 (rd l1 x13_1), .int .i64 14] rfl (by (try simp only [List.map_toArray, List.map_cons, List.map_nil]); first | done | rfl | (simp only [List.length_drop, List.length_take]; rfl)) ?_; (with_reducible refine (vmfleetmake_Mix.calls (rd l1 x13_1) 14 t268 _ A16.out).mono ?_); rintro e w' ⟨rfl, ⟨nd, rfl⟩⟩; refine ⟨_, rfl, ?_⟩; (try (rw [drewN_self wr]; generalize hq_ : World.drewN wr _ = wr; have n0_ : Aside0 (Kd.R (Kd.int .u32) 23 wr w.heap.size (fun _ => True) u11 x11_1) := ⟨by rw [← hq_]; exact (by (with_reducible repeat (first | apply Kd.R_alloc | apply Kd.R_drewN | apply Kd.R_drew)); exact HO_11.out)⟩; have n1_ : Aside0 (Kd.V k49 49 wr w.heap.size (fun k_ => some k_ ≠ (u11 : Value).ownBlock) u12 x12_1) := ⟨by rw [← hq_]; exact (by (with_reducible repeat (first | apply Kd.V_alloc | apply Kd.V_drewN | apply Kd.V_drew)); exact HO_12.out)⟩; have n2_ : Aside0 (Below w.heap.size w wr) := ⟨by rw [← hq_]; exact (by repeat (first | (with_reducible first | exact HB.out | apply below_alloc | apply pw_below_drewN | apply below_drew1) | exact HB.out))⟩; clear HO_11 HO_12 HB hq_; have HO_11 := n0_; have HO_12 := n1_; have HB := n2_; clear n0_ n1_ n2_)); obtain ⟨Ao47, co47, eo47⟩ := Kd.V_slice HO_12.out; subst eo47) | ((with_reducible refine gate_callee (f := 9) rfl ?_); refine goesL_ (some 56) rfl rfl Try.func9 (by kernel_rfl) rfl #[.slice Ao47 x12_1.length co47, .int .u32 (((Go.bits .and .i64 t268 4095) % 4294967296) / 128), .int .i64 (wrap64 (1 + (Int.tmod (t268 / 4096) 3)))] rfl (by (try simp only [List.map_toArray, List.map_cons, List.map_nil]); first | done | rfl | (simp only [List.length_drop, List.length_take]; rfl)) ?_; (with_reducible refine (tlb_Lookup.calls k1 _ _ x12_1 (((Go.bits .and .i64 t268 4095) % 4294967296) / 128) (wrap64 (1 + (Int.tmod (t268 / 4096) 3))) t269 t270 true _ ?side1 ?side2 A17.out).mono ?_); (case side1 => repeat (first | exact (Kd.V_reads' HO_12.out).2.2 | (with_reducible refine Kd.C_alloc ?_ _) | (with_reducible refine Kd.C_drewN ?_ _) | (with_reducible refine Kd.C_drew ?_))); (case side2 => exact (Kd.V_reads' HO_12.out).2.1); rintro e w48 ⟨v272, rfl, ho0, hb⟩; refine ⟨_, rfl, ?_⟩; have n0_ := Aside0.mk (Kd.R_below (by (with_reducible repeat (first | apply Kd.R_alloc | apply Kd.R_drewN | apply Kd.R_drew)); exact HO_11.out) hb); have n1_ := Aside0.mk (Kd.V_elder' (by (with_reducible repeat (first | apply Kd.V_alloc | apply Kd.V_drewN | apply Kd.V_drew)); exact HO_12.out) (Kd.R_base ho0) hb); have n2_ := Aside0.mk (Kd.R_lower ho0 (below_size (by repeat (first | (with_reducible first | exact HB.out | apply below_alloc | apply pw_below_drewN | apply below_drew1) | exact HB.out)))); have n3_ := Aside0.mk (below_step (by repeat (first | (with_reducible first | exact HB.out | apply below_alloc | apply pw_below_drewN | apply below_drew1) | exact HB.out)) hb); clear HO_11; clear HO_12; clear HB; have HO_11 := n0_; have HO_12 := n1_; have HO273 := n2_; have HB := n3_; clear n0_ n1_ n2_ n3_; (try clear hb); (try clear hb2); (try clear hk); (try clear hi); (try clear ho0); obtain ⟨Ao49, co49, eo49⟩ := Kd.R_slice HO_11.out; subst eo49) | ((with_reducible refine gate_callee (f := 10) rfl ?_); refine goesL_ (some 65) rfl rfl Try.func10 (by kernel_rfl) rfl #[.slice Ao49 x11_1.length co49, .int .u32 (Int.tmod a3 ((t265) % 4294967296)), .int .u32 ((Go.bits .and .i64 t268 4095) % 4294967296), .int .i64 (wrap64 (1 + (Int.tmod (t268 / 4096) 3)))] rfl (by (try simp only [List.map_toArray, List.map_cons, List.map_nil]); first | done | rfl | (simp only [List.length_drop, List.length_take]; rfl)) ?_; (with_reducible refine (paging_Walk.calls k1 _ _ x11_1 (Int.tmod a3 ((t265) % 4294967296)) ((Go.bits .and .i64 t268 4095) % 4294967296) (wrap64 (1 + (Int.tmod (t268 / 4096) 3))) t274 t275 t276 _ ?side1 ?side2 A19.out).mono ?_); (case side1 => repeat (first | exact (Kd.R_reads' HO_11.out).2.2 | (with_reducible refine Kd.C_alloc ?_ _) | (with_reducible refine Kd.C_drewN ?_ _) | (with_reducible refine Kd.C_drew ?_))); (case side2 => exact (Kd.R_reads' HO_11.out).2.1); rintro e w50 ⟨rfl, hb⟩; refine ⟨_, rfl, ?_⟩; have n0_ := Aside0.mk (Kd.R_below (by (with_reducible repeat (first | apply Kd.R_alloc | apply Kd.R_drewN | apply Kd.R_drew)); exact HO_11.out) hb); have n1_ := Aside0.mk (Kd.V_below (by (with_reducible repeat (first | apply Kd.V_alloc | apply Kd.V_drewN | apply Kd.V_drew)); exact HO_12.out) hb); have n2_ := Aside0.mk (Kd.R_below (by (with_reducible repeat (first | apply Kd.R_alloc | apply Kd.R_drewN | apply Kd.R_drew)); exact HO273.out) hb); have n3_ := Aside0.mk (below_step (by repeat (first | (with_reducible first | exact HB.out | apply below_alloc | apply pw_below_drewN | apply below_drew1) | exact HB.out)) hb); clear HO_11; clear HO_12; clear HO273; clear HB; have HO_11 := n0_; have HO_12 := n1_; have HO273 := n2_; have HB := n3_; clear n0_ n1_ n2_ n3_; (try clear hb); (try clear hb2); (try clear hk); (try clear hi)) | ((with_reducible refine gate_dst (N := 20) rfl ?_); refine box_event ?hg (N := 20) ?hd (cs := #[.int .u32 0, .int .u32 0, .int .i64 0]) (t := 34) ?hr ?_; (case hd => rfl); (case hg => rfl); (case hr => first | (go_simp; done) | (go_simp; rfl)); intro gb277 hg w51 hbox hb; have n0_ := Aside0.mk (Kd.R_below (by (with_reducible repeat (first | apply Kd.R_alloc | apply Kd.R_drewN | apply Kd.R_drew)); exact HO_11.out) hb); have n1_ := Aside0.mk (Kd.V_below (Kd.V_elderB (by (with_reducible repeat (first | apply Kd.V_alloc | apply Kd.V_drewN | apply Kd.V_drew)); exact HO_12.out) gb277 (Nat.le_of_eq hg.symm)) hb); have n2_ := Aside0.mk (Kd.R_below (by (with_reducible repeat (first | apply Kd.R_alloc | apply Kd.R_drewN | apply Kd.R_drew)); exact HO273.out) hb); have n3_ := Aside0.mk (below_step (by repeat (first | (with_reducible first | exact HB.out | apply below_alloc | apply pw_below_drewN | apply below_drew1) | exact HB.out)) hb); have n4_ := Aside0.mk (hbox); have n5_ := Aside0.mk ((by rw [hg]; exact (below_size (by repeat (first | (with_reducible first | exact HB.out | apply below_alloc | apply pw_below_drewN | apply below_drew1) | exact HB.out))) : w.heap.size ≤ gb277)); have n6_ := Aside0.mk ((by rw [hg]; exact (below_size (by repeat (first | (with_reducible first | exact HB.out | apply below_alloc | apply pw_below_drewN | apply below_drew1) | exact HB.out))) : w.heap.size ≤ gb277)); clear HO_11; clear HO_12; clear HO273; clear HB; have HO_11 := n0_; have HO_12 := n1_; have HO273 := n2_; have HB := n3_; have BK277 := n4_; have GW277 := n5_; have GE277 := n6_; clear n0_ n1_ n2_ n3_ n4_ n5_ n6_; clear hb hbox hg; have hcz52_0 : w51.cell? ⟨gb277, 0, none⟩ = some (.int .u32 0) := (blk_cell BK277.out 0).trans rfl; have hcz52_1 : w51.cell? ⟨gb277, 1, none⟩ = some (.int .u32 0) := (blk_cell BK277.out 1).trans rfl; have hcz52_2 : w51.cell? ⟨gb277, 2, none⟩ = some (.int .i64 0) := (blk_cell BK277.out 2).trans rfl; have hfz52_0 := blk_frozen BK277.out 0; have hfz52_1 := blk_frozen BK277.out 1; have hfz52_2 := blk_frozen BK277.out 2))
                  go_ret
                  exact ⟨by first | rfl | (simp [errW_none, errW_some] <;> rfl) | (simp [*, errW_none, errW_some] <;> rfl), by repeat (first | (with_reducible first | exact HB.out | apply below_alloc | apply pw_below_drewN | apply below_drew1 | refine below_set ?_ GE277.out) | exact HB.out)⟩
              · replace c18 := Bool.eq_false_iff.mpr c18
                subst c18
                have H1 : ((tlb_Fill.f k1 x12_1 x11_1 (Int.tmod a3 ((t265) % 4294967296)) ((Go.bits .and .i64 t268 4095) % 4294967296) (wrap64 (1 + (Int.tmod (t268 / 4096) 3)))).bind fun bt282 => ((tlb_Coherent.f k1 bt282.2.2.2.1 bt282.2.2.2.2 (Int.tmod a3 ((t265) % 4294967296))).bind fun t291 => (if t291 = true then (vmfleetlaw14_TlbAgrees.l0 k1 l1 (Int.tmod a3 ((t265) % 4294967296)) bt282.2.2.2.2 bt282.2.2.2.1 (wrap64 (x13_1 + 1))) else (some false)))) = some r := by rw [if_neg (show ¬ (false = true) by decide)] at H; exact H
                clear H
                have H := H1
                clear H1
                replace H := Option.bind_eq_some_iff.mp H
                obtain ⟨⟨t282, t283, t284, t285, t288⟩, A530, H⟩ := H
                replace H : ((tlb_Coherent.f k1 t285 t288 (Int.tmod a3 ((t265) % 4294967296))).bind fun t291 => (if t291 = true then (vmfleetlaw14_TlbAgrees.l0 k1 l1 (Int.tmod a3 ((t265) % 4294967296)) t288 t285 (wrap64 (x13_1 + 1))) else (some false))) = some r := H
                have A53 := Aside0.mk A530
                clear A530
                replace H := Option.bind_eq_some_iff.mp H
                obtain ⟨t291, A540, H⟩ := H
                replace H : (if t291 = true then (vmfleetlaw14_TlbAgrees.l0 k1 l1 (Int.tmod a3 ((t265) % 4294967296)) t288 t285 (wrap64 (x13_1 + 1))) else (some false)) = some r := H
                have A54 := Aside0.mk A540
                clear A540
                by_cases c55 : t291 = true
                · subst c55
                  have H1 : (vmfleetlaw14_TlbAgrees.l0 k1 l1 (Int.tmod a3 ((t265) % 4294967296)) t288 t285 (wrap64 (x13_1 + 1))) = some r := by rw [if_pos rfl] at H; exact H
                  clear H
                  have H := H1
                  clear H1
                  have H' := Aside0.mk H
                  clear H
                  have p267 : 0 ≤ (x13_1 : Int) := of_decide_eq_true (by first | (with_reducible assumption) | assumption)
                  have q267 : x13_1 < (l1.length : Int) := of_decide_eq_true (by first | (with_reducible assumption) | assumption)
                  obtain ⟨ad267, e267, hx267_0⟩ := Kd.at_int HR1.out x13_1 p267 q267
                  cases e267
                  replace hx267_0 := (HB.out.cell (World.block_lt_of_cell? w _ hx267_0)).trans hx267_0
                  replace p267 := eq_true p267
                  replace q267 := eq_true q267
                  go_wp2_with (first | ((with_reducible refine gate_callee (f := 8) rfl ?_); refine goesL_ (some 43) rfl rfl Try.func8 (by kernel_rfl) rfl #[.int .i64 (rd l1 x13_1), .int .i64 14] rfl (by (try simp only [List.map_toArray, List.map_cons, List.map_nil]); first | done | rfl | (simp only [List.length_drop, List.length_take]; rfl)) ?_; (with_reducible refine (vmfleetmake_Mix.calls (rd l1 x13_1) 14 t268 _ A16.out).mono ?_); rintro e w' ⟨rfl, ⟨nd, rfl⟩⟩; refine ⟨_, rfl, ?_⟩; obtain ⟨Ao56, co56, eo56⟩ := Kd.V_slice HO_12.out; subst eo56) | ((with_reducible refine gate_callee (f := 9) rfl ?_); refine goesL_ (some 56) rfl rfl Try.func9 (by kernel_rfl) rfl #[.slice Ao56 x12_1.length co56, .int .u32 (((Go.bits .and .i64 t268 4095) % 4294967296) / 128), .int .i64 (wrap64 (1 + (Int.tmod (t268 / 4096) 3)))] rfl (by (try simp only [List.map_toArray, List.map_cons, List.map_nil]); first | done | rfl | (simp only [List.length_drop, List.length_take]; rfl)) ?_; (with_reducible refine (tlb_Lookup.calls k1 _ _ x12_1 (((Go.bits .and .i64 t268 4095) % 4294967296) / 128) (wrap64 (1 + (Int.tmod (t268 / 4096) 3))) t269 t270 false _ ?side1 ?side2 A17.out).mono ?_); (case side1 => repeat (first | exact (Kd.V_reads' HO_12.out).2.2 | (with_reducible refine Kd.C_alloc ?_ _) | (with_reducible refine Kd.C_drewN ?_ _) | (with_reducible refine Kd.C_drew ?_))); (case side2 => exact (Kd.V_reads' HO_12.out).2.1); rintro e w57 ⟨v272, rfl, ho0, hb⟩; refine ⟨_, rfl, ?_⟩; have n0_ := Aside0.mk (Kd.R_below (by (with_reducible repeat (first | apply Kd.R_alloc | apply Kd.R_drewN | apply Kd.R_drew)); exact HO_11.out) hb); have n1_ := Aside0.mk (Kd.V_elder' (by (with_reducible repeat (first | apply Kd.V_alloc | apply Kd.V_drewN | apply Kd.V_drew)); exact HO_12.out) (Kd.R_base ho0) hb); have n2_ := Aside0.mk (Kd.R_lower ho0 (below_size (by repeat (first | (with_reducible first | exact HB.out | apply below_alloc | apply pw_below_drewN | apply below_drew1) | exact HB.out)))); have n3_ := Aside0.mk (below_step (by repeat (first | (with_reducible first | exact HB.out | apply below_alloc | apply pw_below_drewN | apply below_drew1) | exact HB.out)) hb); clear HO_11; clear HO_12; clear HB; have HO_11 := n0_; have HO_12 := n1_; have HO273 := n2_; have HB := n3_; clear n0_ n1_ n2_ n3_; (try clear hb); (try clear hb2); (try clear hk); (try clear hi); (try clear ho0); obtain ⟨Ao58, co58, eo58⟩ := Kd.R_slice HO_11.out; subst eo58) | ((with_reducible refine gate_callee (f := 13) rfl ?_); refine goesL_ (some 96) rfl rfl Try.func13 (by kernel_rfl) rfl #[.slice Ao56 x12_1.length co56, .slice Ao58 x11_1.length co58, .int .u32 (Int.tmod a3 ((t265) % 4294967296)), .int .u32 ((Go.bits .and .i64 t268 4095) % 4294967296), .int .i64 (wrap64 (1 + (Int.tmod (t268 / 4096) 3)))] rfl (by (try simp only [List.map_toArray, List.map_cons, List.map_nil]); first | done | rfl | (simp only [List.length_drop, List.length_take]; rfl)) ?_; (with_reducible refine (tlb_Fill.calls k1 _ _ x12_1 _ _ x11_1 (Int.tmod a3 ((t265) % 4294967296)) ((Go.bits .and .i64 t268 4095) % 4294967296) (wrap64 (1 + (Int.tmod (t268 / 4096) 3))) t282 t283 t284 t285 t288 _ ?side1 ?side2 ?side3 ?side4 A53.out).mono ?_); (case side1 => repeat (first | exact (Kd.V_reads' HO_12.out).2.2 | (with_reducible refine Kd.C_alloc ?_ _) | (with_reducible refine Kd.C_drewN ?_ _) | (with_reducible refine Kd.C_drew ?_))); (case side2 => exact (Kd.V_reads' HO_12.out).2.1); (case side3 => repeat (first | exact (Kd.R_reads' HO_11.out).2.2 | (with_reducible refine Kd.C_alloc ?_ _) | (with_reducible refine Kd.C_drewN ?_ _) | (with_reducible refine Kd.C_drew ?_))); (case side4 => exact (Kd.R_reads' HO_11.out).2.1); rintro e w59 ⟨v286, v289, rfl, ho0, ho1, hb⟩; refine ⟨_, rfl, ?_⟩; have n0_ := Aside0.mk (Kd.R_elder' (by (with_reducible repeat (first | apply Kd.R_alloc | apply Kd.R_drewN | apply Kd.R_drew)); exact HO_11.out) (Kd.R_base ho1) hb); have n1_ := Aside0.mk (Kd.V_elder' (by (with_reducible repeat (first | apply Kd.V_alloc | apply Kd.V_drewN | apply Kd.V_drew)); exact HO_12.out) (Kd.R_base ho1) hb); have n2_ := Aside0.mk (Kd.R_below (by (with_reducible repeat (first | apply Kd.R_alloc | apply Kd.R_drewN | apply Kd.R_drew)); exact HO273.out) hb); have n3_ := Aside0.mk (Kd.V_lower (Kd.V_mono (ok' := fun k_ => some k_ ≠ (v289 : Value).ownBlock ∧ some k_ ≠ (.slice Ao58 x11_1.length co58 : Value).ownBlock ∧ some k_ ≠ (v272 : Value).ownBlock) ho0 (fun k_ hk_ => ⟨hk_.2, (Kd.fresh' (Kd.R_lt (by (with_reducible repeat (first | apply Kd.R_alloc | apply Kd.R_drewN | apply Kd.R_drew)); exact HO_11.out)) k_ hk_.1), (Kd.fresh' (Kd.R_lt (by (with_reducible repeat (first | apply Kd.R_alloc | apply Kd.R_drewN | apply Kd.R_drew)); exact HO273.out)) k_ hk_.1)⟩)) (below_size (by repeat (first | (with_reducible first | exact HB.out | apply below_alloc | apply pw_below_drewN | apply below_drew1) | exact HB.out)))); have n4_ := Aside0.mk (Kd.R_lower (Kd.R_new' (Kd.R_mono (ok' := fun k_ => True) ho1 (fun _ hk_ => trivial)) (Kd.R_lt (by (with_reducible repeat (first | apply Kd.R_alloc | apply Kd.R_drewN | apply Kd.R_drew)); exact HO_11.out))) (below_size (by repeat (first | (with_reducible first | exact HB.out | apply below_alloc | apply pw_below_drewN | apply below_drew1) | exact HB.out)))); have n5_ := Aside0.mk (below_step (by repeat (first | (with_reducible first | exact HB.out | apply below_alloc | apply pw_below_drewN | apply below_drew1) | exact HB.out)) hb); clear HO_11; clear HO_12; clear HO273; clear HB; have HO_11 := n0_; have HO_12 := n1_; have HO273 := n2_; have HO287 := n3_; have HO290 := n4_; have HB := n5_; clear n0_ n1_ n2_ n3_ n4_ n5_; (try clear hb); (try clear hb2); (try clear hk); (try clear hi); (try clear ho0); (try clear ho1); obtain ⟨Ao60, co60, eo60⟩ := Kd.V_slice HO287.out; subst eo60; obtain ⟨Ao61, co61, eo61⟩ := Kd.R_slice HO290.out; subst eo61) | ((with_reducible refine gate_callee (f := 14) rfl ?_); refine goesL_ (some 103) rfl rfl Try.func14 (by kernel_rfl) rfl #[.slice Ao60 t285.length co60, .slice Ao61 t288.length co61, .int .u32 (Int.tmod a3 ((t265) % 4294967296))] rfl (by (try simp only [List.map_toArray, List.map_cons, List.map_nil]); first | done | rfl | (simp only [List.length_drop, List.length_take]; rfl)) ?_; (with_reducible refine (tlb_Coherent.calls k1 _ _ t285 _ _ t288 (Int.tmod a3 ((t265) % 4294967296)) true _ ?side1 ?side2 ?side3 ?side4 A54.out).mono ?_); (case side1 => repeat (first | exact (Kd.V_reads' HO287.out).2.2 | (with_reducible refine Kd.C_alloc ?_ _) | (with_reducible refine Kd.C_drewN ?_ _) | (with_reducible refine Kd.C_drew ?_))); (case side2 => exact (Kd.V_reads' HO287.out).2.1); (case side3 => repeat (first | exact (Kd.R_reads' HO290.out).2.2 | (with_reducible refine Kd.C_alloc ?_ _) | (with_reducible refine Kd.C_drewN ?_ _) | (with_reducible refine Kd.C_drew ?_))); (case side4 => exact (Kd.R_reads' HO290.out).2.1); rintro e w62 ⟨rfl, hb⟩; refine ⟨_, rfl, ?_⟩; have n0_ := Aside0.mk (Kd.R_below (by (with_reducible repeat (first | apply Kd.R_alloc | apply Kd.R_drewN | apply Kd.R_drew)); exact HO_11.out) hb); have n1_ := Aside0.mk (Kd.V_below (by (with_reducible repeat (first | apply Kd.V_alloc | apply Kd.V_drewN | apply Kd.V_drew)); exact HO_12.out) hb); have n2_ := Aside0.mk (Kd.R_below (by (with_reducible repeat (first | apply Kd.R_alloc | apply Kd.R_drewN | apply Kd.R_drew)); exact HO273.out) hb); have n3_ := Aside0.mk (Kd.V_below (by (with_reducible repeat (first | apply Kd.V_alloc | apply Kd.V_drewN | apply Kd.V_drew)); exact HO287.out) hb); have n4_ := Aside0.mk (Kd.R_below (by (with_reducible repeat (first | apply Kd.R_alloc | apply Kd.R_drewN | apply Kd.R_drew)); exact HO290.out) hb); have n5_ := Aside0.mk (below_step (by repeat (first | (with_reducible first | exact HB.out | apply below_alloc | apply pw_below_drewN | apply below_drew1) | exact HB.out)) hb); clear HO_11; clear HO_12; clear HO273; clear HO287; clear HO290; clear HB; have HO_11 := n0_; have HO_12 := n1_; have HO273 := n2_; have HO287 := n3_; have HO290 := n4_; have HB := n5_; clear n0_ n1_ n2_ n3_ n4_ n5_; (try clear hb); (try clear hb2); (try clear hk); (try clear hi)))
                  go_roundg k1
                  case measure => have := HK1.out; omega
                  case rel => exact ⟨(t288), (t285), (wrap64 (x13_1 + 1)), (by first | rfl | (simp; done) | (simp [*]; done)), H', ⟨by have := HK1.out; omega⟩, ⟨by (with_reducible repeat (first | apply Kd.R_alloc | apply Kd.R_drewN | apply Kd.R_drew)); exact Kd.R_mono HO290.out (fun _ hk => trivial)⟩, ⟨by (with_reducible repeat (first | apply Kd.V_alloc | apply Kd.V_drewN | apply Kd.V_drew)); first | exact HO287.out | exact Kd.V_mono HO287.out (fun _ hk => hk.1)⟩, ⟨by repeat (first | (with_reducible first | exact HB.out | apply below_alloc | apply pw_below_drewN | apply below_drew1) | exact HB.out)⟩⟩
                · replace c55 := Bool.eq_false_iff.mpr c55
                  subst c55
                  have H1 : (some false) = some r := by rw [if_neg (show ¬ (false = true) by decide)] at H; exact H
                  clear H
                  have H := H1
                  clear H1
                  obtain rfl := Option.some.inj H
                  have p267 : 0 ≤ (x13_1 : Int) := of_decide_eq_true (by first | (with_reducible assumption) | assumption)
                  have q267 : x13_1 < (l1.length : Int) := of_decide_eq_true (by first | (with_reducible assumption) | assumption)
                  obtain ⟨ad267, e267, hx267_0⟩ := Kd.at_int HR1.out x13_1 p267 q267
                  cases e267
                  replace hx267_0 := (HB.out.cell (World.block_lt_of_cell? w _ hx267_0)).trans hx267_0
                  replace p267 := eq_true p267
                  replace q267 := eq_true q267
                  go_wp2_with (first | ((with_reducible refine gate_callee (f := 8) rfl ?_); refine goesL_ (some 43) rfl rfl Try.func8 (by kernel_rfl) rfl #[.int .i64 (rd l1 x13_1), .int .i64 14] rfl (by (try simp only [List.map_toArray, List.map_cons, List.map_nil]); first | done | rfl | (simp only [List.length_drop, List.length_take]; rfl)) ?_; (with_reducible refine (vmfleetmake_Mix.calls (rd l1 x13_1) 14 t268 _ A16.out).mono ?_); rintro e w' ⟨rfl, ⟨nd, rfl⟩⟩; refine ⟨_, rfl, ?_⟩; obtain ⟨Ao63, co63, eo63⟩ := Kd.V_slice HO_12.out; subst eo63) | ((with_reducible refine gate_callee (f := 9) rfl ?_); refine goesL_ (some 56) rfl rfl Try.func9 (by kernel_rfl) rfl #[.slice Ao63 x12_1.length co63, .int .u32 (((Go.bits .and .i64 t268 4095) % 4294967296) / 128), .int .i64 (wrap64 (1 + (Int.tmod (t268 / 4096) 3)))] rfl (by (try simp only [List.map_toArray, List.map_cons, List.map_nil]); first | done | rfl | (simp only [List.length_drop, List.length_take]; rfl)) ?_; (with_reducible refine (tlb_Lookup.calls k1 _ _ x12_1 (((Go.bits .and .i64 t268 4095) % 4294967296) / 128) (wrap64 (1 + (Int.tmod (t268 / 4096) 3))) t269 t270 false _ ?side1 ?side2 A17.out).mono ?_); (case side1 => repeat (first | exact (Kd.V_reads' HO_12.out).2.2 | (with_reducible refine Kd.C_alloc ?_ _) | (with_reducible refine Kd.C_drewN ?_ _) | (with_reducible refine Kd.C_drew ?_))); (case side2 => exact (Kd.V_reads' HO_12.out).2.1); rintro e w64 ⟨v272, rfl, ho0, hb⟩; refine ⟨_, rfl, ?_⟩; have n0_ := Aside0.mk (Kd.R_below (by (with_reducible repeat (first | apply Kd.R_alloc | apply Kd.R_drewN | apply Kd.R_drew)); exact HO_11.out) hb); have n1_ := Aside0.mk (Kd.V_elder' (by (with_reducible repeat (first | apply Kd.V_alloc | apply Kd.V_drewN | apply Kd.V_drew)); exact HO_12.out) (Kd.R_base ho0) hb); have n2_ := Aside0.mk (Kd.R_lower ho0 (below_size (by repeat (first | (with_reducible first | exact HB.out | apply below_alloc | apply pw_below_drewN | apply below_drew1) | exact HB.out)))); have n3_ := Aside0.mk (below_step (by repeat (first | (with_reducible first | exact HB.out | apply below_alloc | apply pw_below_drewN | apply below_drew1) | exact HB.out)) hb); clear HO_11; clear HO_12; clear HB; have HO_11 := n0_; have HO_12 := n1_; have HO273 := n2_; have HB := n3_; clear n0_ n1_ n2_ n3_; (try clear hb); (try clear hb2); (try clear hk); (try clear hi); (try clear ho0); obtain ⟨Ao65, co65, eo65⟩ := Kd.R_slice HO_11.out; subst eo65) | ((with_reducible refine gate_callee (f := 13) rfl ?_); refine goesL_ (some 96) rfl rfl Try.func13 (by kernel_rfl) rfl #[.slice Ao63 x12_1.length co63, .slice Ao65 x11_1.length co65, .int .u32 (Int.tmod a3 ((t265) % 4294967296)), .int .u32 ((Go.bits .and .i64 t268 4095) % 4294967296), .int .i64 (wrap64 (1 + (Int.tmod (t268 / 4096) 3)))] rfl (by (try simp only [List.map_toArray, List.map_cons, List.map_nil]); first | done | rfl | (simp only [List.length_drop, List.length_take]; rfl)) ?_; (with_reducible refine (tlb_Fill.calls k1 _ _ x12_1 _ _ x11_1 (Int.tmod a3 ((t265) % 4294967296)) ((Go.bits .and .i64 t268 4095) % 4294967296) (wrap64 (1 + (Int.tmod (t268 / 4096) 3))) t282 t283 t284 t285 t288 _ ?side1 ?side2 ?side3 ?side4 A53.out).mono ?_); (case side1 => repeat (first | exact (Kd.V_reads' HO_12.out).2.2 | (with_reducible refine Kd.C_alloc ?_ _) | (with_reducible refine Kd.C_drewN ?_ _) | (with_reducible refine Kd.C_drew ?_))); (case side2 => exact (Kd.V_reads' HO_12.out).2.1); (case side3 => repeat (first | exact (Kd.R_reads' HO_11.out).2.2 | (with_reducible refine Kd.C_alloc ?_ _) | (with_reducible refine Kd.C_drewN ?_ _) | (with_reducible refine Kd.C_drew ?_))); (case side4 => exact (Kd.R_reads' HO_11.out).2.1); rintro e w66 ⟨v286, v289, rfl, ho0, ho1, hb⟩; refine ⟨_, rfl, ?_⟩; have n0_ := Aside0.mk (Kd.R_elder' (by (with_reducible repeat (first | apply Kd.R_alloc | apply Kd.R_drewN | apply Kd.R_drew)); exact HO_11.out) (Kd.R_base ho1) hb); have n1_ := Aside0.mk (Kd.V_elder' (by (with_reducible repeat (first | apply Kd.V_alloc | apply Kd.V_drewN | apply Kd.V_drew)); exact HO_12.out) (Kd.R_base ho1) hb); have n2_ := Aside0.mk (Kd.R_below (by (with_reducible repeat (first | apply Kd.R_alloc | apply Kd.R_drewN | apply Kd.R_drew)); exact HO273.out) hb); have n3_ := Aside0.mk (Kd.V_lower (Kd.V_mono (ok' := fun k_ => some k_ ≠ (v289 : Value).ownBlock ∧ some k_ ≠ (.slice Ao65 x11_1.length co65 : Value).ownBlock ∧ some k_ ≠ (v272 : Value).ownBlock) ho0 (fun k_ hk_ => ⟨hk_.2, (Kd.fresh' (Kd.R_lt (by (with_reducible repeat (first | apply Kd.R_alloc | apply Kd.R_drewN | apply Kd.R_drew)); exact HO_11.out)) k_ hk_.1), (Kd.fresh' (Kd.R_lt (by (with_reducible repeat (first | apply Kd.R_alloc | apply Kd.R_drewN | apply Kd.R_drew)); exact HO273.out)) k_ hk_.1)⟩)) (below_size (by repeat (first | (with_reducible first | exact HB.out | apply below_alloc | apply pw_below_drewN | apply below_drew1) | exact HB.out)))); have n4_ := Aside0.mk (Kd.R_lower (Kd.R_new' (Kd.R_mono (ok' := fun k_ => True) ho1 (fun _ hk_ => trivial)) (Kd.R_lt (by (with_reducible repeat (first | apply Kd.R_alloc | apply Kd.R_drewN | apply Kd.R_drew)); exact HO_11.out))) (below_size (by repeat (first | (with_reducible first | exact HB.out | apply below_alloc | apply pw_below_drewN | apply below_drew1) | exact HB.out)))); have n5_ := Aside0.mk (below_step (by repeat (first | (with_reducible first | exact HB.out | apply below_alloc | apply pw_below_drewN | apply below_drew1) | exact HB.out)) hb); clear HO_11; clear HO_12; clear HO273; clear HB; have HO_11 := n0_; have HO_12 := n1_; have HO273 := n2_; have HO287 := n3_; have HO290 := n4_; have HB := n5_; clear n0_ n1_ n2_ n3_ n4_ n5_; (try clear hb); (try clear hb2); (try clear hk); (try clear hi); (try clear ho0); (try clear ho1); obtain ⟨Ao67, co67, eo67⟩ := Kd.V_slice HO287.out; subst eo67; obtain ⟨Ao68, co68, eo68⟩ := Kd.R_slice HO290.out; subst eo68) | ((with_reducible refine gate_callee (f := 14) rfl ?_); refine goesL_ (some 103) rfl rfl Try.func14 (by kernel_rfl) rfl #[.slice Ao67 t285.length co67, .slice Ao68 t288.length co68, .int .u32 (Int.tmod a3 ((t265) % 4294967296))] rfl (by (try simp only [List.map_toArray, List.map_cons, List.map_nil]); first | done | rfl | (simp only [List.length_drop, List.length_take]; rfl)) ?_; (with_reducible refine (tlb_Coherent.calls k1 _ _ t285 _ _ t288 (Int.tmod a3 ((t265) % 4294967296)) false _ ?side1 ?side2 ?side3 ?side4 A54.out).mono ?_); (case side1 => repeat (first | exact (Kd.V_reads' HO287.out).2.2 | (with_reducible refine Kd.C_alloc ?_ _) | (with_reducible refine Kd.C_drewN ?_ _) | (with_reducible refine Kd.C_drew ?_))); (case side2 => exact (Kd.V_reads' HO287.out).2.1); (case side3 => repeat (first | exact (Kd.R_reads' HO290.out).2.2 | (with_reducible refine Kd.C_alloc ?_ _) | (with_reducible refine Kd.C_drewN ?_ _) | (with_reducible refine Kd.C_drew ?_))); (case side4 => exact (Kd.R_reads' HO290.out).2.1); rintro e w69 ⟨rfl, hb⟩; refine ⟨_, rfl, ?_⟩; have n0_ := Aside0.mk (Kd.R_below (by (with_reducible repeat (first | apply Kd.R_alloc | apply Kd.R_drewN | apply Kd.R_drew)); exact HO_11.out) hb); have n1_ := Aside0.mk (Kd.V_below (by (with_reducible repeat (first | apply Kd.V_alloc | apply Kd.V_drewN | apply Kd.V_drew)); exact HO_12.out) hb); have n2_ := Aside0.mk (Kd.R_below (by (with_reducible repeat (first | apply Kd.R_alloc | apply Kd.R_drewN | apply Kd.R_drew)); exact HO273.out) hb); have n3_ := Aside0.mk (Kd.V_below (by (with_reducible repeat (first | apply Kd.V_alloc | apply Kd.V_drewN | apply Kd.V_drew)); exact HO287.out) hb); have n4_ := Aside0.mk (Kd.R_below (by (with_reducible repeat (first | apply Kd.R_alloc | apply Kd.R_drewN | apply Kd.R_drew)); exact HO290.out) hb); have n5_ := Aside0.mk (below_step (by repeat (first | (with_reducible first | exact HB.out | apply below_alloc | apply pw_below_drewN | apply below_drew1) | exact HB.out)) hb); clear HO_11; clear HO_12; clear HO273; clear HO287; clear HO290; clear HB; have HO_11 := n0_; have HO_12 := n1_; have HO273 := n2_; have HO287 := n3_; have HO290 := n4_; have HB := n5_; clear n0_ n1_ n2_ n3_ n4_ n5_; (try clear hb); (try clear hb2); (try clear hk); (try clear hi)))
                  go_ret
                  exact ⟨by first | rfl | (simp [errW_none, errW_some] <;> rfl) | (simp [*, errW_none, errW_some] <;> rfl), by repeat (first | (with_reducible first | exact HB.out | apply below_alloc | apply pw_below_drewN | apply below_drew1) | exact HB.out)⟩
            · rw [if_neg c15] at H
              exact absurd H (by simp)
          · rw [if_neg c14] at H
            have c14b0 : decide (x13_1 < (l1.length : Int)) = false := decide_eq_false c14
            clear c14
            by_cases c70 : (x12_1.length : Int) ≤ 8
            · rw [if_pos c70] at H
              have c70b0 : decide ((x12_1.length : Int) ≤ 8) = true := decide_eq_true c70
              have c70b1 : decide (x12_1.length ≤ 8) = true := decide_eq_true (by omega)
              clear c70
              replace H := Option.bind_eq_some_iff.mp H
              obtain ⟨t266, A710, H⟩ := H
              replace H : (some t266) = some r := H
              have A71 := Aside0.mk A710
              clear A710
              obtain rfl := Option.some.inj H
              obtain ⟨Ao72, co72, eo72⟩ := Kd.V_slice HO_12.out
              subst eo72
              go_wp2_with (first | (go_at_call 5; (with_reducible refine (vmfleetlaw14_awake.calls k1  t266 _ A71.out).mono ?_); rintro e w73 ⟨rfl, hb⟩; have n0_ := Aside0.mk (Kd.R_below (by (with_reducible repeat (first | apply Kd.R_alloc | apply Kd.R_drewN | apply Kd.R_drew)); exact HO_11.out) hb); have n1_ := Aside0.mk (Kd.V_below (by (with_reducible repeat (first | apply Kd.V_alloc | apply Kd.V_drewN | apply Kd.V_drew)); exact HO_12.out) hb); have n2_ := Aside0.mk (below_step (by repeat (first | (with_reducible first | exact HB.out | apply below_alloc | apply pw_below_drewN | apply below_drew1) | exact HB.out)) hb); clear HO_11; clear HO_12; clear HB; have HO_11 := n0_; have HO_12 := n1_; have HB := n2_; clear n0_ n1_ n2_; (try clear hb); (try clear hb2); (try clear hk); (try clear hi)))
              go_ret
              exact ⟨by first | rfl | (simp [errW_none, errW_some] <;> rfl) | (simp [*, errW_none, errW_some] <;> rfl), by repeat (first | (with_reducible first | exact HB.out | apply below_alloc | apply pw_below_drewN | apply below_drew1) | exact HB.out)⟩
            · rw [if_neg c70] at H
              have c70b0 : decide ((x12_1.length : Int) ≤ 8) = false := decide_eq_false c70
              have c70b1 : decide (x12_1.length ≤ 8) = false := decide_eq_false (by omega)
              clear c70
              obtain rfl := Option.some.inj H
              obtain ⟨Ao74, co74, eo74⟩ := Kd.V_slice HO_12.out
              subst eo74
              go_wp2
              go_ret
              exact ⟨by first | rfl | (simp [errW_none, errW_some] <;> rfl) | (simp [*, errW_none, errW_some] <;> rfl), by repeat (first | (with_reducible first | exact HB.out | apply below_alloc | apply pw_below_drewN | apply below_drew1) | exact HB.out)⟩

/-- THE ONE PURE STATEMENT of vmfleetlaw14_TlbAgrees: yours. -/
def vmfleetlaw14_TlbAgrees.Pure : Prop := ∀ (l0 : List Int) (l1 : List Int) (a2 : Int) (a3 : Int) (a4 : Int), l0.length ≤ maxLen → l0.length * 8 ≤ 140737488351232 → (∀ x ∈ l0, (Lit.int .i64 x).wf = true) → l1.length ≤ maxLen → l1.length * 8 ≤ 140737488351232 → (∀ x ∈ l1, (Lit.int .i64 x).wf = true) → (Lit.int .i64 a2).wf = true → (Lit.int .u32 a3).wf = true → (Lit.int .u32 a4).wf = true → ∃ k, vmfleetlaw14_TlbAgrees.f k l0 l1 a2 a3 a4 = some true
theorem vmfleetlaw14_TlbAgrees.walk (P : vmfleetlaw14_TlbAgrees.Pure) (a0 : Option Addr) (len0 cap0 : Nat) (z0 : List Int) (a1 : Option Addr) (len1 cap1 : Nat) (z1 : List Int) (a2 : Int) (a3 : Int) (a4 : Int) (w : World) (w0 : (a0 = none ∧ len0 = 0 ∧ cap0 = 0 ∧ z0 = []) ∨ ∃ x, a0 = some x ∧ len0 ≤ cap0 ∧ cap0 ≤ maxLen ∧ z0.length = cap0 ∧ (∀ i, i < z0.length → w.cell? (x.add i) = some (.int .i64 (z0.getD i 0))) ∧ ∀ n ∈ z0, (Lit.int .i64 n).wf = true) (y0 : len0 * 8 ≤ 140737488351232) (w1 : (a1 = none ∧ len1 = 0 ∧ cap1 = 0 ∧ z1 = []) ∨ ∃ x, a1 = some x ∧ len1 ≤ cap1 ∧ cap1 ≤ maxLen ∧ z1.length = cap1 ∧ (∀ i, i < z1.length → w.cell? (x.add i) = some (.int .i64 (z1.getD i 0))) ∧ ∀ n ∈ z1, (Lit.int .i64 n).wf = true) (y1 : len1 * 8 ≤ 140737488351232) (w2 : (Lit.int .i64 a2).wf = true) (w3 : (Lit.int .u32 a3).wf = true) (w4 : (Lit.int .u32 a4).wf = true) :
    Calls Try.prog 3 #[.slice a0 len0 cap0, .slice a1 len1 cap1, .int .i64 a2, .int .u32 a3, .int .u32 a4] w fun e w' => e = .returned (.bool true) ∧ Below w.heap.size w w' := by
  obtain ⟨l0, rfl, hr0, hm0, hw0, hc0⟩ := ReadsInt.ofRowC w0
  obtain ⟨l1, rfl, hr1, hm1, hw1, hc1⟩ := ReadsInt.ofRowC w1
  obtain ⟨k, h⟩ := P l0 l1 a2 a3 a4 hm0 y0 hw0 hm1 y1 hw1 w2 w3 w4
  refine (vmfleetlaw14_TlbAgrees.calls k _ _ l0 _ _ l1 a2 a3 a4 true w (Kd.C_of_reads (d := (0 : Int)) (h1 := fun _ => rfl) hr0) hc0 (Kd.C_of_reads (d := (0 : Int)) (h1 := fun _ => rfl) hr1) hc1 h).mono ?_
  rintro e w' ⟨rfl, hd⟩
  exact ⟨rfl, hd⟩

end Go.Proofs.Ytnammilbfbaieaa.HTlbAgrees
