-- Written for this claim by wip/hook.py, by means of the kit's print and of hand-proved contracts.
import Derived.Test.YtdaeflafdnlceaaHMemoryOrdersx0
namespace Go.Proofs.Ytdaeflafdnlceaa.HMemoryOrders
open Go.RowKit Go.Proofs.YtdaeflafdnlceaaW.PrintWords Go.Proofs.YtdaeflafdnlceaaW.PrintLast Go.Proofs.YtdaeflafdnlceaaW.PrintMore
attribute [local go_sem] max2_int min2_int max_two min_two max_three min_three max_four min_four   -- for this text's walks alone
set_option linter.unusedVariables false
set_option linter.unusedSimpArgs false

/-! ### vmfleetmake_Round: function 11 -/
def vmfleetmake_Round.f (a0 : Int) (a1 : Int) : Option (Int) := if a1 = 0 then (none) else (if (Int.tmod a0 a1) < 0 then (some (wrap64 ((Int.tmod a0 a1) + a1))) else (some (Int.tmod a0 a1)))
set_option maxHeartbeats 8000000 in
set_option maxRecDepth 100000 in
theorem vmfleetmake_Round.calls (a0 : Int) (a1 : Int) (r : Int) (w : World) (h : vmfleetmake_Round.f a0 a1 = some r) :
    Calls Try.prog 11 #[.int .i64 a0, .int .i64 a1] w fun e w' => e = .returned (.int .i64 r) ∧ Drawn0 w w' := by
  have H : (if a1 = 0 then (none) else (if (Int.tmod a0 a1) < 0 then (some (wrap64 ((Int.tmod a0 a1) + a1))) else (some (Int.tmod a0 a1)))) = some r := h
  clear h
  by_cases c3 : a1 = 0
  · rw [if_pos c3] at H
    exact absurd H (by simp)
  · rw [if_neg c3] at H
    have c3b0 : (a1 == 0) = false := beq_eq_false_iff_ne.mpr c3
    have c3b1 : (a1 != 0) = true := bne_iff_ne.mpr c3
    by_cases c4 : (Int.tmod a0 a1) < 0
    · rw [if_pos c4] at H
      have c4b0 : decide ((Int.tmod a0 a1) < 0) = true := decide_eq_true c4
      clear c4
      obtain rfl := Option.some.inj H
      go_enter Try.func11, Try.ntmps11
      go_wp2
      go_ret
      exact ⟨by first | rfl | (simp; done) | (simp [*]; done), by repeat (first | exact Drawn0.refl _ | apply Drawn0.step)⟩
    · rw [if_neg c4] at H
      have c4b0 : decide ((Int.tmod a0 a1) < 0) = false := decide_eq_false c4
      clear c4
      obtain rfl := Option.some.inj H
      go_enter Try.func11, Try.ntmps11
      go_wp2
      go_ret
      exact ⟨by first | rfl | (simp; done) | (simp [*]; done), by repeat (first | exact Drawn0.refl _ | apply Drawn0.step)⟩

/-! ### vmfleetref1_New: function 20 -/
def vmfleetref1_New.f (a0 : Int) : Option (List Int) := if a0 < 1 then (some ([] : List Int)) else (if a0 > 32 then (some ([] : List Int)) else (if 0 ≤ (wrap64 (a0 * 32)) then (if (wrap64 (a0 * 32) : Int).toNat ≤ 70368744177664 then (some (List.replicate (wrap64 (a0 * 32) : Int).toNat 0)) else (none)) else (none)))
set_option maxHeartbeats 8000000 in
set_option maxRecDepth 100000 in
theorem vmfleetref1_New.calls (a0 : Int) (r : List Int) (w : World) (h : vmfleetref1_New.f a0 = some r) :
    Calls Try.prog 20 #[.int .i64 a0] w fun e w' => ∃ v0_ : Value, e = .returned (v0_) ∧ Kd.R (Kd.int .u32) 24 w' w.heap.size (fun _ => True) v0_ r ∧ Below w.heap.size w w' := by
  have HB := Aside0.mk (Below.refl w.heap.size w)
  have H : (if a0 < 1 then (some ([] : List Int)) else (if a0 > 32 then (some ([] : List Int)) else (if 0 ≤ (wrap64 (a0 * 32)) then (if (wrap64 (a0 * 32) : Int).toNat ≤ 70368744177664 then (some (List.replicate (wrap64 (a0 * 32) : Int).toNat 0)) else (none)) else (none)))) = some r := h
  clear h
  by_cases c2 : a0 < 1
  · rw [if_pos c2] at H
    have c2b0 : decide (a0 < 1) = true := decide_eq_true c2
    clear c2
    obtain rfl := Option.some.inj H
    go_enter Try.func20, Try.ntmps20
    go_wp2
    go_ret
    exact ⟨_, by first | rfl | (simp [errW_none, errW_some] <;> rfl) | (simp [*, errW_none, errW_some] <;> rfl), by first | exact Kd.R_nil _ _ _ _ _ | exact Kd.N_nil _ _ _ _ _ | exact Kd.V_nil _ _ _ _ _ | exact Kd.Q_nil _ _ _ _ _ | exact Kd.S_nil _ _ _ _ _, by repeat (first | (with_reducible first | exact HB.out | apply below_alloc | apply pw_below_drewN | apply below_drew1) | exact HB.out)⟩
  · rw [if_neg c2] at H
    have c2b0 : decide (a0 < 1) = false := decide_eq_false c2
    clear c2
    by_cases c3 : a0 > 32
    · rw [if_pos c3] at H
      have c3b0 : decide (32 < a0) = true := decide_eq_true c3
      clear c3
      obtain rfl := Option.some.inj H
      go_enter Try.func20, Try.ntmps20
      go_wp2
      go_ret
      exact ⟨_, by first | rfl | (simp [errW_none, errW_some] <;> rfl) | (simp [*, errW_none, errW_some] <;> rfl), by first | exact Kd.R_nil _ _ _ _ _ | exact Kd.N_nil _ _ _ _ _ | exact Kd.V_nil _ _ _ _ _ | exact Kd.Q_nil _ _ _ _ _ | exact Kd.S_nil _ _ _ _ _, by repeat (first | (with_reducible first | exact HB.out | apply below_alloc | apply pw_below_drewN | apply below_drew1) | exact HB.out)⟩
    · rw [if_neg c3] at H
      have c3b0 : decide (32 < a0) = false := decide_eq_false c3
      clear c3
      obtain ⟨ji4, hji4⟩ : ∃ j_ : Int, (wrap64 (a0 * 32)) = j_ := ⟨_, rfl⟩
      replace H : (if 0 ≤ (ji4) then (if (ji4 : Int).toNat ≤ 70368744177664 then (some (List.replicate (ji4 : Int).toNat 0)) else (none)) else (none)) = some r := by first | (rw [hji4] at H; exact H) | (simp only [hji4] at H ⊢; exact H)
      have hji4w : (IntKind.i64.wrap (a0 * 32)) = ji4 := (i64_w _).trans hji4
      by_cases c5 : 0 ≤ (ji4)
      · rw [if_pos c5] at H
        have c5b0 := eq_true c5
        have c5b1 : decide (0 ≤ (ji4)) = true := decide_eq_true c5
        clear c5
        by_cases c6 : (ji4 : Int).toNat ≤ 70368744177664
        · rw [if_pos c6] at H
          have c6b0 := eq_true c6
          have c6b1 : decide ((ji4 : Int).toNat ≤ 70368744177664) = true := decide_eq_true c6
          clear c6
          obtain ⟨y101, hy101⟩ : ∃ y_ : List Int, y_ = (List.replicate (ji4 : Int).toNat 0) := ⟨_, rfl⟩
          replace H : (some y101) = some r := by first | (rw [hy101]; with_reducible exact H) | (have H2_ := (Option.bind_some _ _).symm.trans H; rw [hy101]; with_reducible exact H2_) | (have H2_ := (Option.bind_some _ _).symm.trans H; with_reducible exact H2_) | with_reducible exact H | (rw [hy101]; exact H) | exact H
          have Ny101 := Aside0.mk hy101
          clear hy101
          obtain rfl := Option.some.inj H
          go_enter Try.func20, Try.ntmps20
          go_wp2_with (first | ((with_reducible refine gate_dst (N := 11) rfl ?_); refine Kd.R_make (Kd.int .u32) _ 24 rfl (N := 11) rfl 22 _ _ rfl ji4 rfl rfl Try.underlying22 (.int .u32 0) 4 info24 rfl (by decide) (by omega) 0 (ok := fun _ => True) (okp := fun _ => True) rfl (fun _ hk => hk) trivial (of_decide_eq_true (by first | (with_reducible assumption) | assumption)) (Nat.le_trans (Nat.mul_le_mul_right _ (of_decide_eq_true (by first | (with_reducible assumption) | assumption) : ji4.toNat ≤ 70368744177664)) (by omega)) (Below.refl _ _) (Nat.le_refl _) ?_; intro v102 w7 ho8 hb hg_ hnew_; clear hg_ hnew_; (first | rw [← Ny101.out] at ho8 | (simp only [Int.reduceToNat] at ho8; rw [← Ny101.out] at ho8)); have n0_ := Aside0.mk (Kd.R_lower ho8 (below_size (by repeat (first | (with_reducible first | exact HB.out | apply below_alloc | apply pw_below_drewN | apply below_drew1) | exact HB.out)))); have n1_ := Aside0.mk (below_step (by repeat (first | (with_reducible first | exact HB.out | apply below_alloc | apply pw_below_drewN | apply below_drew1) | exact HB.out)) hb); clear HB; have HO103 := n0_; have HB := n1_; clear n0_ n1_; clear hb ho8))
          go_ret
          exact ⟨_, by first | rfl | (simp [errW_none, errW_some] <;> rfl) | (simp only [← hji4]; first | rfl | (simp [errW_none, errW_some] <;> rfl)) | (simp [*, errW_none, errW_some] <;> rfl), by (with_reducible repeat (first | apply Kd.R_alloc | apply Kd.R_drewN | apply Kd.R_drew)); exact HO103.out, by repeat (first | (with_reducible first | exact HB.out | apply below_alloc | apply pw_below_drewN | apply below_drew1) | exact HB.out)⟩
        · rw [if_neg c6] at H
          exact absurd H (by simp)
      · rw [if_neg c5] at H
        exact absurd H (by simp)

/-! ### vmfleetref1_Next: function 40 -/
def vmfleetref1_Next.f (a0 : Int) : Option (Int × Int) := some (Go.bits .xor .u64 (IntKind.u64.wrap ((Go.bits .xor .u64 (IntKind.u64.wrap ((Go.bits .xor .u64 (IntKind.u64.wrap (a0 + 11400714819323198485)) ((IntKind.u64.wrap (a0 + 11400714819323198485)) / 1073741824)) * 13787848793156543929)) ((IntKind.u64.wrap ((Go.bits .xor .u64 (IntKind.u64.wrap (a0 + 11400714819323198485)) ((IntKind.u64.wrap (a0 + 11400714819323198485)) / 1073741824)) * 13787848793156543929)) / 134217728)) * 10723151780598845931)) ((IntKind.u64.wrap ((Go.bits .xor .u64 (IntKind.u64.wrap ((Go.bits .xor .u64 (IntKind.u64.wrap (a0 + 11400714819323198485)) ((IntKind.u64.wrap (a0 + 11400714819323198485)) / 1073741824)) * 13787848793156543929)) ((IntKind.u64.wrap ((Go.bits .xor .u64 (IntKind.u64.wrap (a0 + 11400714819323198485)) ((IntKind.u64.wrap (a0 + 11400714819323198485)) / 1073741824)) * 13787848793156543929)) / 134217728)) * 10723151780598845931)) / 2147483648), IntKind.u64.wrap (a0 + 11400714819323198485))
set_option maxHeartbeats 8000000 in
set_option maxRecDepth 100000 in
theorem vmfleetref1_Next.calls (a0 : Int) (r1 : Int) (r2 : Int) (w : World) (h : vmfleetref1_Next.f a0 = some (r1, r2)) :
    Calls Try.prog 40 #[.int .u64 a0] w fun e w' => e = .returned (.tuple #[.int .u64 r1, .int .u64 r2]) ∧ Drawn0 w w' := by
  have H : (some (Go.bits .xor .u64 (IntKind.u64.wrap ((Go.bits .xor .u64 (IntKind.u64.wrap ((Go.bits .xor .u64 (IntKind.u64.wrap (a0 + 11400714819323198485)) ((IntKind.u64.wrap (a0 + 11400714819323198485)) / 1073741824)) * 13787848793156543929)) ((IntKind.u64.wrap ((Go.bits .xor .u64 (IntKind.u64.wrap (a0 + 11400714819323198485)) ((IntKind.u64.wrap (a0 + 11400714819323198485)) / 1073741824)) * 13787848793156543929)) / 134217728)) * 10723151780598845931)) ((IntKind.u64.wrap ((Go.bits .xor .u64 (IntKind.u64.wrap ((Go.bits .xor .u64 (IntKind.u64.wrap (a0 + 11400714819323198485)) ((IntKind.u64.wrap (a0 + 11400714819323198485)) / 1073741824)) * 13787848793156543929)) ((IntKind.u64.wrap ((Go.bits .xor .u64 (IntKind.u64.wrap (a0 + 11400714819323198485)) ((IntKind.u64.wrap (a0 + 11400714819323198485)) / 1073741824)) * 13787848793156543929)) / 134217728)) * 10723151780598845931)) / 2147483648), IntKind.u64.wrap (a0 + 11400714819323198485))) = some (r1, r2) := h
  clear h
  simp only [Option.some.injEq, Prod.mk.injEq] at H
  obtain ⟨rfl, rfl⟩ := H
  go_enter Try.func40, Try.ntmps40
  go_wp2
  go_ret2
  exact ⟨by first | rfl | (simp; done) | (simp [*]; done), by repeat (first | exact Drawn0.refl _ | apply Drawn0.step)⟩

/-! ### vmfleetmake_Mix: function 22 -/
def vmfleetmake_Mix.f (a0 : Int) (a1 : Int) : Option (Int) := (vmfleetref1_Next.f (Go.bits .xor .u64 (IntKind.u64.wrap (a0)) (IntKind.u64.wrap ((IntKind.u64.wrap (a1)) * 11400714819323198485)))).bind fun bt104 => (some (wrap64 (bt104.1 / 2)))
set_option maxHeartbeats 8000000 in
set_option maxRecDepth 100000 in
theorem vmfleetmake_Mix.calls (a0 : Int) (a1 : Int) (r : Int) (w : World) (h : vmfleetmake_Mix.f a0 a1 = some r) :
    Calls Try.prog 22 #[.int .i64 a0, .int .i64 a1] w fun e w' => e = .returned (.int .i64 r) ∧ Drawn0 w w' := by
  have H : ((vmfleetref1_Next.f (Go.bits .xor .u64 (IntKind.u64.wrap (a0)) (IntKind.u64.wrap ((IntKind.u64.wrap (a1)) * 11400714819323198485)))).bind fun bt104 => (some (wrap64 (bt104.1 / 2)))) = some r := h
  clear h
  replace H := Option.bind_eq_some_iff.mp H
  obtain ⟨⟨t104, t105⟩, A30, H⟩ := H
  replace H : (some (wrap64 (t104 / 2))) = some r := H
  have A3 := Aside0.mk A30
  clear A30
  obtain rfl := Option.some.inj H
  go_enter Try.func22, Try.ntmps22
  go_wp2_with (first | ((with_reducible refine gate_callee (f := 40) rfl ?_); refine goesL_ (some 14) rfl rfl Try.func40 (by kernel_rfl) rfl #[.int .u64 (Go.bits .xor .u64 (IntKind.u64.wrap (a0)) (IntKind.u64.wrap ((IntKind.u64.wrap (a1)) * 11400714819323198485)))] rfl (by (try simp only [List.map_toArray, List.map_cons, List.map_nil]); first | done | rfl | (simp only [List.length_drop, List.length_take]; rfl)) ?_; (with_reducible refine (vmfleetref1_Next.calls (Go.bits .xor .u64 (IntKind.u64.wrap (a0)) (IntKind.u64.wrap ((IntKind.u64.wrap (a1)) * 11400714819323198485))) t104 t105 _ A3.out).mono ?_); rintro e w' ⟨rfl, ⟨nd, rfl⟩⟩; refine ⟨_, rfl, ?_⟩))
  go_ret
  exact ⟨by first | rfl | (simp; done) | (simp [*]; done), by repeat (first | exact Drawn0.refl _ | apply Drawn0.step)⟩

/-! ### vmfleetlaw4_shaped: function 10 -/
mutual
def vmfleetlaw4_shaped.j0 : Nat → List Int → List Int → Int → Bool → Option (List Int)
  | 0, _, _, _, _ => none
  | k + 1, x0, x2, x3, x16 => if x16 = true then (some x0) else ((vmfleetmake_Round.f x3 6).bind fun t106 => ((vmfleetref1_New.f (wrap64 (1 + t106))).bind fun t107 => (vmfleetlaw4_shaped.l0 k x2 t107 0)))
def vmfleetlaw4_shaped.l0 : Nat → List Int → List Int → Int → Option (List Int)
  | 0, _, _, _ => none
  | k + 1, x2, x9, x10 => if x10 < (x2.length : Int) then (vmfleetlaw4_shaped.j2 k x2 x9 x10 (decide (x10 < 40))) else (vmfleetlaw4_shaped.j2 k x2 x9 x10 false)
def vmfleetlaw4_shaped.j2 : Nat → List Int → List Int → Int → Bool → Option (List Int)
  | 0, _, _, _, _ => none
  | k + 1, x2, x9, x10, x29 => if x29 = true then (if 0 ≤ x10 then (if x10 < (x2.length : Int) then ((vmfleetmake_Mix.f (rd x2 x10) 5).bind fun t111 => ((vmfleetmake_Round.f t111 (x9.length : Int)).bind fun t112 => ((vmfleetmake_Mix.f (rd x2 x10) 6).bind fun t114 => (if 0 ≤ t112 then (if t112 < (x9.length : Int) then (vmfleetlaw4_shaped.l0 k x2 (x9.set (t112 : Int).toNat ((Go.bits .and .i64 t114 4294967295) % 4294967296)) (wrap64 (x10 + 1))) else (none)) else (none))))) else (none)) else (none)) else (some x9)
end
def vmfleetlaw4_shaped.f (k : Nat) (l0 : List Int) (a1 : Bool) (l2 : List Int) (a3 : Int) : Option (List Int) := if a1 = true then (vmfleetlaw4_shaped.j0 k l0 l2 a3 (decide ((l0.length : Int) ≤ 200))) else (vmfleetlaw4_shaped.j0 k l0 l2 a3 false)
theorem vmfleetlaw4_shaped.mono_l : ∀ k, (∀ y0 y1 y2 y3, LeO (vmfleetlaw4_shaped.j0 k y0 y1 y2 y3) (vmfleetlaw4_shaped.j0 (k + 1) y0 y1 y2 y3)) ∧ (∀ y0 y1 y2, LeO (vmfleetlaw4_shaped.l0 k y0 y1 y2) (vmfleetlaw4_shaped.l0 (k + 1) y0 y1 y2)) ∧ (∀ y0 y1 y2 y3, LeO (vmfleetlaw4_shaped.j2 k y0 y1 y2 y3) (vmfleetlaw4_shaped.j2 (k + 1) y0 y1 y2 y3))
  | 0 => ⟨fun _ _ _ _ r h => by simp [vmfleetlaw4_shaped.j0] at h, fun _ _ _ r h => by simp [vmfleetlaw4_shaped.l0] at h, fun _ _ _ _ r h => by simp [vmfleetlaw4_shaped.j2] at h⟩
  | k + 1 => by
    obtain ⟨ih0, ih1, ih2⟩ := vmfleetlaw4_shaped.mono_l k
    refine ⟨?_, ?_, ?_⟩
    · intro y0 y1 y2 y3
      unfold vmfleetlaw4_shaped.j0
      repeat' first
      | (with_reducible exact ih0 _ _ _ _)
      | (with_reducible exact ih1 _ _ _)
      | (with_reducible exact ih2 _ _ _ _)
      | (with_reducible exact LeO.refl _)
      | (with_reducible exact LeO.none _)
      | (with_reducible refine LeO.ite ?_ ?_)
      | (with_reducible refine LeO.bind ?_ (fun _ => ?_))
      | exact ih0 _ _ _ _
      | exact ih1 _ _ _
      | exact ih2 _ _ _ _
      | exact LeO.none _
      | refine LeO.ite ?_ ?_
      | refine LeO.bind ?_ (fun _ => ?_)
    · intro y0 y1 y2
      unfold vmfleetlaw4_shaped.l0
      repeat' first
      | (with_reducible exact ih0 _ _ _ _)
      | (with_reducible exact ih1 _ _ _)
      | (with_reducible exact ih2 _ _ _ _)
      | (with_reducible exact LeO.refl _)
      | (with_reducible exact LeO.none _)
      | (with_reducible refine LeO.ite ?_ ?_)
      | (with_reducible refine LeO.bind ?_ (fun _ => ?_))
      | exact ih0 _ _ _ _
      | exact ih1 _ _ _
      | exact ih2 _ _ _ _
      | exact LeO.none _
      | refine LeO.ite ?_ ?_
      | refine LeO.bind ?_ (fun _ => ?_)
    · intro y0 y1 y2 y3
      unfold vmfleetlaw4_shaped.j2
      repeat' first
      | (with_reducible exact ih0 _ _ _ _)
      | (with_reducible exact ih1 _ _ _)
      | (with_reducible exact ih2 _ _ _ _)
      | (with_reducible exact LeO.refl _)
      | (with_reducible exact LeO.none _)
      | (with_reducible refine LeO.ite ?_ ?_)
      | (with_reducible refine LeO.bind ?_ (fun _ => ?_))
      | exact ih0 _ _ _ _
      | exact ih1 _ _ _
      | exact ih2 _ _ _ _
      | exact LeO.none _
      | refine LeO.ite ?_ ?_
      | refine LeO.bind ?_ (fun _ => ?_)
theorem vmfleetlaw4_shaped.mono : ∀ a0 a1 a2 a3 k, LeO (vmfleetlaw4_shaped.f k a0 a1 a2 a3) (vmfleetlaw4_shaped.f (k + 1) a0 a1 a2 a3) := by
  intro a0 a1 a2 a3 k
  obtain ⟨ih0, ih1, ih2⟩ := vmfleetlaw4_shaped.mono_l k
  unfold vmfleetlaw4_shaped.f
  repeat' first
      | (with_reducible exact ih0 _ _ _ _)
      | (with_reducible exact ih1 _ _ _)
      | (with_reducible exact ih2 _ _ _ _)
      | (with_reducible exact LeO.refl _)
      | (with_reducible exact LeO.none _)
      | (with_reducible refine LeO.ite ?_ ?_)
      | (with_reducible refine LeO.bind ?_ (fun _ => ?_))
      | exact ih0 _ _ _ _
      | exact ih1 _ _ _
      | exact ih2 _ _ _ _
      | exact LeO.none _
      | refine LeO.ite ?_ ?_
      | refine LeO.bind ?_ (fun _ => ?_)
def vmfleetlaw4_shaped.T7 : Bool × List (List Nat × List Nat) := (true, [([], []), ([], []), ([], []), ([1, 2], [1, 2]), ([3], [3]), ([4], [4]), ([], []), ([6], [6]), ([5, 7, 5], [5, 7]), ([], []), ([], []), ([9, 10], [9, 10]), ([11], [11]), ([12, 8], [12]), ([13], [13]), ([14], [14]), ([0, 8, 0, 1, 2, 3, 4, 5, 6, 7, 8, 9, 10, 11, 12, 13, 14, 15], [0, 8]), ([16, 15, 13, 0, 1, 2, 3, 4, 5, 6, 7, 8, 9, 10, 11, 12, 13, 14, 15], [15, 16])])
def vmfleetlaw4_shaped.B7 : List Nat := [0, 0, 0, 6, 14, 30, 0, 64, 254, 0, 0, 1536, 3584, 8190, 16382, 32766, 65535, 131071]
theorem vmfleetlaw4_shaped.tab7 : rtab .any (opsOf Try.f10 7) = vmfleetlaw4_shaped.T7 := by kernel_rfl
theorem vmfleetlaw4_shaped.bits7 : waitsOk vmfleetlaw4_shaped.T7.2 vmfleetlaw4_shaped.B7 = true := by kernel_rfl
set_option maxHeartbeats 8000000 in
set_option maxRecDepth 100000 in
theorem vmfleetlaw4_shaped.calls (k : Nat) (P0_ : Nat → Prop) (A0 : Option Addr) (c0 : Nat) (l0 : List Int) (a1 : Bool) (A2 : Option Addr) (c2 : Nat) (l2 : List Int) (a3 : Int) (r : List Int) (w : World) (hs0 : Kd.V (Kd.int .u32) 24 w w.heap.size (fun k_ => P0_ k_) (.slice A0 l0.length c0) l0) (hr2 : Kd.C (Kd.int .i64) w A2 l2.length l2) (hc2 : l2.length ≤ c2) (h : vmfleetlaw4_shaped.f k l0 a1 l2 a3 = some r) :
    Calls Try.prog 10 #[.slice A0 l0.length c0, .bool a1, .slice A2 l2.length c2, .int .i64 a3] w fun e w' => ∃ v0_ : Value, e = .returned (v0_) ∧ Kd.V (Kd.int .u32) 24 w' w.heap.size (fun k_ => (P0_ k_ ∨ w.heap.size ≤ k_)) v0_ r ∧ Below w.heap.size w w' := by
  have HO0 := Aside0.mk (show Kd.V (Kd.int .u32) 24 w w.heap.size (fun k_ => (P0_ k_ ∨ w.heap.size ≤ k_)) (.slice A0 l0.length c0) l0 from Kd.V_mono hs0 (fun k_ hk => .inl hk))
  have HR2 := Aside0.mk hr2
  have HC2 := Aside0.mk hc2
  clear hr2 hc2
  have HB := Aside0.mk (Below.refl w.heap.size w)
  have H : (if a1 = true then (vmfleetlaw4_shaped.j0 k l0 l2 a3 (decide ((l0.length : Int) ≤ 200))) else (vmfleetlaw4_shaped.j0 k l0 l2 a3 false)) = some r := h
  clear h
  have HC5 := Aside0.mk H
  clear H
  go_enter Try.func10, Try.ntmps10
  go_upto_region 1 with (fail)
  go_cut [16] (fun v16 wc => ∃ (kq : Nat) (x16_4 : Bool), v16 = .bool x16_4 ∧ Aside0 (vmfleetlaw4_shaped.j0 kq l0 l2 a3 x16_4 = some r) ∧ Aside0 (kq ≤ k) ∧ Aside0 (Kd.V (Kd.int .u32) 24 wc w.heap.size (fun k_ => (P0_ k_ ∨ w.heap.size ≤ k_)) (.slice A0 l0.length c0) l0) ∧ Aside0 (Below w.heap.size w wc))
  case first =>
    have H := HC5.out
    clear HC5
    by_cases c6 : a1 = true
    · subst c6
      have H1 : (vmfleetlaw4_shaped.j0 k l0 l2 a3 (decide ((l0.length : Int) ≤ 200))) = some r := by rw [if_pos rfl] at H; exact H
      clear H
      have H := H1
      clear H1
      have H' := Aside0.mk H
      clear H
      go_wp2
      go_meet
      case rel => exact ⟨_, (decide ((l0.length : Int) ≤ 200)), (by first | rfl | (simp; done) | (simp [*]; done)), H', ⟨by first | omega | exact Nat.le_refl _⟩, ⟨by (with_reducible repeat (first | apply Kd.V_alloc | apply Kd.V_drewN | apply Kd.V_drew)); exact HO0.out⟩, ⟨by repeat (first | (with_reducible first | exact HB.out | apply below_alloc | apply pw_below_drewN | apply below_drew1) | exact HB.out)⟩⟩
    · replace c6 := Bool.eq_false_iff.mpr c6
      subst c6
      have H1 : (vmfleetlaw4_shaped.j0 k l0 l2 a3 false) = some r := by rw [if_neg (show ¬ (false = true) by decide)] at H; exact H
      clear H
      have H := H1
      clear H1
      have H' := Aside0.mk H
      clear H
      go_wp2
      go_meet
      case rel => exact ⟨_, (false), (by first | rfl | (simp; done) | (simp [*]; done)), H', ⟨by first | omega | exact Nat.le_refl _⟩, ⟨by (with_reducible repeat (first | apply Kd.V_alloc | apply Kd.V_drewN | apply Kd.V_drew)); exact HO0.out⟩, ⟨by repeat (first | (with_reducible first | exact HB.out | apply below_alloc | apply pw_below_drewN | apply below_drew1) | exact HB.out)⟩⟩
  case rest =>
    clear HC5
    try clear c1
    try clear c2
    try clear p2
    try clear c6
    obtain ⟨kq, x16_4, rfl, HA, HJ4, HO_0, HB⟩ := hcut
    cases kq with
    | zero => exact absurd HA.out (by simp [vmfleetlaw4_shaped.j0])
    | succ kj4 =>
      have H := HA.out
      clear HA
      simp only [vmfleetlaw4_shaped.j0] at H
      by_cases c7 : x16_4 = true
      · subst c7
        have H1 : (some l0) = some r := by rw [if_pos rfl] at H; exact H
        clear H
        have H := H1
        clear H1
        obtain rfl := Option.some.inj H
        go_wp2
        go_ret
        exact ⟨_, by first | rfl | (simp [errW_none, errW_some] <;> rfl) | (simp [*, errW_none, errW_some] <;> rfl), by (with_reducible repeat (first | apply Kd.V_alloc | apply Kd.V_drewN | apply Kd.V_drew)); exact HO_0.out, by repeat (first | (with_reducible first | exact HB.out | apply below_alloc | apply pw_below_drewN | apply below_drew1) | exact HB.out)⟩
      · replace c7 := Bool.eq_false_iff.mpr c7
        subst c7
        have H1 : ((vmfleetmake_Round.f a3 6).bind fun t106 => ((vmfleetref1_New.f (wrap64 (1 + t106))).bind fun t107 => (vmfleetlaw4_shaped.l0 kj4 l2 t107 0))) = some r := by rw [if_neg (show ¬ (false = true) by decide)] at H; exact H
        clear H
        have H := H1
        clear H1
        replace H := Option.bind_eq_some_iff.mp H
        obtain ⟨t106, A80, H⟩ := H
        replace H : ((vmfleetref1_New.f (wrap64 (1 + t106))).bind fun t107 => (vmfleetlaw4_shaped.l0 kj4 l2 t107 0)) = some r := H
        have A8 := Aside0.mk A80
        clear A80
        replace H := Option.bind_eq_some_iff.mp H
        obtain ⟨t107, A90, H⟩ := H
        replace H : (vmfleetlaw4_shaped.l0 kj4 l2 t107 0) = some r := H
        have A9 := Aside0.mk A90
        clear A90
        have H' := Aside0.mk H
        clear H
        go_wp2_with (first | ((with_reducible refine gate_callee (f := 11) rfl ?_); refine goesL_ (some 19) rfl rfl Try.func11 (by kernel_rfl) rfl #[.int .i64 a3, .int .i64 6] rfl (by (try simp only [List.map_toArray, List.map_cons, List.map_nil]); first | done | rfl | (simp only [List.length_drop, List.length_take]; rfl)) ?_; (with_reducible refine (vmfleetmake_Round.calls a3 6 t106 _ A8.out).mono ?_); rintro e w' ⟨rfl, ⟨nd, rfl⟩⟩; refine ⟨_, rfl, ?_⟩) | ((with_reducible refine gate_callee (f := 20) rfl ?_); refine goesL_ (some 21) rfl rfl Try.func20 (by kernel_rfl) rfl #[.int .i64 (wrap64 (1 + t106))] rfl (by (try simp only [List.map_toArray, List.map_cons, List.map_nil]); first | done | rfl | (simp only [List.length_drop, List.length_take]; rfl)) ?_; (with_reducible refine (vmfleetref1_New.calls (wrap64 (1 + t106)) t107 _ A9.out).mono ?_); rintro e w10 ⟨v108, rfl, ho0, hb⟩; refine ⟨_, rfl, ?_⟩; have n0_ := Aside0.mk (Kd.V_elder' (by (with_reducible repeat (first | apply Kd.V_alloc | apply Kd.V_drewN | apply Kd.V_drew)); exact HO_0.out) (Kd.R_base ho0) hb); have n1_ := Aside0.mk (Kd.R_lower (Kd.R_newM (M := fun k_ => (w.heap.size ≤ k_)) ho0 (below_size (by repeat (first | (with_reducible first | exact HB.out | apply below_alloc | apply pw_below_drewN | apply below_drew1) | exact HB.out))) (fun k_ h_ => h_)) (below_size (by repeat (first | (with_reducible first | exact HB.out | apply below_alloc | apply pw_below_drewN | apply below_drew1) | exact HB.out)))); have n2_ := Aside0.mk (below_step (by repeat (first | (with_reducible first | exact HB.out | apply below_alloc | apply pw_below_drewN | apply below_drew1) | exact HB.out)) hb); clear HO_0; clear HB; have HO_0 := n0_; have HO109 := n1_; have HB := n2_; clear n0_ n1_ n2_; (try clear hb); (try clear hb2); (try clear hk); (try clear hi); (try clear ho0)))
        go_loopg [10] kj4 (fun kq v10 w' => ∃ (x9_2 : List Int) (x10_2 : Int), v10 = .int .i64 x10_2 ∧ Aside0 (vmfleetlaw4_shaped.l0 kq l2 x9_2 x10_2 = some r) ∧ Aside0 (kq ≤ kj4) ∧ Aside0 (Kd.R (Kd.int .u32) 24 w' w.heap.size (fun k_ => (w.heap.size ≤ k_)) v108 x9_2) ∧ Aside0 (Below w.heap.size w w'))
        case atStart => exact ⟨(t107), (0), (by first | rfl | (simp; done) | (simp [*]; done)), H', ⟨Nat.le_refl _⟩, ⟨by (with_reducible repeat (first | apply Kd.R_alloc | apply Kd.R_drewN | apply Kd.R_drew)); exact Kd.R_mono HO109.out (fun _ hk => hk.1)⟩, ⟨by repeat (first | (with_reducible first | exact HB.out | apply below_alloc | apply pw_below_drewN | apply below_drew1) | exact HB.out)⟩⟩
        case round =>
          clear H'
          try clear c1
          try clear c2
          try clear p2
          try clear c6
          try clear p6
          try clear c7
          try clear c10
          try clear p2
          obtain ⟨x9_2, x10_2, rfl, HA, HK2, HO_9, HB⟩ := hrel
          cases gk with
          | zero => exact absurd HA.out (by simp [vmfleetlaw4_shaped.l0])
          | succ k2 =>
            have H := HA.out
            clear HA
            simp only [vmfleetlaw4_shaped.l0] at H
            have HC11 := Aside0.mk H
            clear H
            go_upto_region 5 with (fail)
            go_cut [29] (fun v29 wc => ∃ (kq : Nat) (x29_10 : Bool), v29 = .bool x29_10 ∧ Aside0 (vmfleetlaw4_shaped.j2 kq l2 x9_2 x10_2 x29_10 = some r) ∧ Aside0 (kq ≤ k2) ∧ Aside0 (Kd.R (Kd.int .u32) 24 wc w.heap.size (fun k_ => (w.heap.size ≤ k_)) v108 x9_2) ∧ Aside0 (Below w.heap.size w wc))
            case first =>
              have H := HC11.out
              clear HC11
              by_cases c12 : x10_2 < (l2.length : Int)
              · rw [if_pos c12] at H
                have c12b0 : decide (x10_2 < (l2.length : Int)) = true := decide_eq_true c12
                clear c12
                (first | rw [c12b0] | (simp only [i64_w, i32_w]; rw [c12b0]) | skip)
                have H' := Aside0.mk H
                clear H
                go_wp2
                go_meet
                case rel => exact ⟨_, (decide (x10_2 < 40)), (by first | rfl | (simp; done) | (simp [*]; done)), H', ⟨by have := HJ4.out; have := HK2.out; first | omega | exact Nat.le_refl _⟩, ⟨by (with_reducible repeat (first | apply Kd.R_alloc | apply Kd.R_drewN | apply Kd.R_drew)); exact HO_9.out⟩, ⟨by repeat (first | (with_reducible first | exact HB.out | apply below_alloc | apply pw_below_drewN | apply below_drew1) | exact HB.out)⟩⟩
              · rw [if_neg c12] at H
                have c12b0 : decide (x10_2 < (l2.length : Int)) = false := decide_eq_false c12
                clear c12
                (first | rw [c12b0] | (simp only [i64_w, i32_w]; rw [c12b0]) | skip)
                have H' := Aside0.mk H
                clear H
                go_wp2
                go_meet
                case rel => exact ⟨_, (false), (by first | rfl | (simp; done) | (simp [*]; done)), H', ⟨by have := HJ4.out; have := HK2.out; first | omega | exact Nat.le_refl _⟩, ⟨by (with_reducible repeat (first | apply Kd.R_alloc | apply Kd.R_drewN | apply Kd.R_drew)); exact HO_9.out⟩, ⟨by repeat (first | (with_reducible first | exact HB.out | apply below_alloc | apply pw_below_drewN | apply below_drew1) | exact HB.out)⟩⟩
            case rest =>
              clear HC11
              try clear c1
              try clear c2
              try clear p2
              try clear c6
              try clear p6
              try clear c7
              try clear c10
              try clear c11
              try clear c12
              try clear c12b0
              try clear p2
              try clear p6
              obtain ⟨kq, x29_10, rfl, HA, HJ10, HO_9, HB⟩ := hcut
              cases kq with
              | zero => exact absurd HA.out (by simp [vmfleetlaw4_shaped.j2])
              | succ kj10 =>
                have H := HA.out
                clear HA
                simp only [vmfleetlaw4_shaped.j2] at H
                by_cases c13 : x29_10 = true
                · subst c13
                  have H1 : (if 0 ≤ x10_2 then (if x10_2 < (l2.length : Int) then ((vmfleetmake_Mix.f (rd l2 x10_2) 5).bind fun t111 => ((vmfleetmake_Round.f t111 (x9_2.length : Int)).bind fun t112 => ((vmfleetmake_Mix.f (rd l2 x10_2) 6).bind fun t114 => (if 0 ≤ t112 then (if t112 < (x9_2.length : Int) then (vmfleetlaw4_shaped.l0 kj10 l2 (x9_2.set (t112 : Int).toNat ((Go.bits .and .i64 t114 4294967295) % 4294967296)) (wrap64 (x10_2 + 1))) else (none)) else (none))))) else (none)) else (none)) = some r := by rw [if_pos rfl] at H; exact H
                  clear H
                  have H := H1
                  clear H1
                  by_cases c14 : 0 ≤ x10_2
                  · rw [if_pos c14] at H
                    have c14b0 : decide (0 ≤ x10_2) = true := decide_eq_true c14
                    clear c14
                    by_cases c15 : x10_2 < (l2.length : Int)
                    · rw [if_pos c15] at H
                      have c15b0 : decide (x10_2 < (l2.length : Int)) = true := decide_eq_true c15
                      clear c15
                      replace H := Option.bind_eq_some_iff.mp H
                      obtain ⟨t111, A160, H⟩ := H
                      replace H : ((vmfleetmake_Round.f t111 (x9_2.length : Int)).bind fun t112 => ((vmfleetmake_Mix.f (rd l2 x10_2) 6).bind fun t114 => (if 0 ≤ t112 then (if t112 < (x9_2.length : Int) then (vmfleetlaw4_shaped.l0 kj10 l2 (x9_2.set (t112 : Int).toNat ((Go.bits .and .i64 t114 4294967295) % 4294967296)) (wrap64 (x10_2 + 1))) else (none)) else (none)))) = some r := H
                      have A16 := Aside0.mk A160
                      clear A160
                      replace H := Option.bind_eq_some_iff.mp H
                      obtain ⟨t112, A170, H⟩ := H
                      replace H : ((vmfleetmake_Mix.f (rd l2 x10_2) 6).bind fun t114 => (if 0 ≤ t112 then (if t112 < (x9_2.length : Int) then (vmfleetlaw4_shaped.l0 kj10 l2 (x9_2.set (t112 : Int).toNat ((Go.bits .and .i64 t114 4294967295) % 4294967296)) (wrap64 (x10_2 + 1))) else (none)) else (none))) = some r := H
                      have A17 := Aside0.mk A170
                      clear A170
                      replace H := Option.bind_eq_some_iff.mp H
                      obtain ⟨t114, A180, H⟩ := H
                      replace H : (if 0 ≤ t112 then (if t112 < (x9_2.length : Int) then (vmfleetlaw4_shaped.l0 kj10 l2 (x9_2.set (t112 : Int).toNat ((Go.bits .and .i64 t114 4294967295) % 4294967296)) (wrap64 (x10_2 + 1))) else (none)) else (none)) = some r := H
                      have A18 := Aside0.mk A180
                      clear A180
                      by_cases c19 : 0 ≤ t112
                      · rw [if_pos c19] at H
                        have c19b0 : decide (0 ≤ t112) = true := decide_eq_true c19
                        clear c19
                        by_cases c20 : t112 < (x9_2.length : Int)
                        · rw [if_pos c20] at H
                          have c20b0 : decide (t112 < (x9_2.length : Int)) = true := decide_eq_true c20
                          clear c20
                          obtain ⟨y115, hy115⟩ : ∃ y_ : List Int, y_ = (x9_2.set (t112 : Int).toNat ((Go.bits .and .i64 t114 4294967295) % 4294967296)) := ⟨_, rfl⟩
                          replace H : (vmfleetlaw4_shaped.l0 kj10 l2 y115 (wrap64 (x10_2 + 1))) = some r := by first | (rw [hy115]; with_reducible exact H) | (have H2_ := (Option.bind_some _ _).symm.trans H; rw [hy115]; with_reducible exact H2_) | (have H2_ := (Option.bind_some _ _).symm.trans H; with_reducible exact H2_) | with_reducible exact H | (rw [hy115]; exact H) | exact H
                          have Ny115 := Aside0.mk hy115
                          clear hy115
                          have H' := Aside0.mk H
                          clear H
                          try go_wp2
                          have n0_ := Aside0.mk (Kd.R_drew HO_9.out)
                          have n1_ := Aside0.mk (below_drew1 HB.out)
                          clear HO_9
                          clear HB
                          have HO_9 := n0_
                          have HB := n1_
                          clear n0_ n1_
                          have p110 : 0 ≤ (x10_2 : Int) := of_decide_eq_true (by first | (with_reducible assumption) | assumption)
                          have q110 : x10_2 < (l2.length : Int) := of_decide_eq_true (by first | (with_reducible assumption) | assumption)
                          obtain ⟨ad110, e110, hx110_0⟩ := Kd.at_int HR2.out x10_2 p110 q110
                          have hw110_0 := hx110_0
                          cases e110
                          replace hx110_0 := (HB.out.cell (World.block_lt_of_cell? w _ hx110_0)).trans hx110_0
                          replace p110 := eq_true p110
                          replace q110 := eq_true q110
                          obtain ⟨Ao23, co23, eo23⟩ := Kd.R_slice HO_9.out
                          (first | subst eo23 | (injection eo23 with f1_ f2_ f3_; have f4_ := f1_.symm; have f5_ := f3_.symm; clear f1_ f2_ f3_; subst f4_; subst f5_))
                          have p113 : 0 ≤ (x10_2 : Int) := of_decide_eq_true (by first | (with_reducible assumption) | assumption)
                          have q113 : x10_2 < (l2.length : Int) := of_decide_eq_true (by first | (with_reducible assumption) | assumption)
                          obtain ⟨ad113, e113, hx113_0⟩ := Kd.at_int HR2.out x10_2 p113 q113
                          have hw113_0 := hx113_0
                          obtain rfl : ad110 = ad113 := (by injection e113)
                          replace hx113_0 := (HB.out.cell (World.block_lt_of_cell? w _ hx113_0)).trans hx113_0
                          replace p113 := eq_true p113
                          replace q113 := eq_true q113
                          refine start_ (n := 18) (S := fun w' => w'.cell? (ad110.add (x10_2).toNat) = some (.int .i64 (rd l2 x10_2)) ∧ w'.cell? (ad110.add (x10_2).toNat) = some (.int .i64 (rd l2 x10_2))) (ds := [17]) #[false, false, false, false, false, false, false, false, false, false, false, false, false, false, false, false, false, false] (by kernel_rfl) rfl rfl ⟨((HB.out.cell (World.block_lt_of_cell? w _ hw110_0)).trans hw110_0), ((HB.out.cell (World.block_lt_of_cell? w _ hw113_0)).trans hw113_0)⟩ (fun hHeld => ?_); refine with_tabW vmfleetlaw4_shaped.tab7 vmfleetlaw4_shaped.bits7 (fun HT_ HW_ => ?_)
                          generalize wc.drew = w22 at HO_9 HB hx110_0 hx113_0 hHeld ⊢
                          refine pure_ (i := 0) (N := some 32) (v := ?_) (a' := ?_) #[true, false, false, false, false, false, false, false, false, false, false, false, false, false, false, false, false, false] rfl rfl (any_of HT_.out (by kernel_rfl)) (fun _ _ _ h => h) (Or.inl ⟨by rfl, ?_⟩) ?_ ?_
                          rotate_left
                          · intro w'
                            go_simp
                            with_reducible rfl
                          rotate_left
                          · simp only [Act.put, List.setIfInBounds_toArray, List.set_cons_zero, List.set_cons_succ, i64_w, i32_w]
                            rfl
                          refine pure_ (i := 1) (N := some 33) (v := ?_) (a' := ?_) #[true, true, false, false, false, false, false, false, false, false, false, false, false, false, false, false, false, false] rfl rfl (any_of HT_.out (by kernel_rfl)) (fun _ _ _ h => h) (Or.inl ⟨by rfl, ?_⟩) ?_ ?_
                          rotate_left
                          · intro w'
                            go_simp
                            with_reducible rfl
                          rotate_left
                          · simp only [Act.put, List.setIfInBounds_toArray, List.set_cons_zero, List.set_cons_succ, i64_w, i32_w]
                            rfl
                          refine pure_ (i := 2) (N := some 34) (v := ?_) (a' := ?_) #[true, true, true, false, false, false, false, false, false, false, false, false, false, false, false, false, false, false] rfl rfl (any_of HT_.out (by kernel_rfl)) (fun _ _ _ h => h) (Or.inl ⟨by rfl, ?_⟩) ?_ ?_
                          rotate_left
                          · intro w'
                            go_simp
                            with_reducible rfl
                          rotate_left
                          · simp only [Act.put, List.setIfInBounds_toArray, List.set_cons_zero, List.set_cons_succ, i64_w, i32_w]
                            rfl
                          refine pure_ (i := 3) (N := some 35) (v := ?_) (a' := ?_) #[true, true, true, true, false, false, false, false, false, false, false, false, false, false, false, false, false, false] rfl rfl (any_of HT_.out (by kernel_rfl)) (fun _ _ _ h => h) (Or.inl ⟨by rfl, ?_⟩) ?_ ?_
                          rotate_left
                          · intro w'
                            go_simp
                            with_reducible rfl
                          rotate_left
                          · simp only [Act.put, List.setIfInBounds_toArray, List.set_cons_zero, List.set_cons_succ, i64_w, i32_w]
                            rfl
                          refine pure_ (i := 6) (N := some 38) (v := ?_) (a' := ?_) #[true, true, true, true, false, false, true, false, false, false, false, false, false, false, false, false, false, false] rfl rfl (any_of HT_.out (by kernel_rfl)) (fun _ _ _ h => h) (Or.inl ⟨by rfl, ?_⟩) ?_ ?_
                          rotate_left
                          · intro w'
                            go_simp
                            with_reducible rfl
                          rotate_left
                          · simp only [Act.put, List.setIfInBounds_toArray, List.set_cons_zero, List.set_cons_succ, i64_w, i32_w]
                            rfl
                          refine pure_ (i := 7) (N := some 39) (v := ?_) (a' := ?_) #[true, true, true, true, false, false, true, true, false, false, false, false, false, false, false, false, false, false] rfl rfl (any_of HT_.out (by kernel_rfl)) (fun _ _ _ h => h) (Or.inl ⟨by rfl, ?_⟩) ?_ ?_
                          rotate_left
                          · intro w'
                            go_simp
                            with_reducible rfl
                          rotate_left
                          · simp only [Act.put, List.setIfInBounds_toArray, List.set_cons_zero, List.set_cons_succ, i64_w, i32_w]
                            rfl
                          refine pure_ (i := 9) (N := some 41) (v := ?_) (a' := ?_) #[true, true, true, true, false, false, true, true, false, true, false, false, false, false, false, false, false, false] rfl rfl (any_of HT_.out (by kernel_rfl)) (fun _ _ _ h => h) (Or.inl ⟨by rfl, ?_⟩) ?_ ?_
                          rotate_left
                          · intro w'
                            go_simp
                            with_reducible rfl
                          rotate_left
                          · simp only [Act.put, List.setIfInBounds_toArray, List.set_cons_zero, List.set_cons_succ, i64_w, i32_w]
                            rfl
                          refine pure_ (i := 10) (N := some 42) (v := ?_) (a' := ?_) #[true, true, true, true, false, false, true, true, false, true, true, false, false, false, false, false, false, false] rfl rfl (any_of HT_.out (by kernel_rfl)) (fun _ _ _ h => h) (Or.inl ⟨by rfl, ?_⟩) ?_ ?_
                          rotate_left
                          · intro w'
                            go_simp
                            with_reducible rfl
                          rotate_left
                          · simp only [Act.put, List.setIfInBounds_toArray, List.set_cons_zero, List.set_cons_succ, i64_w, i32_w]
                            rfl
                          refine pure_ (i := 11) (N := some 43) (v := ?_) (a' := ?_) #[true, true, true, true, false, false, true, true, false, true, true, true, false, false, false, false, false, false] rfl rfl (any_of HT_.out (by kernel_rfl)) (fun _ _ _ h => h) (Or.inl ⟨by rfl, ?_⟩) ?_ ?_
                          rotate_left
                          · intro w'
                            go_simp
                            with_reducible rfl
                          rotate_left
                          · simp only [Act.put, List.setIfInBounds_toArray, List.set_cons_zero, List.set_cons_succ, i64_w, i32_w]
                            rfl
                          refine take_ (i := 4) (N := some 36) (v := ?_) (a' := ?_) #[true, true, true, true, true, false, true, true, false, true, true, true, false, false, false, false, false, false] rfl rfl (take_ofW HT_.out HW_.out (by kernel_rfl)) (fun _ _ _ h => h) (Or.inl ⟨by rfl, ?_⟩) hHeld ?_ ?_
                          rotate_left
                          · rintro w' ⟨s0, s1⟩
                            go_simp
                            with_reducible rfl
                          rotate_left
                          · simp only [Act.put, List.setIfInBounds_toArray, List.set_cons_zero, List.set_cons_succ, i64_w, i32_w]
                            rfl
                          refine take_ (i := 12) (N := some 44) (v := ?_) (a' := ?_) #[true, true, true, true, true, false, true, true, false, true, true, true, true, false, false, false, false, false] rfl rfl (take_ofW HT_.out HW_.out (by kernel_rfl)) (fun _ _ _ h => h) (Or.inl ⟨by rfl, ?_⟩) hHeld ?_ ?_
                          rotate_left
                          · rintro w' ⟨s0, s1⟩
                            go_simp
                            with_reducible rfl
                          rotate_left
                          · simp only [Act.put, List.setIfInBounds_toArray, List.set_cons_zero, List.set_cons_succ, i64_w, i32_w]
                            rfl
                          refine one_ (i := 5) (N := some 37) #[true, true, true, true, true, true, true, true, false, true, true, true, true, false, false, false, false, false] rfl rfl (one_of HT_.out (by kernel_rfl)) (by decide) (fun K hK => ?_)
                          refine goes_ Try.func22 (by kernel_rfl) rfl #[.int .i64 (rd l2 x10_2), .int .i64 5] (by rfl) rfl rfl (by (try simp only [List.map_toArray, List.map_cons, List.map_nil]); first | done | rfl | (simp only [List.length_drop, List.length_take]; rfl)) ?_
                          with_reducible refine (vmfleetmake_Mix.calls (rd l2 x10_2) 5 t111 _ A16.out).mono ?_
                          rintro e w' ⟨rfl, ⟨nd, rfl⟩⟩
                          refine ⟨_, rfl, ?_⟩
                          refine hK.out _ _ ⟨((HB.out.cell (World.block_lt_of_cell? w _ hw110_0)).trans hw110_0), ((HB.out.cell (World.block_lt_of_cell? w _ hw113_0)).trans hw113_0)⟩ (fun hHeld => ?_)
                          clear hK K
                          refine norm_ (a' := ?_) ?_ ?_
                          rotate_left
                          · show Act.put _ (some 37) _ = _
                            simp only [Act.put, List.setIfInBounds_toArray, List.set_cons_zero, List.set_cons_succ, i64_w, i32_w]
                            rfl
                          refine one_ (i := 8) (N := some 40) #[true, true, true, true, true, true, true, true, true, true, true, true, true, false, false, false, false, false] rfl rfl (one_of HT_.out (by kernel_rfl)) (by decide) (fun K hK => ?_)
                          refine goes_ Try.func11 (by kernel_rfl) rfl #[.int .i64 t111, .int .i64 (x9_2.length : Int)] (by rfl) rfl rfl (by (try simp only [List.map_toArray, List.map_cons, List.map_nil]); first | done | rfl | (simp only [List.length_drop, List.length_take]; rfl)) ?_
                          with_reducible refine (vmfleetmake_Round.calls t111 (x9_2.length : Int) t112 _ A17.out).mono ?_
                          rintro e w' ⟨rfl, ⟨nd, rfl⟩⟩
                          refine ⟨_, rfl, ?_⟩
                          refine hK.out _ _ ⟨((HB.out.cell (World.block_lt_of_cell? w _ hw110_0)).trans hw110_0), ((HB.out.cell (World.block_lt_of_cell? w _ hw113_0)).trans hw113_0)⟩ (fun hHeld => ?_)
                          clear hK K
                          refine norm_ (a' := ?_) ?_ ?_
                          rotate_left
                          · show Act.put _ (some 40) _ = _
                            simp only [Act.put, List.setIfInBounds_toArray, List.set_cons_zero, List.set_cons_succ, i64_w, i32_w]
                            rfl
                          refine one_ (i := 13) (N := some 45) #[true, true, true, true, true, true, true, true, true, true, true, true, true, true, false, false, false, false] rfl rfl (one_of HT_.out (by kernel_rfl)) (by decide) (fun K hK => ?_)
                          refine goes_ Try.func22 (by kernel_rfl) rfl #[.int .i64 (rd l2 x10_2), .int .i64 6] (by rfl) rfl rfl (by (try simp only [List.map_toArray, List.map_cons, List.map_nil]); first | done | rfl | (simp only [List.length_drop, List.length_take]; rfl)) ?_
                          with_reducible refine (vmfleetmake_Mix.calls (rd l2 x10_2) 6 t114 _ A18.out).mono ?_
                          rintro e w' ⟨rfl, ⟨nd, rfl⟩⟩
                          refine ⟨_, rfl, ?_⟩
                          have p21 : 0 ≤ (t112 : Int) := of_decide_eq_true (by first | (with_reducible assumption) | assumption)
                          have q21 : (t112 : Int) < ((x9_2.length : Int) : Int) := of_decide_eq_true (by first | (with_reducible assumption) | assumption)
                          obtain ⟨go21, co21, eo21, gb21, gl21, cl21, HG21⟩ := Kd.R_form HO_9.out (by omega)
                          (first | cases eo21 | (injection eo21 with ea_ en_ ec_; (first | subst ea_ | (injection ea_ with ea_; subst ea_)); subst ec_; clear en_))
                          have GB21 := Aside0.mk gb21
                          have GG21 := Aside0.mk HG21
                          clear gb21 gl21 HG21
                          obtain ⟨hx21_0, hf21_0⟩ := Kd.R_celln 0 HO_9.out (t112 : Int) p21 q21
                          replace p21 := eq_true p21
                          replace q21 := eq_true q21
                          have HP24 := Kd.R_putn HO_9.out (t112 : Int) ((Go.bits .and .i64 t114 4294967295) % 4294967296)
                          rw [← Ny115.out] at HP24
                          have HQ24 := Aside0.mk HP24
                          clear HP24
                          refine hK.out _ _ ⟨((HB.out.cell (World.block_lt_of_cell? w _ hw110_0)).trans hw110_0), ((HB.out.cell (World.block_lt_of_cell? w _ hw113_0)).trans hw113_0)⟩ (fun hHeld => ?_)
                          clear hK K
                          refine norm_ (a' := ?_) ?_ ?_
                          rotate_left
                          · show Act.put _ (some 45) _ = _
                            simp only [Act.put, List.setIfInBounds_toArray, List.set_cons_zero, List.set_cons_succ, i64_w, i32_w]
                            rfl
                          refine pure_ (i := 14) (N := some 46) (v := ?_) (a' := ?_) #[true, true, true, true, true, true, true, true, true, true, true, true, true, true, true, false, false, false] rfl rfl (any_of HT_.out (by kernel_rfl)) (fun _ _ _ h => h) (Or.inl ⟨by rfl, ?_⟩) ?_ ?_
                          rotate_left
                          · intro w'
                            go_simp
                            with_reducible rfl
                          rotate_left
                          · simp only [Act.put, List.setIfInBounds_toArray, List.set_cons_zero, List.set_cons_succ, i64_w, i32_w]
                            rfl
                          refine pure_ (i := 15) (N := some 47) (v := ?_) (a' := ?_) #[true, true, true, true, true, true, true, true, true, true, true, true, true, true, true, true, false, false] rfl rfl (any_of HT_.out (by kernel_rfl)) (fun _ _ _ h => h) (Or.inl ⟨by rfl, ?_⟩) ?_ ?_
                          rotate_left
                          · intro w'
                            go_simp
                            with_reducible rfl
                          rotate_left
                          · simp only [Act.put, List.setIfInBounds_toArray, List.set_cons_zero, List.set_cons_succ, i64_w, i32_w]
                            rfl
                          refine pure_ (i := 16) (N := some 48) (v := ?_) (a' := ?_) #[true, true, true, true, true, true, true, true, true, true, true, true, true, true, true, true, true, false] rfl rfl (any_of HT_.out (by kernel_rfl)) (fun _ _ _ h => h) (Or.inl ⟨by rfl, ?_⟩) ?_ ?_
                          rotate_left
                          · intro w'
                            go_simp
                            with_reducible rfl
                          rotate_left
                          · simp only [Act.put, List.setIfInBounds_toArray, List.set_cons_zero, List.set_cons_succ, i64_w, i32_w]
                            rfl
                          refine last_ (i := 17) (N := none) #[true, true, true, true, true, true, true, true, true, true, true, true, true, true, true, true, true, true] rfl rfl (one_of HT_.out (by kernel_rfl)) (by decide) (fun K hK => ?_)
                          refine skip_ (w1 := ?_) (by rfl) rfl ?_ ?_
                          rotate_left
                          · go_simp
                            rfl
                          refine hK.out _ _ ?_
                          clear hK K
                          refine done_ (done_of HT_.out (by kernel_rfl)) ?_
                          try go_wp2
                          go_roundg kj10
                          case measure => have := HJ4.out; have := HK2.out; have := HJ10.out; omega
                          case rel => exact ⟨(y115), (wrap64 (x10_2 + 1)), (by first | rfl | (simp; done) | (simp [*]; done)), H', ⟨by have := HJ4.out; have := HK2.out; have := HJ10.out; omega⟩, ⟨by (with_reducible repeat (first | apply Kd.R_alloc | apply Kd.R_drewN | apply Kd.R_drew)); exact HQ24.out⟩, ⟨by repeat (first | (with_reducible first | exact HB.out | apply below_alloc | apply pw_below_drewN | apply below_drew1 | refine below_set ?_ GB21.out) | exact HB.out)⟩⟩
                        · rw [if_neg c20] at H
                          exact absurd H (by simp)
                      · rw [if_neg c19] at H
                        exact absurd H (by simp)
                    · rw [if_neg c15] at H
                      exact absurd H (by simp)
                  · rw [if_neg c14] at H
                    exact absurd H (by simp)
                · replace c13 := Bool.eq_false_iff.mpr c13
                  subst c13
                  have H1 : (some x9_2) = some r := by rw [if_neg (show ¬ (false = true) by decide)] at H; exact H
                  clear H
                  have H := H1
                  clear H1
                  obtain rfl := Option.some.inj H
                  go_wp2
                  go_ret
                  exact ⟨_, by first | rfl | (simp [errW_none, errW_some] <;> rfl) | (simp [*, errW_none, errW_some] <;> rfl), Kd.V_mono (Kd.R_V (by (with_reducible repeat (first | apply Kd.R_alloc | apply Kd.R_drewN | apply Kd.R_drew)); exact HO_9.out)) (fun k_ hk => by first | exact ⟨(.inr (hk.1)), hk.2⟩ | exact (.inr (hk))), by repeat (first | (with_reducible first | exact HB.out | apply below_alloc | apply pw_below_drewN | apply below_drew1) | exact HB.out)⟩

/-! ### memory_Pages: function 17 -/
def memory_Pages.f (l0 : List Int) : Option (Int) := if ((l0.length : Int) % 32) = 0 then (if (l0.length : Int) > 1024 then (some 0) else (some (wrap64 ((l0.length : Int) / 32)))) else (some 0)
set_option maxHeartbeats 8000000 in
set_option maxRecDepth 100000 in
theorem memory_Pages.calls (A0 : Option Addr) (c0 : Nat) (l0 : List Int) (r : Int) (w : World) (hr0 : Kd.C (Kd.int .u32) w A0 l0.length l0) (hc0 : l0.length ≤ c0) (h : memory_Pages.f l0 = some r) :
    Calls Try.prog 17 #[.slice A0 l0.length c0] w fun e w' => e = .returned (.int .i64 r) ∧ Drawn0 w w' := by
  have HR0 := Aside0.mk hr0
  have HC0 := Aside0.mk hc0
  clear hr0 hc0
  have H : (if ((l0.length : Int) % 32) = 0 then (if (l0.length : Int) > 1024 then (some 0) else (some (wrap64 ((l0.length : Int) / 32)))) else (some 0)) = some r := h
  clear h
  by_cases c2 : ((l0.length : Int) % 32) = 0
  · rw [if_pos c2] at H
    have c2b0 : (((l0.length : Int) % 32) == 0) = true := beq_iff_eq.mpr c2
    have c2b1 : (((l0.length : Int) % 32) != 0) = false := bne_eq_false_iff_eq.mpr c2
    clear c2
    by_cases c3 : (l0.length : Int) > 1024
    · rw [if_pos c3] at H
      have c3b0 : decide (1024 < (l0.length : Int)) = true := decide_eq_true c3
      have c3b1 : decide (1024 < l0.length) = true := decide_eq_true (by omega)
      clear c3
      obtain rfl := Option.some.inj H
      go_enter Try.func17, Try.ntmps17
      go_wp2
      go_ret
      exact ⟨by first | rfl | (simp; done) | (simp [*]; done), by repeat (first | exact Drawn0.refl _ | apply Drawn0.step)⟩
    · rw [if_neg c3] at H
      have c3b0 : decide (1024 < (l0.length : Int)) = false := decide_eq_false c3
      have c3b1 : decide (1024 < l0.length) = false := decide_eq_false (by omega)
      clear c3
      obtain rfl := Option.some.inj H
      go_enter Try.func17, Try.ntmps17
      go_wp2
      go_ret
      exact ⟨by first | rfl | (simp; done) | (simp [*]; done), by repeat (first | exact Drawn0.refl _ | apply Drawn0.step)⟩
  · rw [if_neg c2] at H
    have c2b0 : (((l0.length : Int) % 32) == 0) = false := beq_eq_false_iff_ne.mpr c2
    have c2b1 : (((l0.length : Int) % 32) != 0) = true := bne_iff_ne.mpr c2
    obtain rfl := Option.some.inj H
    go_enter Try.func17, Try.ntmps17
    go_wp2
    go_ret
    exact ⟨by first | rfl | (simp; done) | (simp [*]; done), by repeat (first | exact Drawn0.refl _ | apply Drawn0.step)⟩

/-! ### memory_within: function 33 -/
def memory_within.f (l0 : List Int) (a1 : Int) (a2 : Int) : Option (Bool) := if a2 = 1 then (if ((a2) % 4294967296) = 0 then (none) else (if (Int.tmod a1 ((a2) % 4294967296)) = 0 then ((memory_Pages.f l0).bind fun t116 => (some (decide ((IntKind.u64.wrap ((IntKind.u64.wrap (a1)) + (IntKind.u64.wrap (a2)))) ≤ (IntKind.u64.wrap (wrap64 (t116 * 128))))))) else (some false))) else (if a2 = 4 then (if ((a2) % 4294967296) = 0 then (none) else (if (Int.tmod a1 ((a2) % 4294967296)) = 0 then ((memory_Pages.f l0).bind fun t117 => (some (decide ((IntKind.u64.wrap ((IntKind.u64.wrap (a1)) + (IntKind.u64.wrap (a2)))) ≤ (IntKind.u64.wrap (wrap64 (t117 * 128))))))) else (some false))) else (some false))
set_option maxHeartbeats 8000000 in
set_option maxRecDepth 100000 in
theorem memory_within.calls (A0 : Option Addr) (c0 : Nat) (l0 : List Int) (a1 : Int) (a2 : Int) (r : Bool) (w : World) (hr0 : Kd.C (Kd.int .u32) w A0 l0.length l0) (hc0 : l0.length ≤ c0) (h : memory_within.f l0 a1 a2 = some r) :
    Calls Try.prog 33 #[.slice A0 l0.length c0, .int .u32 a1, .int .i64 a2] w fun e w' => e = .returned (.bool r) ∧ Drawn0 w w' := by
  have HR0 := Aside0.mk hr0
  have HC0 := Aside0.mk hc0
  clear hr0 hc0
  have H : (if a2 = 1 then (if ((a2) % 4294967296) = 0 then (none) else (if (Int.tmod a1 ((a2) % 4294967296)) = 0 then ((memory_Pages.f l0).bind fun t116 => (some (decide ((IntKind.u64.wrap ((IntKind.u64.wrap (a1)) + (IntKind.u64.wrap (a2)))) ≤ (IntKind.u64.wrap (wrap64 (t116 * 128))))))) else (some false))) else (if a2 = 4 then (if ((a2) % 4294967296) = 0 then (none) else (if (Int.tmod a1 ((a2) % 4294967296)) = 0 then ((memory_Pages.f l0).bind fun t117 => (some (decide ((IntKind.u64.wrap ((IntKind.u64.wrap (a1)) + (IntKind.u64.wrap (a2)))) ≤ (IntKind.u64.wrap (wrap64 (t117 * 128))))))) else (some false))) else (some false))) = some r := h
  clear h
  by_cases c4 : a2 = 1
  · rw [if_pos c4] at H
    have c4b0 : (a2 == 1) = true := beq_iff_eq.mpr c4
    have c4b1 : (a2 != 1) = false := bne_eq_false_iff_eq.mpr c4
    clear c4
    by_cases c5 : ((a2) % 4294967296) = 0
    · rw [if_pos c5] at H
      exact absurd H (by simp)
    · rw [if_neg c5] at H
      have c5b0 : (((a2) % 4294967296) == 0) = false := beq_eq_false_iff_ne.mpr c5
      have c5b1 : (((a2) % 4294967296) != 0) = true := bne_iff_ne.mpr c5
      by_cases c6 : (Int.tmod a1 ((a2) % 4294967296)) = 0
      · rw [if_pos c6] at H
        have c6b0 : ((Int.tmod a1 ((a2) % 4294967296)) == 0) = true := beq_iff_eq.mpr c6
        have c6b1 : ((Int.tmod a1 ((a2) % 4294967296)) != 0) = false := bne_eq_false_iff_eq.mpr c6
        clear c6
        replace H := Option.bind_eq_some_iff.mp H
        obtain ⟨t116, A70, H⟩ := H
        replace H : (some (decide ((IntKind.u64.wrap ((IntKind.u64.wrap (a1)) + (IntKind.u64.wrap (a2)))) ≤ (IntKind.u64.wrap (wrap64 (t116 * 128)))))) = some r := H
        have A7 := Aside0.mk A70
        clear A70
        obtain rfl := Option.some.inj H
        go_enter Try.func33, Try.ntmps33
        go_wp2_with (first | (go_at_call 17; (with_reducible refine (memory_Pages.calls _ _ l0 t116 _ ?side1 ?side2 A7.out).mono ?_); (case side1 => repeat (first | exact HR0.out | (with_reducible refine Kd.C_alloc ?_ _) | (with_reducible refine Kd.C_drewN ?_ _) | (with_reducible refine Kd.C_drew ?_))); (case side2 => exact HC0.out); rintro e w' ⟨rfl, ⟨nd, rfl⟩⟩))
        go_ret
        exact ⟨by first | rfl | (simp; done) | (simp [*]; done), by repeat (first | exact Drawn0.refl _ | apply Drawn0.step)⟩
      · rw [if_neg c6] at H
        have c6b0 : ((Int.tmod a1 ((a2) % 4294967296)) == 0) = false := beq_eq_false_iff_ne.mpr c6
        have c6b1 : ((Int.tmod a1 ((a2) % 4294967296)) != 0) = true := bne_iff_ne.mpr c6
        obtain rfl := Option.some.inj H
        go_enter Try.func33, Try.ntmps33
        go_wp2
        go_ret
        exact ⟨by first | rfl | (simp; done) | (simp [*]; done), by repeat (first | exact Drawn0.refl _ | apply Drawn0.step)⟩
  · rw [if_neg c4] at H
    have c4b0 : (a2 == 1) = false := beq_eq_false_iff_ne.mpr c4
    have c4b1 : (a2 != 1) = true := bne_iff_ne.mpr c4
    by_cases c8 : a2 = 4
    · rw [if_pos c8] at H
      have c8b0 : (a2 == 4) = true := beq_iff_eq.mpr c8
      have c8b1 : (a2 != 4) = false := bne_eq_false_iff_eq.mpr c8
      clear c8
      by_cases c9 : ((a2) % 4294967296) = 0
      · rw [if_pos c9] at H
        exact absurd H (by simp)
      · rw [if_neg c9] at H
        have c9b0 : (((a2) % 4294967296) == 0) = false := beq_eq_false_iff_ne.mpr c9
        have c9b1 : (((a2) % 4294967296) != 0) = true := bne_iff_ne.mpr c9
        by_cases c10 : (Int.tmod a1 ((a2) % 4294967296)) = 0
        · rw [if_pos c10] at H
          have c10b0 : ((Int.tmod a1 ((a2) % 4294967296)) == 0) = true := beq_iff_eq.mpr c10
          have c10b1 : ((Int.tmod a1 ((a2) % 4294967296)) != 0) = false := bne_eq_false_iff_eq.mpr c10
          clear c10
          replace H := Option.bind_eq_some_iff.mp H
          obtain ⟨t117, A110, H⟩ := H
          replace H : (some (decide ((IntKind.u64.wrap ((IntKind.u64.wrap (a1)) + (IntKind.u64.wrap (a2)))) ≤ (IntKind.u64.wrap (wrap64 (t117 * 128)))))) = some r := H
          have A11 := Aside0.mk A110
          clear A110
          obtain rfl := Option.some.inj H
          go_enter Try.func33, Try.ntmps33
          go_wp2_with (first | (go_at_call 17; (with_reducible refine (memory_Pages.calls _ _ l0 t117 _ ?side1 ?side2 A11.out).mono ?_); (case side1 => repeat (first | exact HR0.out | (with_reducible refine Kd.C_alloc ?_ _) | (with_reducible refine Kd.C_drewN ?_ _) | (with_reducible refine Kd.C_drew ?_))); (case side2 => exact HC0.out); rintro e w' ⟨rfl, ⟨nd, rfl⟩⟩))
          go_ret
          exact ⟨by first | rfl | (simp; done) | (simp [*]; done), by repeat (first | exact Drawn0.refl _ | apply Drawn0.step)⟩
        · rw [if_neg c10] at H
          have c10b0 : ((Int.tmod a1 ((a2) % 4294967296)) == 0) = false := beq_eq_false_iff_ne.mpr c10
          have c10b1 : ((Int.tmod a1 ((a2) % 4294967296)) != 0) = true := bne_iff_ne.mpr c10
          obtain rfl := Option.some.inj H
          go_enter Try.func33, Try.ntmps33
          go_wp2
          go_ret
          exact ⟨by first | rfl | (simp; done) | (simp [*]; done), by repeat (first | exact Drawn0.refl _ | apply Drawn0.step)⟩
    · rw [if_neg c8] at H
      have c8b0 : (a2 == 4) = false := beq_eq_false_iff_ne.mpr c8
      have c8b1 : (a2 != 4) = true := bne_iff_ne.mpr c8
      obtain rfl := Option.some.inj H
      go_enter Try.func33, Try.ntmps33
      go_wp2
      go_ret
      exact ⟨by first | rfl | (simp; done) | (simp [*]; done), by repeat (first | exact Drawn0.refl _ | apply Drawn0.step)⟩

/-! ### bits_outside: function 47 -/
def bits_outside.f (a0 : Int) (a1 : Int) : Option (Bool) := if a0 < 0 then (some true) else (if a0 > 31 then (some true) else (some (decide (a1 < 1))))
set_option maxHeartbeats 8000000 in
set_option maxRecDepth 100000 in
theorem bits_outside.calls (a0 : Int) (a1 : Int) (r : Bool) (w : World) (h : bits_outside.f a0 a1 = some r) :
    Calls Try.prog 47 #[.int .i64 a0, .int .i64 a1] w fun e w' => e = .returned (.bool r) ∧ Drawn0 w w' := by
  have H : (if a0 < 0 then (some true) else (if a0 > 31 then (some true) else (some (decide (a1 < 1))))) = some r := h
  clear h
  by_cases c3 : a0 < 0
  · rw [if_pos c3] at H
    have c3b0 : decide (a0 < 0) = true := decide_eq_true c3
    clear c3
    obtain rfl := Option.some.inj H
    go_enter Try.func47, Try.ntmps47
    go_wp2
    go_ret
    exact ⟨by first | rfl | (simp; done) | (simp [*]; done), by repeat (first | exact Drawn0.refl _ | apply Drawn0.step)⟩
  · rw [if_neg c3] at H
    have c3b0 : decide (a0 < 0) = false := decide_eq_false c3
    clear c3
    by_cases c4 : a0 > 31
    · rw [if_pos c4] at H
      have c4b0 : decide (31 < a0) = true := decide_eq_true c4
      clear c4
      obtain rfl := Option.some.inj H
      go_enter Try.func47, Try.ntmps47
      go_wp2
      go_ret
      exact ⟨by first | rfl | (simp; done) | (simp [*]; done), by repeat (first | exact Drawn0.refl _ | apply Drawn0.step)⟩
    · rw [if_neg c4] at H
      have c4b0 : decide (31 < a0) = false := decide_eq_false c4
      clear c4
      obtain rfl := Option.some.inj H
      go_enter Try.func47, Try.ntmps47
      go_wp2
      go_ret
      exact ⟨by first | rfl | (simp; done) | (simp [*]; done), by repeat (first | exact Drawn0.refl _ | apply Drawn0.step)⟩

/-! ### bits_mask: function 48 -/
def bits_mask.f (a0 : Int) : Option (Int) := if a0 ≥ 32 then (some 4294967295) else (if 0 ≤ a0 then (some (((shl .u32 1 a0) - 1) % 4294967296)) else (none))
set_option maxHeartbeats 8000000 in
set_option maxRecDepth 100000 in
theorem bits_mask.calls (a0 : Int) (r : Int) (w : World) (h : bits_mask.f a0 = some r) :
    Calls Try.prog 48 #[.int .i64 a0] w fun e w' => e = .returned (.int .u32 r) ∧ Drawn0 w w' := by
  have H : (if a0 ≥ 32 then (some 4294967295) else (if 0 ≤ a0 then (some (((shl .u32 1 a0) - 1) % 4294967296)) else (none))) = some r := h
  clear h
  by_cases c2 : a0 ≥ 32
  · rw [if_pos c2] at H
    have c2b0 : decide (32 ≤ a0) = true := decide_eq_true c2
    clear c2
    obtain rfl := Option.some.inj H
    go_enter Try.func48, Try.ntmps48
    go_wp2
    go_ret
    exact ⟨by first | rfl | (simp; done) | (simp [*]; done), by repeat (first | exact Drawn0.refl _ | apply Drawn0.step)⟩
  · rw [if_neg c2] at H
    have c2b0 : decide (32 ≤ a0) = false := decide_eq_false c2
    clear c2
    by_cases c3 : 0 ≤ a0
    · rw [if_pos c3] at H
      have c3b0 := eq_true c3
      have c3b1 : decide (0 ≤ a0) = true := decide_eq_true c3
      clear c3
      obtain ⟨ji4, hji4⟩ : ∃ j_ : Int, (shl .u32 1 a0) = j_ := ⟨_, rfl⟩
      replace H : (some (((ji4) - 1) % 4294967296)) = some r := by first | (rw [hji4] at H; exact H) | (simp only [hji4] at H ⊢; exact H)
      have hji4_ : (IntKind.u32.wrap (1 * 2 ^ min a0.toNat 32)) = ji4 := hji4
      have hji4z : a0 ≤ 32 → (IntKind.u32.wrap (1 * 2 ^ a0.toNat)) = ji4 := shl_small hji4
      have hji4u : (IntKind.u32.wrap (2 ^ min a0.toNat 32)) = ji4 := by have h_ := hji4_; rw [Int.one_mul] at h_; exact h_
      have hji4v : a0 ≤ 32 → (IntKind.u32.wrap (2 ^ a0.toNat)) = ji4 := fun hle_ => by have h_ := hji4z hle_; rw [Int.one_mul] at h_; exact h_
      obtain rfl := Option.some.inj H
      go_enter Try.func48, Try.ntmps48
      go_wp2
      go_ret
      exact ⟨by first | rfl | (simp; done) | (simp only [← hji4] <;> (first | rfl | simp)) | (simp [*]; done), by repeat (first | exact Drawn0.refl _ | apply Drawn0.step)⟩
    · rw [if_neg c3] at H
      exact absurd H (by simp)

/-! ### bits_Field: function 34 -/
def bits_Field.f (a0 : Int) (a1 : Int) (a2 : Int) : Option (Int) := (bits_outside.f a1 a2).bind fun t118 => (if t118 = true then (some 0) else (if 0 ≤ a1 then ((bits_mask.f a2).bind fun t119 => (some (Go.bits .and .u32 (shr .u32 a0 a1) t119))) else (none)))
set_option maxHeartbeats 8000000 in
set_option maxRecDepth 100000 in
theorem bits_Field.calls (a0 : Int) (a1 : Int) (a2 : Int) (r : Int) (w : World) (h : bits_Field.f a0 a1 a2 = some r) :
    Calls Try.prog 34 #[.int .u32 a0, .int .i64 a1, .int .i64 a2] w fun e w' => e = .returned (.int .u32 r) ∧ Drawn0 w w' := by
  have H : ((bits_outside.f a1 a2).bind fun t118 => (if t118 = true then (some 0) else (if 0 ≤ a1 then ((bits_mask.f a2).bind fun t119 => (some (Go.bits .and .u32 (shr .u32 a0 a1) t119))) else (none)))) = some r := h
  clear h
  replace H := Option.bind_eq_some_iff.mp H
  obtain ⟨t118, A40, H⟩ := H
  replace H : (if t118 = true then (some 0) else (if 0 ≤ a1 then ((bits_mask.f a2).bind fun t119 => (some (Go.bits .and .u32 (shr .u32 a0 a1) t119))) else (none))) = some r := H
  have A4 := Aside0.mk A40
  clear A40
  by_cases c5 : t118 = true
  · subst c5
    have H1 : (some 0) = some r := by rw [if_pos rfl] at H; exact H
    clear H
    have H := H1
    clear H1
    obtain rfl := Option.some.inj H
    go_enter Try.func34, Try.ntmps34
    go_wp2_with (first | (go_at_call 47; (with_reducible refine (bits_outside.calls a1 a2 true _ A4.out).mono ?_); rintro e w' ⟨rfl, ⟨nd, rfl⟩⟩; (try first | exact ⟨rfl, _, World.drewN_drewN _ _ _⟩ | exact ⟨rfl, _, Eq.trans (World.drewN_drewN _ _ _) (congrArg (World.drewN _) (Nat.add_assoc _ _ _))⟩)))
    repeat (go_quiet (first | (go_at_call 47; (with_reducible refine (bits_outside.calls a1 a2 true _ A4.out).mono ?_); rintro e w' ⟨rfl, ⟨nd, rfl⟩⟩; (try first | exact ⟨rfl, _, World.drewN_drewN _ _ _⟩ | exact ⟨rfl, _, Eq.trans (World.drewN_drewN _ _ _) (congrArg (World.drewN _) (Nat.add_assoc _ _ _))⟩))); try go_wp2_with (first | (go_at_call 47; (with_reducible refine (bits_outside.calls a1 a2 true _ A4.out).mono ?_); rintro e w' ⟨rfl, ⟨nd, rfl⟩⟩; (try first | exact ⟨rfl, _, World.drewN_drewN _ _ _⟩ | exact ⟨rfl, _, Eq.trans (World.drewN_drewN _ _ _) (congrArg (World.drewN _) (Nat.add_assoc _ _ _))⟩))))
    go_ret
    exact ⟨by first | rfl | (simp; done) | (simp [*]; done), by repeat (first | exact Drawn0.refl _ | apply Drawn0.step)⟩
  · replace c5 := Bool.eq_false_iff.mpr c5
    subst c5
    have H1 : (if 0 ≤ a1 then ((bits_mask.f a2).bind fun t119 => (some (Go.bits .and .u32 (shr .u32 a0 a1) t119))) else (none)) = some r := by rw [if_neg (show ¬ (false = true) by decide)] at H; exact H
    clear H
    have H := H1
    clear H1
    by_cases c6 : 0 ≤ a1
    · rw [if_pos c6] at H
      have c6b0 := eq_true c6
      have c6b1 : decide (0 ≤ a1) = true := decide_eq_true c6
      clear c6
      obtain ⟨ji7, hji7⟩ : ∃ j_ : Int, (shr .u32 a0 a1) = j_ := ⟨_, rfl⟩
      replace H : ((bits_mask.f a2).bind fun t119 => (some (Go.bits .and .u32 (ji7) t119))) = some r := by first | (rw [hji7] at H; exact H) | (simp only [hji7] at H ⊢; exact H)
      (try rw [hji7] at A4)
      have hji7_ : (a0 / 2 ^ min a1.toNat 32) = ji7 := hji7
      have hji7z : a1 ≤ 32 → (a0 / 2 ^ a1.toNat) = ji7 := shr_small hji7
      replace H := Option.bind_eq_some_iff.mp H
      obtain ⟨t119, A80, H⟩ := H
      replace H : (some (Go.bits .and .u32 (ji7) t119)) = some r := H
      have A8 := Aside0.mk A80
      clear A80
      obtain rfl := Option.some.inj H
      go_enter Try.func34, Try.ntmps34
      go_wp2_with (first | (go_at_call 47; (with_reducible refine (bits_outside.calls a1 a2 false _ A4.out).mono ?_); rintro e w' ⟨rfl, ⟨nd, rfl⟩⟩; (try first | exact ⟨rfl, _, World.drewN_drewN _ _ _⟩ | exact ⟨rfl, _, Eq.trans (World.drewN_drewN _ _ _) (congrArg (World.drewN _) (Nat.add_assoc _ _ _))⟩)) | (go_at_call 48; (with_reducible refine (bits_mask.calls a2 t119 _ A8.out).mono ?_); rintro e w' ⟨rfl, ⟨nd, rfl⟩⟩; (try first | exact ⟨rfl, _, World.drewN_drewN _ _ _⟩ | exact ⟨rfl, _, Eq.trans (World.drewN_drewN _ _ _) (congrArg (World.drewN _) (Nat.add_assoc _ _ _))⟩)))
      repeat (go_quiet (first | (go_at_call 47; (with_reducible refine (bits_outside.calls a1 a2 false _ A4.out).mono ?_); rintro e w' ⟨rfl, ⟨nd, rfl⟩⟩; (try first | exact ⟨rfl, _, World.drewN_drewN _ _ _⟩ | exact ⟨rfl, _, Eq.trans (World.drewN_drewN _ _ _) (congrArg (World.drewN _) (Nat.add_assoc _ _ _))⟩)) | (go_at_call 48; (with_reducible refine (bits_mask.calls a2 t119 _ A8.out).mono ?_); rintro e w' ⟨rfl, ⟨nd, rfl⟩⟩; (try first | exact ⟨rfl, _, World.drewN_drewN _ _ _⟩ | exact ⟨rfl, _, Eq.trans (World.drewN_drewN _ _ _) (congrArg (World.drewN _) (Nat.add_assoc _ _ _))⟩))); try go_wp2_with (first | (go_at_call 47; (with_reducible refine (bits_outside.calls a1 a2 false _ A4.out).mono ?_); rintro e w' ⟨rfl, ⟨nd, rfl⟩⟩; (try first | exact ⟨rfl, _, World.drewN_drewN _ _ _⟩ | exact ⟨rfl, _, Eq.trans (World.drewN_drewN _ _ _) (congrArg (World.drewN _) (Nat.add_assoc _ _ _))⟩)) | (go_at_call 48; (with_reducible refine (bits_mask.calls a2 t119 _ A8.out).mono ?_); rintro e w' ⟨rfl, ⟨nd, rfl⟩⟩; (try first | exact ⟨rfl, _, World.drewN_drewN _ _ _⟩ | exact ⟨rfl, _, Eq.trans (World.drewN_drewN _ _ _) (congrArg (World.drewN _) (Nat.add_assoc _ _ _))⟩))))
      go_ret
      exact ⟨by first | rfl | (simp; done) | (simp only [← hji7] <;> (first | rfl | simp)) | (simp [*]; done), by repeat (first | exact Drawn0.refl _ | apply Drawn0.step)⟩
    · rw [if_neg c6] at H
      exact absurd H (by simp)

end Go.Proofs.Ytdaeflafdnlceaa.HMemoryOrders
