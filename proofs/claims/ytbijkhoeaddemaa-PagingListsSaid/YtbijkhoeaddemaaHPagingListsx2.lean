-- Written for this claim by wip/hook.py, by means of the kit's print and of hand-proved contracts.
import Derived.Test.YtbijkhoeaddemaaHPagingListsx0
namespace Go.Proofs.Ytbijkhoeaddemaa.HPagingLists
open Go.RowKit Go.Proofs.YtbijkhoeaddemaaW.PrintWords Go.Proofs.YtbijkhoeaddemaaW.PrintLast Go.Proofs.YtbijkhoeaddemaaW.PrintMore
attribute [local go_sem] max2_int min2_int max_two min_two max_three min_three max_four min_four   -- for this text's walks alone
attribute [local go_sem] Instr.field asAgg
set_option linter.unusedVariables false
set_option linter.unusedSimpArgs false

/-! ### vmfleetmake_Round: function 11 -/
def vmfleetmake_Round.f (a0 : Int) (a1 : Int) : Option (Int) := if a1 = 0 then (none) else (if (Int.tmod a0 a1) < 0 then (some (wrap64 ((Int.tmod a0 a1) + a1))) else (some (Int.tmod a0 a1)))
set_option maxHeartbeats 8000000 in
set_option maxRecDepth 100000 in
theorem vmfleetmake_Round.calls (a0 : Int) (a1 : Int) (r : Int) (w : World) (h : vmfleetmake_Round.f a0 a1 = some r) :
    Calls Try.prog 11 #[.int .i64 a0, .int .i64 a1] w fun e w' => e = .returned (.int .i64 r) ∧ Drawn0 w w' := by
  have H : (if a1 = 0 then (none) else (if (Int.tmod a0 a1) < 0 then (some (wrap64 ((Int.tmod a0 a1) + a1))) else (some (Int.tmod a0 a1)))) = some r := h
  clear h
  by_cases c3 : a1 = 0
  · rw [if_pos c3] at H
    exact absurd H (by simp)
  · rw [if_neg c3] at H
    have c3b0 : (a1 == 0) = false := beq_eq_false_iff_ne.mpr c3
    have c3b1 : (a1 != 0) = true := bne_iff_ne.mpr c3
    by_cases c4 : (Int.tmod a0 a1) < 0
    · rw [if_pos c4] at H
      have c4b0 : decide ((Int.tmod a0 a1) < 0) = true := decide_eq_true c4
      clear c4
      obtain rfl := Option.some.inj H
      go_enter Try.func11, Try.ntmps11
      go_wp2
      go_ret
      exact ⟨by first | rfl | (simp; done) | (simp [*]; done), by repeat (first | exact Drawn0.refl _ | apply Drawn0.step)⟩
    · rw [if_neg c4] at H
      have c4b0 : decide ((Int.tmod a0 a1) < 0) = false := decide_eq_false c4
      clear c4
      obtain rfl := Option.some.inj H
      go_enter Try.func11, Try.ntmps11
      go_wp2
      go_ret
      exact ⟨by first | rfl | (simp; done) | (simp [*]; done), by repeat (first | exact Drawn0.refl _ | apply Drawn0.step)⟩

/-! ### vmfleetref1_New: function 22 -/
def vmfleetref1_New.f (a0 : Int) : Option (List Int) := if a0 < 1 then (some ([] : List Int)) else (if a0 > 32 then (some ([] : List Int)) else (if 0 ≤ (wrap64 (a0 * 32)) then (if (wrap64 (a0 * 32) : Int).toNat ≤ 70368744177664 then (some (List.replicate (wrap64 (a0 * 32) : Int).toNat 0)) else (none)) else (none)))
set_option maxHeartbeats 8000000 in
set_option maxRecDepth 100000 in
theorem vmfleetref1_New.calls (a0 : Int) (r : List Int) (w : World) (h : vmfleetref1_New.f a0 = some r) :
    Calls Try.prog 22 #[.int .i64 a0] w fun e w' => ∃ v0_ : Value, e = .returned (v0_) ∧ Kd.R (Kd.int .u32) 23 w' w.heap.size (fun _ => True) v0_ r ∧ Below w.heap.size w w' := by
  have HB := Aside0.mk (Below.refl w.heap.size w)
  have H : (if a0 < 1 then (some ([] : List Int)) else (if a0 > 32 then (some ([] : List Int)) else (if 0 ≤ (wrap64 (a0 * 32)) then (if (wrap64 (a0 * 32) : Int).toNat ≤ 70368744177664 then (some (List.replicate (wrap64 (a0 * 32) : Int).toNat 0)) else (none)) else (none)))) = some r := h
  clear h
  by_cases c2 : a0 < 1
  · rw [if_pos c2] at H
    have c2b0 : decide (a0 < 1) = true := decide_eq_true c2
    clear c2
    obtain rfl := Option.some.inj H
    go_enter Try.func22, Try.ntmps22
    go_wp2
    go_ret
    exact ⟨_, by first | rfl | (simp [errW_none, errW_some] <;> rfl) | (simp [*, errW_none, errW_some] <;> rfl), by first | exact Kd.R_nil _ _ _ _ _ | exact Kd.N_nil _ _ _ _ _ | exact Kd.V_nil _ _ _ _ _ | exact Kd.Q_nil _ _ _ _ _ | exact Kd.S_nil _ _ _ _ _, by repeat (first | (with_reducible first | exact HB.out | apply below_alloc | apply pw_below_drewN | apply below_drew1) | exact HB.out)⟩
  · rw [if_neg c2] at H
    have c2b0 : decide (a0 < 1) = false := decide_eq_false c2
    clear c2
    by_cases c3 : a0 > 32
    · rw [if_pos c3] at H
      have c3b0 : decide (32 < a0) = true := decide_eq_true c3
      clear c3
      obtain rfl := Option.some.inj H
      go_enter Try.func22, Try.ntmps22
      go_wp2
      go_ret
      exact ⟨_, by first | rfl | (simp [errW_none, errW_some] <;> rfl) | (simp [*, errW_none, errW_some] <;> rfl), by first | exact Kd.R_nil _ _ _ _ _ | exact Kd.N_nil _ _ _ _ _ | exact Kd.V_nil _ _ _ _ _ | exact Kd.Q_nil _ _ _ _ _ | exact Kd.S_nil _ _ _ _ _, by repeat (first | (with_reducible first | exact HB.out | apply below_alloc | apply pw_below_drewN | apply below_drew1) | exact HB.out)⟩
    · rw [if_neg c3] at H
      have c3b0 : decide (32 < a0) = false := decide_eq_false c3
      clear c3
      obtain ⟨ji4, hji4⟩ : ∃ j_ : Int, (wrap64 (a0 * 32)) = j_ := ⟨_, rfl⟩
      replace H : (if 0 ≤ (ji4) then (if (ji4 : Int).toNat ≤ 70368744177664 then (some (List.replicate (ji4 : Int).toNat 0)) else (none)) else (none)) = some r := by first | (rw [hji4] at H; exact H) | (simp only [hji4] at H ⊢; exact H)
      have hji4w : (IntKind.i64.wrap (a0 * 32)) = ji4 := (i64_w _).trans hji4
      by_cases c5 : 0 ≤ (ji4)
      · rw [if_pos c5] at H
        have c5b0 := eq_true c5
        have c5b1 : decide (0 ≤ (ji4)) = true := decide_eq_true c5
        clear c5
        by_cases c6 : (ji4 : Int).toNat ≤ 70368744177664
        · rw [if_pos c6] at H
          have c6b0 := eq_true c6
          have c6b1 : decide ((ji4 : Int).toNat ≤ 70368744177664) = true := decide_eq_true c6
          clear c6
          obtain ⟨y101, hy101⟩ : ∃ y_ : List Int, y_ = (List.replicate (ji4 : Int).toNat 0) := ⟨_, rfl⟩
          replace H : (some y101) = some r := by first | (rw [hy101]; with_reducible exact H) | (have H2_ := (Option.bind_some _ _).symm.trans H; rw [hy101]; with_reducible exact H2_) | (have H2_ := (Option.bind_some _ _).symm.trans H; with_reducible exact H2_) | with_reducible exact H | (rw [hy101]; exact H) | exact H
          have Ny101 := Aside0.mk hy101
          clear hy101
          obtain rfl := Option.some.inj H
          go_enter Try.func22, Try.ntmps22
          go_wp2_with (first | ((with_reducible refine gate_dst (N := 11) rfl ?_); refine Kd.R_make (Kd.int .u32) _ 23 rfl (N := 11) rfl 24 _ _ rfl ji4 rfl rfl Try.underlying24 (.int .u32 0) 4 info23 rfl (by decide) (by omega) 0 (ok := fun _ => True) (okp := fun _ => True) rfl (fun _ hk => hk) trivial (of_decide_eq_true (by first | (with_reducible assumption) | assumption)) (Nat.le_trans (Nat.mul_le_mul_right _ (of_decide_eq_true (by first | (with_reducible assumption) | assumption) : ji4.toNat ≤ 70368744177664)) (by omega)) (Below.refl _ _) (Nat.le_refl _) ?_; intro v102 w7 ho8 hb hg_ hnew_; clear hg_ hnew_; (first | rw [← Ny101.out] at ho8 | (simp only [Int.reduceToNat] at ho8; rw [← Ny101.out] at ho8)); have n0_ := Aside0.mk (Kd.R_lower ho8 (below_size (by repeat (first | (with_reducible first | exact HB.out | apply below_alloc | apply pw_below_drewN | apply below_drew1) | exact HB.out)))); have n1_ := Aside0.mk (below_step (by repeat (first | (with_reducible first | exact HB.out | apply below_alloc | apply pw_below_drewN | apply below_drew1) | exact HB.out)) hb); clear HB; have HO103 := n0_; have HB := n1_; clear n0_ n1_; clear hb ho8))
          go_ret
          exact ⟨_, by first | rfl | (simp [errW_none, errW_some] <;> rfl) | (simp only [← hji4]; first | rfl | (simp [errW_none, errW_some] <;> rfl)) | (simp [*, errW_none, errW_some] <;> rfl), by (with_reducible repeat (first | apply Kd.R_alloc | apply Kd.R_drewN | apply Kd.R_drew)); exact HO103.out, by repeat (first | (with_reducible first | exact HB.out | apply below_alloc | apply pw_below_drewN | apply below_drew1) | exact HB.out)⟩
        · rw [if_neg c6] at H
          exact absurd H (by simp)
      · rw [if_neg c5] at H
        exact absurd H (by simp)

/-! ### vmfleetref1_Next: function 32 -/
def vmfleetref1_Next.f (a0 : Int) : Option (Int × Int) := some (Go.bits .xor .u64 (IntKind.u64.wrap ((Go.bits .xor .u64 (IntKind.u64.wrap ((Go.bits .xor .u64 (IntKind.u64.wrap (a0 + 11400714819323198485)) ((IntKind.u64.wrap (a0 + 11400714819323198485)) / 1073741824)) * 13787848793156543929)) ((IntKind.u64.wrap ((Go.bits .xor .u64 (IntKind.u64.wrap (a0 + 11400714819323198485)) ((IntKind.u64.wrap (a0 + 11400714819323198485)) / 1073741824)) * 13787848793156543929)) / 134217728)) * 10723151780598845931)) ((IntKind.u64.wrap ((Go.bits .xor .u64 (IntKind.u64.wrap ((Go.bits .xor .u64 (IntKind.u64.wrap (a0 + 11400714819323198485)) ((IntKind.u64.wrap (a0 + 11400714819323198485)) / 1073741824)) * 13787848793156543929)) ((IntKind.u64.wrap ((Go.bits .xor .u64 (IntKind.u64.wrap (a0 + 11400714819323198485)) ((IntKind.u64.wrap (a0 + 11400714819323198485)) / 1073741824)) * 13787848793156543929)) / 134217728)) * 10723151780598845931)) / 2147483648), IntKind.u64.wrap (a0 + 11400714819323198485))
set_option maxHeartbeats 8000000 in
set_option maxRecDepth 100000 in
theorem vmfleetref1_Next.calls (a0 : Int) (r1 : Int) (r2 : Int) (w : World) (h : vmfleetref1_Next.f a0 = some (r1, r2)) :
    Calls Try.prog 32 #[.int .u64 a0] w fun e w' => e = .returned (.tuple #[.int .u64 r1, .int .u64 r2]) ∧ Drawn0 w w' := by
  have H : (some (Go.bits .xor .u64 (IntKind.u64.wrap ((Go.bits .xor .u64 (IntKind.u64.wrap ((Go.bits .xor .u64 (IntKind.u64.wrap (a0 + 11400714819323198485)) ((IntKind.u64.wrap (a0 + 11400714819323198485)) / 1073741824)) * 13787848793156543929)) ((IntKind.u64.wrap ((Go.bits .xor .u64 (IntKind.u64.wrap (a0 + 11400714819323198485)) ((IntKind.u64.wrap (a0 + 11400714819323198485)) / 1073741824)) * 13787848793156543929)) / 134217728)) * 10723151780598845931)) ((IntKind.u64.wrap ((Go.bits .xor .u64 (IntKind.u64.wrap ((Go.bits .xor .u64 (IntKind.u64.wrap (a0 + 11400714819323198485)) ((IntKind.u64.wrap (a0 + 11400714819323198485)) / 1073741824)) * 13787848793156543929)) ((IntKind.u64.wrap ((Go.bits .xor .u64 (IntKind.u64.wrap (a0 + 11400714819323198485)) ((IntKind.u64.wrap (a0 + 11400714819323198485)) / 1073741824)) * 13787848793156543929)) / 134217728)) * 10723151780598845931)) / 2147483648), IntKind.u64.wrap (a0 + 11400714819323198485))) = some (r1, r2) := h
  clear h
  simp only [Option.some.injEq, Prod.mk.injEq] at H
  obtain ⟨rfl, rfl⟩ := H
  go_enter Try.func32, Try.ntmps32
  go_wp2
  go_ret2
  exact ⟨by first | rfl | (simp; done) | (simp [*]; done), by repeat (first | exact Drawn0.refl _ | apply Drawn0.step)⟩

/-! ### vmfleetmake_Mix: function 23 -/
def vmfleetmake_Mix.f (a0 : Int) (a1 : Int) : Option (Int) := (vmfleetref1_Next.f (Go.bits .xor .u64 (IntKind.u64.wrap (a0)) (IntKind.u64.wrap ((IntKind.u64.wrap (a1)) * 11400714819323198485)))).bind fun bt104 => (some (wrap64 (bt104.1 / 2)))
set_option maxHeartbeats 8000000 in
set_option maxRecDepth 100000 in
theorem vmfleetmake_Mix.calls (a0 : Int) (a1 : Int) (r : Int) (w : World) (h : vmfleetmake_Mix.f a0 a1 = some r) :
    Calls Try.prog 23 #[.int .i64 a0, .int .i64 a1] w fun e w' => e = .returned (.int .i64 r) ∧ Drawn0 w w' := by
  have H : ((vmfleetref1_Next.f (Go.bits .xor .u64 (IntKind.u64.wrap (a0)) (IntKind.u64.wrap ((IntKind.u64.wrap (a1)) * 11400714819323198485)))).bind fun bt104 => (some (wrap64 (bt104.1 / 2)))) = some r := h
  clear h
  replace H := Option.bind_eq_some_iff.mp H
  obtain ⟨⟨t104, t105⟩, A30, H⟩ := H
  replace H : (some (wrap64 (t104 / 2))) = some r := H
  have A3 := Aside0.mk A30
  clear A30
  obtain rfl := Option.some.inj H
  go_enter Try.func23, Try.ntmps23
  go_wp2_with (first | ((with_reducible refine gate_callee (f := 32) rfl ?_); refine goesL_ (some 14) rfl rfl Try.func32 (by kernel_rfl) rfl #[.int .u64 (Go.bits .xor .u64 (IntKind.u64.wrap (a0)) (IntKind.u64.wrap ((IntKind.u64.wrap (a1)) * 11400714819323198485)))] rfl (by (try simp only [List.map_toArray, List.map_cons, List.map_nil]); first | done | rfl | (simp only [List.length_drop, List.length_take]; rfl)) ?_; (with_reducible refine (vmfleetref1_Next.calls (Go.bits .xor .u64 (IntKind.u64.wrap (a0)) (IntKind.u64.wrap ((IntKind.u64.wrap (a1)) * 11400714819323198485))) t104 t105 _ A3.out).mono ?_); rintro e w' ⟨rfl, ⟨nd, rfl⟩⟩; refine ⟨_, rfl, ?_⟩))
  go_ret
  exact ⟨by first | rfl | (simp; done) | (simp [*]; done), by repeat (first | exact Drawn0.refl _ | apply Drawn0.step)⟩

/-! ### vmfleetlaw5_tables: function 9 -/
mutual
def vmfleetlaw5_tables.l0 : Nat → List Int → List Int → Int → Option (List Int)
  | 0, _, _, _ => none
  | k + 1, x0, x5, x6 => if x6 < (x0.length : Int) then (vmfleetlaw5_tables.j1 k x0 x5 x6 (decide (x6 < 60))) else (vmfleetlaw5_tables.j1 k x0 x5 x6 false)
def vmfleetlaw5_tables.j1 : Nat → List Int → List Int → Int → Bool → Option (List Int)
  | 0, _, _, _, _ => none
  | k + 1, x0, x5, x6, x20 => if x20 = true then (if 0 ≤ x6 then (if x6 < (x0.length : Int) then ((vmfleetmake_Mix.f (rd x0 x6) 9).bind fun t111 => ((vmfleetmake_Round.f t111 (x5.length : Int)).bind fun t112 => (if 0 ≤ t112 then (if t112 < (x5.length : Int) then ((some (x5.set (t112 : Int).toNat (Go.bits .or .u32 ((Go.bits .and .i64 (t111 / 65536) 31) % 4294967296) ((((Go.bits .and .i64 (t111 / 16777216) 15) % 4294967296) * 256) % 4294967296)) : List Int)).bind fun y113 => (if (Int.tmod (rd x0 x6) 5) = 0 then (vmfleetlaw5_tables.l0 k x0 (y113.set (t112 : Int).toNat ((Go.bits .and .i64 (t111 / 1048576) 4294967295) % 4294967296)) (wrap64 (x6 + 1))) else (vmfleetlaw5_tables.l0 k x0 y113 (wrap64 (x6 + 1))))) else (none)) else (none)))) else (none)) else (none)) else (some x5)
end
def vmfleetlaw5_tables.f (k : Nat) (l0 : List Int) (a1 : Int) : Option (List Int) := (vmfleetmake_Round.f a1 8).bind fun t106 => ((vmfleetref1_New.f (wrap64 (1 + t106))).bind fun t107 => (vmfleetlaw5_tables.l0 k l0 t107 0))
theorem vmfleetlaw5_tables.mono_l : ∀ k, (∀ y0 y1 y2, LeO (vmfleetlaw5_tables.l0 k y0 y1 y2) (vmfleetlaw5_tables.l0 (k + 1) y0 y1 y2)) ∧ (∀ y0 y1 y2 y3, LeO (vmfleetlaw5_tables.j1 k y0 y1 y2 y3) (vmfleetlaw5_tables.j1 (k + 1) y0 y1 y2 y3))
  | 0 => ⟨fun _ _ _ r h => by simp [vmfleetlaw5_tables.l0] at h, fun _ _ _ _ r h => by simp [vmfleetlaw5_tables.j1] at h⟩
  | k + 1 => by
    obtain ⟨ih0, ih1⟩ := vmfleetlaw5_tables.mono_l k
    refine ⟨?_, ?_⟩
    · intro y0 y1 y2
      unfold vmfleetlaw5_tables.l0
      repeat' first
      | (with_reducible exact ih0 _ _ _)
      | (with_reducible exact ih1 _ _ _ _)
      | (with_reducible exact LeO.refl _)
      | (with_reducible exact LeO.none _)
      | (with_reducible refine LeO.ite ?_ ?_)
      | (with_reducible refine LeO.bind ?_ (fun _ => ?_))
      | exact ih0 _ _ _
      | exact ih1 _ _ _ _
      | exact LeO.none _
      | refine LeO.ite ?_ ?_
      | refine LeO.bind ?_ (fun _ => ?_)
    · intro y0 y1 y2 y3
      unfold vmfleetlaw5_tables.j1
      repeat' first
      | (with_reducible exact ih0 _ _ _)
      | (with_reducible exact ih1 _ _ _ _)
      | (with_reducible exact LeO.refl _)
      | (with_reducible exact LeO.none _)
      | (with_reducible refine LeO.ite ?_ ?_)
      | (with_reducible refine LeO.bind ?_ (fun _ => ?_))
      | exact ih0 _ _ _
      | exact ih1 _ _ _ _
      | exact LeO.none _
      | refine LeO.ite ?_ ?_
      | refine LeO.bind ?_ (fun _ => ?_)
theorem vmfleetlaw5_tables.mono : ∀ a0 a1 k, LeO (vmfleetlaw5_tables.f k a0 a1) (vmfleetlaw5_tables.f (k + 1) a0 a1) := by
  intro a0 a1 k
  obtain ⟨ih0, ih1⟩ := vmfleetlaw5_tables.mono_l k
  unfold vmfleetlaw5_tables.f
  repeat' first
      | (with_reducible exact ih0 _ _ _)
      | (with_reducible exact ih1 _ _ _ _)
      | (with_reducible exact LeO.refl _)
      | (with_reducible exact LeO.none _)
      | (with_reducible refine LeO.ite ?_ ?_)
      | (with_reducible refine LeO.bind ?_ (fun _ => ?_))
      | exact ih0 _ _ _
      | exact ih1 _ _ _ _
      | exact LeO.none _
      | refine LeO.ite ?_ ?_
      | refine LeO.bind ?_ (fun _ => ?_)
set_option maxHeartbeats 8000000 in
set_option maxRecDepth 100000 in
theorem vmfleetlaw5_tables.calls (k : Nat) (A0 : Option Addr) (c0 : Nat) (l0 : List Int) (a1 : Int) (r : List Int) (w : World) (hr0 : Kd.C (Kd.int .i64) w A0 l0.length l0) (hc0 : l0.length ≤ c0) (h : vmfleetlaw5_tables.f k l0 a1 = some r) :
    Calls Try.prog 9 #[.slice A0 l0.length c0, .int .i64 a1] w fun e w' => ∃ v0_ : Value, e = .returned (v0_) ∧ Kd.R (Kd.int .u32) 23 w' w.heap.size (fun _ => True) v0_ r ∧ Below w.heap.size w w' := by
  have HR0 := Aside0.mk hr0
  have HC0 := Aside0.mk hc0
  clear hr0 hc0
  have HB := Aside0.mk (Below.refl w.heap.size w)
  have H : ((vmfleetmake_Round.f a1 8).bind fun t106 => ((vmfleetref1_New.f (wrap64 (1 + t106))).bind fun t107 => (vmfleetlaw5_tables.l0 k l0 t107 0))) = some r := h
  clear h
  replace H := Option.bind_eq_some_iff.mp H
  obtain ⟨t106, A30, H⟩ := H
  replace H : ((vmfleetref1_New.f (wrap64 (1 + t106))).bind fun t107 => (vmfleetlaw5_tables.l0 k l0 t107 0)) = some r := H
  have A3 := Aside0.mk A30
  clear A30
  replace H := Option.bind_eq_some_iff.mp H
  obtain ⟨t107, A40, H⟩ := H
  replace H : (vmfleetlaw5_tables.l0 k l0 t107 0) = some r := H
  have A4 := Aside0.mk A40
  clear A40
  have H' := Aside0.mk H
  clear H
  go_enter Try.func9, Try.ntmps9
  go_wp2_with (first | ((with_reducible refine gate_callee (f := 11) rfl ?_); refine goesL_ (some 10) rfl rfl Try.func11 (by kernel_rfl) rfl #[.int .i64 a1, .int .i64 8] rfl (by (try simp only [List.map_toArray, List.map_cons, List.map_nil]); first | done | rfl | (simp only [List.length_drop, List.length_take]; rfl)) ?_; (with_reducible refine (vmfleetmake_Round.calls a1 8 t106 _ A3.out).mono ?_); rintro e w' ⟨rfl, ⟨nd, rfl⟩⟩; refine ⟨_, rfl, ?_⟩) | ((with_reducible refine gate_callee (f := 22) rfl ?_); refine goesL_ (some 12) rfl rfl Try.func22 (by kernel_rfl) rfl #[.int .i64 (wrap64 (1 + t106))] rfl (by (try simp only [List.map_toArray, List.map_cons, List.map_nil]); first | done | rfl | (simp only [List.length_drop, List.length_take]; rfl)) ?_; (with_reducible refine (vmfleetref1_New.calls (wrap64 (1 + t106)) t107 _ A4.out).mono ?_); rintro e w5 ⟨v108, rfl, ho0, hb⟩; refine ⟨_, rfl, ?_⟩; have n0_ := Aside0.mk (Kd.R_lower ho0 (below_size (by repeat (first | (with_reducible first | exact HB.out | apply below_alloc | apply pw_below_drewN | apply below_drew1) | exact HB.out)))); have n1_ := Aside0.mk (below_step (by repeat (first | (with_reducible first | exact HB.out | apply below_alloc | apply pw_below_drewN | apply below_drew1) | exact HB.out)) hb); clear HB; have HO109 := n0_; have HB := n1_; clear n0_ n1_; (try clear hb); (try clear hb2); (try clear hk); (try clear hi); (try clear ho0)))
  go_loopg [6] k (fun kq v6 w' => ∃ (x5_1 : List Int) (x6_1 : Int), v6 = .int .i64 x6_1 ∧ Aside0 (vmfleetlaw5_tables.l0 kq l0 x5_1 x6_1 = some r) ∧ Aside0 (kq ≤ k) ∧ Aside0 (Kd.R (Kd.int .u32) 23 w' w.heap.size (fun _ => True) v108 x5_1) ∧ Aside0 (Below w.heap.size w w'))
  case atStart => exact ⟨(t107), (0), (by first | rfl | (simp; done) | (simp [*]; done)), H', ⟨Nat.le_refl _⟩, ⟨by (with_reducible repeat (first | apply Kd.R_alloc | apply Kd.R_drewN | apply Kd.R_drew)); exact HO109.out⟩, ⟨by repeat (first | (with_reducible first | exact HB.out | apply below_alloc | apply pw_below_drewN | apply below_drew1) | exact HB.out)⟩⟩
  case round =>
    clear H'
    try clear c1
    try clear c2
    try clear p2
    obtain ⟨x5_1, x6_1, rfl, HA, HK1, HO_5, HB⟩ := hrel
    cases gk with
    | zero => exact absurd HA.out (by simp [vmfleetlaw5_tables.l0])
    | succ k1 =>
      have H := HA.out
      clear HA
      simp only [vmfleetlaw5_tables.l0] at H
      have HC6 := Aside0.mk H
      clear H
      go_upto_region 3 with (fail)
      go_cut [20] (fun v20 wc => ∃ (kq : Nat) (x20_5 : Bool), v20 = .bool x20_5 ∧ Aside0 (vmfleetlaw5_tables.j1 kq l0 x5_1 x6_1 x20_5 = some r) ∧ Aside0 (kq ≤ k1) ∧ Aside0 (Kd.R (Kd.int .u32) 23 wc w.heap.size (fun _ => True) v108 x5_1) ∧ Aside0 (Below w.heap.size w wc))
      case first =>
        have H := HC6.out
        clear HC6
        by_cases c7 : x6_1 < (l0.length : Int)
        · rw [if_pos c7] at H
          have c7b0 : decide (x6_1 < (l0.length : Int)) = true := decide_eq_true c7
          clear c7
          (first | rw [c7b0] | (simp only [i64_w, i32_w]; rw [c7b0]) | skip)
          have H' := Aside0.mk H
          clear H
          go_wp2
          go_meet
          case rel => exact ⟨_, (decide (x6_1 < 60)), (by first | rfl | (simp; done) | (simp [*]; done)), H', ⟨by have := HK1.out; first | omega | exact Nat.le_refl _⟩, ⟨by (with_reducible repeat (first | apply Kd.R_alloc | apply Kd.R_drewN | apply Kd.R_drew)); exact HO_5.out⟩, ⟨by repeat (first | (with_reducible first | exact HB.out | apply below_alloc | apply pw_below_drewN | apply below_drew1) | exact HB.out)⟩⟩
        · rw [if_neg c7] at H
          have c7b0 : decide (x6_1 < (l0.length : Int)) = false := decide_eq_false c7
          clear c7
          (first | rw [c7b0] | (simp only [i64_w, i32_w]; rw [c7b0]) | skip)
          have H' := Aside0.mk H
          clear H
          go_wp2
          go_meet
          case rel => exact ⟨_, (false), (by first | rfl | (simp; done) | (simp [*]; done)), H', ⟨by have := HK1.out; first | omega | exact Nat.le_refl _⟩, ⟨by (with_reducible repeat (first | apply Kd.R_alloc | apply Kd.R_drewN | apply Kd.R_drew)); exact HO_5.out⟩, ⟨by repeat (first | (with_reducible first | exact HB.out | apply below_alloc | apply pw_below_drewN | apply below_drew1) | exact HB.out)⟩⟩
      case rest =>
        clear HC6
        try clear c1
        try clear c2
        try clear p2
        try clear p6
        try clear c7
        try clear c7b0
        try clear p2
        obtain ⟨kq, x20_5, rfl, HA, HJ5, HO_5, HB⟩ := hcut
        cases kq with
        | zero => exact absurd HA.out (by simp [vmfleetlaw5_tables.j1])
        | succ kj5 =>
          have H := HA.out
          clear HA
          simp only [vmfleetlaw5_tables.j1] at H
          by_cases c8 : x20_5 = true
          · subst c8
            have H1 : (if 0 ≤ x6_1 then (if x6_1 < (l0.length : Int) then ((vmfleetmake_Mix.f (rd l0 x6_1) 9).bind fun t111 => ((vmfleetmake_Round.f t111 (x5_1.length : Int)).bind fun t112 => (if 0 ≤ t112 then (if t112 < (x5_1.length : Int) then ((some (x5_1.set (t112 : Int).toNat (Go.bits .or .u32 ((Go.bits .and .i64 (t111 / 65536) 31) % 4294967296) ((((Go.bits .and .i64 (t111 / 16777216) 15) % 4294967296) * 256) % 4294967296)) : List Int)).bind fun y113 => (if (Int.tmod (rd l0 x6_1) 5) = 0 then (vmfleetlaw5_tables.l0 kj5 l0 (y113.set (t112 : Int).toNat ((Go.bits .and .i64 (t111 / 1048576) 4294967295) % 4294967296)) (wrap64 (x6_1 + 1))) else (vmfleetlaw5_tables.l0 kj5 l0 y113 (wrap64 (x6_1 + 1))))) else (none)) else (none)))) else (none)) else (none)) = some r := by rw [if_pos rfl] at H; exact H
            clear H
            have H := H1
            clear H1
            by_cases c9 : 0 ≤ x6_1
            · rw [if_pos c9] at H
              have c9b0 : decide (0 ≤ x6_1) = true := decide_eq_true c9
              clear c9
              by_cases c10 : x6_1 < (l0.length : Int)
              · rw [if_pos c10] at H
                have c10b0 : decide (x6_1 < (l0.length : Int)) = true := decide_eq_true c10
                clear c10
                replace H := Option.bind_eq_some_iff.mp H
                obtain ⟨t111, A110, H⟩ := H
                replace H : ((vmfleetmake_Round.f t111 (x5_1.length : Int)).bind fun t112 => (if 0 ≤ t112 then (if t112 < (x5_1.length : Int) then ((some (x5_1.set (t112 : Int).toNat (Go.bits .or .u32 ((Go.bits .and .i64 (t111 / 65536) 31) % 4294967296) ((((Go.bits .and .i64 (t111 / 16777216) 15) % 4294967296) * 256) % 4294967296)) : List Int)).bind fun y113 => (if (Int.tmod (rd l0 x6_1) 5) = 0 then (vmfleetlaw5_tables.l0 kj5 l0 (y113.set (t112 : Int).toNat ((Go.bits .and .i64 (t111 / 1048576) 4294967295) % 4294967296)) (wrap64 (x6_1 + 1))) else (vmfleetlaw5_tables.l0 kj5 l0 y113 (wrap64 (x6_1 + 1))))) else (none)) else (none))) = some r := H
                have A11 := Aside0.mk A110
                clear A110
                replace H := Option.bind_eq_some_iff.mp H
                obtain ⟨t112, A120, H⟩ := H
                replace H : (if 0 ≤ t112 then (if t112 < (x5_1.length : Int) then ((some (x5_1.set (t112 : Int).toNat (Go.bits .or .u32 ((Go.bits .and .i64 (t111 / 65536) 31) % 4294967296) ((((Go.bits .and .i64 (t111 / 16777216) 15) % 4294967296) * 256) % 4294967296)) : List Int)).bind fun y113 => (if (Int.tmod (rd l0 x6_1) 5) = 0 then (vmfleetlaw5_tables.l0 kj5 l0 (y113.set (t112 : Int).toNat ((Go.bits .and .i64 (t111 / 1048576) 4294967295) % 4294967296)) (wrap64 (x6_1 + 1))) else (vmfleetlaw5_tables.l0 kj5 l0 y113 (wrap64 (x6_1 + 1))))) else (none)) else (none)) = some r := H
                have A12 := Aside0.mk A120
                clear A120
                by_cases c13 : 0 ≤ t112
                · rw [if_pos c13] at H
                  have c13b0 : decide (0 ≤ t112) = true := decide_eq_true c13
                  clear c13
                  by_cases c14 : t112 < (x5_1.length : Int)
                  · rw [if_pos c14] at H
                    have c14b0 : decide (t112 < (x5_1.length : Int)) = true := decide_eq_true c14
                    clear c14
                    obtain ⟨y113, hy113⟩ : ∃ y_ : List Int, y_ = (x5_1.set (t112 : Int).toNat (Go.bits .or .u32 ((Go.bits .and .i64 (t111 / 65536) 31) % 4294967296) ((((Go.bits .and .i64 (t111 / 16777216) 15) % 4294967296) * 256) % 4294967296))) := ⟨_, rfl⟩
                    replace H : (if (Int.tmod (rd l0 x6_1) 5) = 0 then (vmfleetlaw5_tables.l0 kj5 l0 (y113.set (t112 : Int).toNat ((Go.bits .and .i64 (t111 / 1048576) 4294967295) % 4294967296)) (wrap64 (x6_1 + 1))) else (vmfleetlaw5_tables.l0 kj5 l0 y113 (wrap64 (x6_1 + 1)))) = some r := by first | (rw [hy113]; with_reducible exact H) | (have H2_ := (Option.bind_some _ _).symm.trans H; rw [hy113]; with_reducible exact H2_) | (have H2_ := (Option.bind_some _ _).symm.trans H; with_reducible exact H2_) | with_reducible exact H | (rw [hy113]; exact H) | exact H
                    have Ny113 := Aside0.mk hy113
                    clear hy113
                    by_cases c16 : (Int.tmod (rd l0 x6_1) 5) = 0
                    · rw [if_pos c16] at H
                      have c16b0 : ((Int.tmod (rd l0 x6_1) 5) == 0) = true := beq_iff_eq.mpr c16
                      have c16b1 : ((Int.tmod (rd l0 x6_1) 5) != 0) = false := bne_eq_false_iff_eq.mpr c16
                      clear c16
                      obtain ⟨y115, hy115⟩ : ∃ y_ : List Int, y_ = (y113.set (t112 : Int).toNat ((Go.bits .and .i64 (t111 / 1048576) 4294967295) % 4294967296)) := ⟨_, rfl⟩
                      replace H : (vmfleetlaw5_tables.l0 kj5 l0 y115 (wrap64 (x6_1 + 1))) = some r := by first | (rw [hy115]; with_reducible exact H) | (have H2_ := (Option.bind_some _ _).symm.trans H; rw [hy115]; with_reducible exact H2_) | (have H2_ := (Option.bind_some _ _).symm.trans H; with_reducible exact H2_) | with_reducible exact H | (rw [hy115]; exact H) | exact H
                      have Ny115 := Aside0.mk hy115
                      clear hy115
                      have H' := Aside0.mk H
                      clear H
                      have p110 : 0 ≤ (x6_1 : Int) := of_decide_eq_true (by first | (with_reducible assumption) | assumption)
                      have q110 : x6_1 < (l0.length : Int) := of_decide_eq_true (by first | (with_reducible assumption) | assumption)
                      obtain ⟨ad110, e110, hx110_0⟩ := Kd.at_int HR0.out x6_1 p110 q110
                      cases e110
                      replace hx110_0 := (HB.out.cell (World.block_lt_of_cell? w _ hx110_0)).trans hx110_0
                      replace p110 := eq_true p110
                      replace q110 := eq_true q110
                      go_wp2_with (first | ((with_reducible refine gate_callee (f := 23) rfl ?_); refine goesL_ (some 27) rfl rfl Try.func23 (by kernel_rfl) rfl #[.int .i64 (rd l0 x6_1), .int .i64 9] rfl (by (try simp only [List.map_toArray, List.map_cons, List.map_nil]); first | done | rfl | (simp only [List.length_drop, List.length_take]; rfl)) ?_; (with_reducible refine (vmfleetmake_Mix.calls (rd l0 x6_1) 9 t111 _ A11.out).mono ?_); rintro e w' ⟨rfl, ⟨nd, rfl⟩⟩; refine ⟨_, rfl, ?_⟩; (try (rw [drewN_self wc]; generalize hq_ : World.drewN wc _ = wc; have n0_ : Aside0 (Kd.R (Kd.int .u32) 23 wc w.heap.size (fun _ => True) v108 x5_1) := ⟨by rw [← hq_]; exact (by (with_reducible repeat (first | apply Kd.R_alloc | apply Kd.R_drewN | apply Kd.R_drew)); exact HO_5.out)⟩; have n1_ : Aside0 (Below w.heap.size w wc) := ⟨by rw [← hq_]; exact (by repeat (first | (with_reducible first | exact HB.out | apply below_alloc | apply pw_below_drewN | apply below_drew1) | exact HB.out))⟩; clear HO_5 HB hq_; have HO_5 := n0_; have HB := n1_; clear n0_ n1_)); obtain ⟨Ao18, co18, eo18⟩ := Kd.R_slice HO_5.out; subst eo18) | ((with_reducible refine gate_callee (f := 11) rfl ?_); refine goesL_ (some 31) rfl rfl Try.func11 (by kernel_rfl) rfl #[.int .i64 t111, .int .i64 (x5_1.length : Int)] rfl (by (try simp only [List.map_toArray, List.map_cons, List.map_nil]); first | done | rfl | (simp only [List.length_drop, List.length_take]; rfl)) ?_; (with_reducible refine (vmfleetmake_Round.calls t111 (x5_1.length : Int) t112 _ A12.out).mono ?_); rintro e w' ⟨rfl, ⟨nd, rfl⟩⟩; refine ⟨_, rfl, ?_⟩; (try (rw [drewN_self wc]; generalize hq_ : World.drewN wc _ = wc; have n0_ : Aside0 (Kd.R (Kd.int .u32) 23 wc w.heap.size (fun _ => True) (.slice Ao18 x5_1.length co18) x5_1) := ⟨by rw [← hq_]; exact (by (with_reducible repeat (first | apply Kd.R_alloc | apply Kd.R_drewN | apply Kd.R_drew)); exact HO_5.out)⟩; have n1_ : Aside0 (Below w.heap.size w wc) := ⟨by rw [← hq_]; exact (by repeat (first | (with_reducible first | exact HB.out | apply below_alloc | apply pw_below_drewN | apply below_drew1) | exact HB.out))⟩; clear HO_5 HB hq_; have HO_5 := n0_; have HB := n1_; clear n0_ n1_)); have p15 : 0 ≤ (t112 : Int) := of_decide_eq_true (by first | (with_reducible assumption) | assumption); have q15 : (t112 : Int) < ((x5_1.length : Int) : Int) := of_decide_eq_true (by first | (with_reducible assumption) | assumption); obtain ⟨go15, co15, eo15, gb15, gl15, cl15, HG15⟩ := Kd.R_form HO_5.out (by omega); (first | cases eo15 | (injection eo15 with ea_ en_ ec_; (first | subst ea_ | (injection ea_ with ea_; subst ea_)); subst ec_; clear en_)); have GB15 := Aside0.mk gb15; have GG15 := Aside0.mk HG15; clear gb15 gl15 HG15; obtain ⟨hx15_0, hf15_0⟩ := Kd.R_celln 0 HO_5.out (t112 : Int) p15 q15; replace p15 := eq_true p15; replace q15 := eq_true q15; obtain ⟨hy19_, hz19_⟩ := Kd.R_celln 0 HO_5.out (t112 : Int) (of_decide_eq_true (by first | (with_reducible assumption) | assumption)) (of_decide_eq_true (by first | (with_reducible assumption) | assumption)); have HP19 := Kd.R_putg HO_5.out (t112 : Int) (Go.bits .or .u32 ((Go.bits .and .i64 (t111 / 65536) 31) % 4294967296) ((((Go.bits .and .i64 (t111 / 16777216) 15) % 4294967296) * 256) % 4294967296))) | ((with_reducible refine gate_store (t := 23) (p := 44) rfl ?_); refine store_event (t := 23) (p := 44) (v := ?vo_w20) (w1 := (wc.setCell ⟨go15, (t112 : Int).toNat, none⟩ (.int .u32 (Go.bits .or .u32 ((Go.bits .and .i64 (t111 / 65536) 31) % 4294967296) ((((Go.bits .and .i64 (t111 / 16777216) 15) % 4294967296) * 256) % 4294967296))))) ?hg ?ho ?hn ?hr ?_; (case ho => rfl); (case hg => rfl); (case hn => rfl); (case hr => first | (go_simp; done) | (go_simp; rfl)); intro w20 hw; have hg : wc.grownBy w20 (some go15) := (by rw [hw]; exact HP19.2); have hp_ : Kd.R (Kd.int .u32) 23 w20 w.heap.size (fun _ => True) (.slice (some ⟨go15, 0, none⟩) x5_1.length co18) y113 := (by rw [hw, Ny113.out]; exact HP19.1); clear HP19; have n0_ := Aside0.mk (hp_); have n1_ := Aside0.mk ((by rw [hw]; exact below_set (HB.out) GB15.out : Below w.heap.size w w20)); clear HO_5; clear HB; have HO_5 := n0_; have HB := n1_; clear n0_ n1_; clear hg hw hp_; have p114 : 0 ≤ (x6_1 : Int) := of_decide_eq_true (by first | (with_reducible assumption) | assumption); have q114 : x6_1 < (l0.length : Int) := of_decide_eq_true (by first | (with_reducible assumption) | assumption); obtain ⟨ad114, e114, hx114_0⟩ := Kd.at_int HR0.out x6_1 p114 q114; obtain rfl : ad110 = ad114 := (by injection e114); replace hx114_0 := (HB.out.cell (World.block_lt_of_cell? w _ hx114_0)).trans hx114_0; replace p114 := eq_true p114; replace q114 := eq_true q114; have p17 : 0 ≤ (t112 : Int) := of_decide_eq_true (by first | (with_reducible assumption) | assumption); have q17 : (t112 : Int) < ((x5_1.length : Int) : Int) := of_decide_eq_true (by first | (with_reducible assumption) | assumption); obtain ⟨hx17_0, hf17_0⟩ := Kd.R_celln 0 HO_5.out (t112 : Int) p17 q17; replace p17 := eq_true p17; replace q17 := eq_true q17; obtain ⟨hy21_, hz21_⟩ := Kd.R_celln 0 HO_5.out (t112 : Int) (of_decide_eq_true (by first | (with_reducible assumption) | assumption)) (of_decide_eq_true (by first | (with_reducible assumption) | assumption)); have HP21 := Kd.R_putg HO_5.out (t112 : Int) ((Go.bits .and .i64 (t111 / 1048576) 4294967295) % 4294967296)) | ((with_reducible refine gate_store (t := 23) (p := 57) rfl ?_); refine store_event (t := 23) (p := 57) (v := ?vo_w22) (w1 := (w20.setCell ⟨go15, (t112 : Int).toNat, none⟩ (.int .u32 ((Go.bits .and .i64 (t111 / 1048576) 4294967295) % 4294967296)))) ?hg ?ho ?hn ?hr ?_; (case ho => rfl); (case hg => rfl); (case hn => rfl); (case hr => first | (go_simp; done) | (go_simp; rfl)); intro w22 hw; have hg : w20.grownBy w22 (some go15) := (by rw [hw]; exact HP21.2); have hp_ : Kd.R (Kd.int .u32) 23 w22 w.heap.size (fun _ => True) (.slice (some ⟨go15, 0, none⟩) x5_1.length co18) y115 := (by rw [hw, Ny115.out]; exact HP21.1); clear HP21; have n0_ := Aside0.mk (hp_); have n1_ := Aside0.mk ((by rw [hw]; exact below_set (HB.out) GB15.out : Below w.heap.size w w22)); clear HO_5; clear HB; have HO_5 := n0_; have HB := n1_; clear n0_ n1_; clear hg hw hp_))
                      go_roundg kj5
                      case measure => have := HK1.out; have := HJ5.out; omega
                      case rel => exact ⟨(y115), (wrap64 (x6_1 + 1)), (by first | rfl | (simp; done) | (simp [*]; done)), H', ⟨by have := HK1.out; have := HJ5.out; omega⟩, ⟨by (with_reducible repeat (first | apply Kd.R_alloc | apply Kd.R_drewN | apply Kd.R_drew)); exact HO_5.out⟩, ⟨by repeat (first | (with_reducible first | exact HB.out | apply below_alloc | apply pw_below_drewN | apply below_drew1) | exact HB.out)⟩⟩
                    · rw [if_neg c16] at H
                      have c16b0 : ((Int.tmod (rd l0 x6_1) 5) == 0) = false := beq_eq_false_iff_ne.mpr c16
                      have c16b1 : ((Int.tmod (rd l0 x6_1) 5) != 0) = true := bne_iff_ne.mpr c16
                      have H' := Aside0.mk H
                      clear H
                      have p110 : 0 ≤ (x6_1 : Int) := of_decide_eq_true (by first | (with_reducible assumption) | assumption)
                      have q110 : x6_1 < (l0.length : Int) := of_decide_eq_true (by first | (with_reducible assumption) | assumption)
                      obtain ⟨ad110, e110, hx110_0⟩ := Kd.at_int HR0.out x6_1 p110 q110
                      cases e110
                      replace hx110_0 := (HB.out.cell (World.block_lt_of_cell? w _ hx110_0)).trans hx110_0
                      replace p110 := eq_true p110
                      replace q110 := eq_true q110
                      go_wp2_with (first | ((with_reducible refine gate_callee (f := 23) rfl ?_); refine goesL_ (some 27) rfl rfl Try.func23 (by kernel_rfl) rfl #[.int .i64 (rd l0 x6_1), .int .i64 9] rfl (by (try simp only [List.map_toArray, List.map_cons, List.map_nil]); first | done | rfl | (simp only [List.length_drop, List.length_take]; rfl)) ?_; (with_reducible refine (vmfleetmake_Mix.calls (rd l0 x6_1) 9 t111 _ A11.out).mono ?_); rintro e w' ⟨rfl, ⟨nd, rfl⟩⟩; refine ⟨_, rfl, ?_⟩; (try (rw [drewN_self wc]; generalize hq_ : World.drewN wc _ = wc; have n0_ : Aside0 (Kd.R (Kd.int .u32) 23 wc w.heap.size (fun _ => True) v108 x5_1) := ⟨by rw [← hq_]; exact (by (with_reducible repeat (first | apply Kd.R_alloc | apply Kd.R_drewN | apply Kd.R_drew)); exact HO_5.out)⟩; have n1_ : Aside0 (Below w.heap.size w wc) := ⟨by rw [← hq_]; exact (by repeat (first | (with_reducible first | exact HB.out | apply below_alloc | apply pw_below_drewN | apply below_drew1) | exact HB.out))⟩; clear HO_5 HB hq_; have HO_5 := n0_; have HB := n1_; clear n0_ n1_)); obtain ⟨Ao23, co23, eo23⟩ := Kd.R_slice HO_5.out; subst eo23) | ((with_reducible refine gate_callee (f := 11) rfl ?_); refine goesL_ (some 31) rfl rfl Try.func11 (by kernel_rfl) rfl #[.int .i64 t111, .int .i64 (x5_1.length : Int)] rfl (by (try simp only [List.map_toArray, List.map_cons, List.map_nil]); first | done | rfl | (simp only [List.length_drop, List.length_take]; rfl)) ?_; (with_reducible refine (vmfleetmake_Round.calls t111 (x5_1.length : Int) t112 _ A12.out).mono ?_); rintro e w' ⟨rfl, ⟨nd, rfl⟩⟩; refine ⟨_, rfl, ?_⟩; (try (rw [drewN_self wc]; generalize hq_ : World.drewN wc _ = wc; have n0_ : Aside0 (Kd.R (Kd.int .u32) 23 wc w.heap.size (fun _ => True) (.slice Ao23 x5_1.length co23) x5_1) := ⟨by rw [← hq_]; exact (by (with_reducible repeat (first | apply Kd.R_alloc | apply Kd.R_drewN | apply Kd.R_drew)); exact HO_5.out)⟩; have n1_ : Aside0 (Below w.heap.size w wc) := ⟨by rw [← hq_]; exact (by repeat (first | (with_reducible first | exact HB.out | apply below_alloc | apply pw_below_drewN | apply below_drew1) | exact HB.out))⟩; clear HO_5 HB hq_; have HO_5 := n0_; have HB := n1_; clear n0_ n1_)); have p15 : 0 ≤ (t112 : Int) := of_decide_eq_true (by first | (with_reducible assumption) | assumption); have q15 : (t112 : Int) < ((x5_1.length : Int) : Int) := of_decide_eq_true (by first | (with_reducible assumption) | assumption); obtain ⟨go15, co15, eo15, gb15, gl15, cl15, HG15⟩ := Kd.R_form HO_5.out (by omega); (first | cases eo15 | (injection eo15 with ea_ en_ ec_; (first | subst ea_ | (injection ea_ with ea_; subst ea_)); subst ec_; clear en_)); have GB15 := Aside0.mk gb15; have GG15 := Aside0.mk HG15; clear gb15 gl15 HG15; obtain ⟨hx15_0, hf15_0⟩ := Kd.R_celln 0 HO_5.out (t112 : Int) p15 q15; replace p15 := eq_true p15; replace q15 := eq_true q15; obtain ⟨hy24_, hz24_⟩ := Kd.R_celln 0 HO_5.out (t112 : Int) (of_decide_eq_true (by first | (with_reducible assumption) | assumption)) (of_decide_eq_true (by first | (with_reducible assumption) | assumption)); have HP24 := Kd.R_putg HO_5.out (t112 : Int) (Go.bits .or .u32 ((Go.bits .and .i64 (t111 / 65536) 31) % 4294967296) ((((Go.bits .and .i64 (t111 / 16777216) 15) % 4294967296) * 256) % 4294967296))) | ((with_reducible refine gate_store (t := 23) (p := 44) rfl ?_); refine store_event (t := 23) (p := 44) (v := ?vo_w25) (w1 := (wc.setCell ⟨go15, (t112 : Int).toNat, none⟩ (.int .u32 (Go.bits .or .u32 ((Go.bits .and .i64 (t111 / 65536) 31) % 4294967296) ((((Go.bits .and .i64 (t111 / 16777216) 15) % 4294967296) * 256) % 4294967296))))) ?hg ?ho ?hn ?hr ?_; (case ho => rfl); (case hg => rfl); (case hn => rfl); (case hr => first | (go_simp; done) | (go_simp; rfl)); intro w25 hw; have hg : wc.grownBy w25 (some go15) := (by rw [hw]; exact HP24.2); have hp_ : Kd.R (Kd.int .u32) 23 w25 w.heap.size (fun _ => True) (.slice (some ⟨go15, 0, none⟩) x5_1.length co23) y113 := (by rw [hw, Ny113.out]; exact HP24.1); clear HP24; have n0_ := Aside0.mk (hp_); have n1_ := Aside0.mk ((by rw [hw]; exact below_set (HB.out) GB15.out : Below w.heap.size w w25)); clear HO_5; clear HB; have HO_5 := n0_; have HB := n1_; clear n0_ n1_; clear hg hw hp_; have p114 : 0 ≤ (x6_1 : Int) := of_decide_eq_true (by first | (with_reducible assumption) | assumption); have q114 : x6_1 < (l0.length : Int) := of_decide_eq_true (by first | (with_reducible assumption) | assumption); obtain ⟨ad114, e114, hx114_0⟩ := Kd.at_int HR0.out x6_1 p114 q114; obtain rfl : ad110 = ad114 := (by injection e114); replace hx114_0 := (HB.out.cell (World.block_lt_of_cell? w _ hx114_0)).trans hx114_0; replace p114 := eq_true p114; replace q114 := eq_true q114))
                      go_roundg kj5
                      case measure => have := HK1.out; have := HJ5.out; omega
                      case rel => exact ⟨(y113), (wrap64 (x6_1 + 1)), (by first | rfl | (simp; done) | (simp [*]; done)), H', ⟨by have := HK1.out; have := HJ5.out; omega⟩, ⟨by (with_reducible repeat (first | apply Kd.R_alloc | apply Kd.R_drewN | apply Kd.R_drew)); exact HO_5.out⟩, ⟨by repeat (first | (with_reducible first | exact HB.out | apply below_alloc | apply pw_below_drewN | apply below_drew1) | exact HB.out)⟩⟩
                  · rw [if_neg c14] at H
                    exact absurd H (by simp)
                · rw [if_neg c13] at H
                  exact absurd H (by simp)
              · rw [if_neg c10] at H
                exact absurd H (by simp)
            · rw [if_neg c9] at H
              exact absurd H (by simp)
          · replace c8 := Bool.eq_false_iff.mpr c8
            subst c8
            have H1 : (some x5_1) = some r := by rw [if_neg (show ¬ (false = true) by decide)] at H; exact H
            clear H
            have H := H1
            clear H1
            obtain rfl := Option.some.inj H
            go_wp2
            go_ret
            exact ⟨_, by first | rfl | (simp [errW_none, errW_some] <;> rfl) | (simp [*, errW_none, errW_some] <;> rfl), by (with_reducible repeat (first | apply Kd.R_alloc | apply Kd.R_drewN | apply Kd.R_drew)); exact HO_5.out, by repeat (first | (with_reducible first | exact HB.out | apply below_alloc | apply pw_below_drewN | apply below_drew1) | exact HB.out)⟩

/-! ### vmfleetref1_Pages: function 10 -/
def vmfleetref1_Pages.f (l0 : List Int) : Option (Int) := if ((l0.length : Int) % 32) = 0 then (if (l0.length : Int) > 1024 then (some 0) else (some (wrap64 ((l0.length : Int) / 32)))) else (some 0)
set_option maxHeartbeats 8000000 in
set_option maxRecDepth 100000 in
theorem vmfleetref1_Pages.calls (A0 : Option Addr) (c0 : Nat) (l0 : List Int) (r : Int) (w : World) (hr0 : Kd.C (Kd.int .u32) w A0 l0.length l0) (hc0 : l0.length ≤ c0) (h : vmfleetref1_Pages.f l0 = some r) :
    Calls Try.prog 10 #[.slice A0 l0.length c0] w fun e w' => e = .returned (.int .i64 r) ∧ Drawn0 w w' := by
  have HR0 := Aside0.mk hr0
  have HC0 := Aside0.mk hc0
  clear hr0 hc0
  have H : (if ((l0.length : Int) % 32) = 0 then (if (l0.length : Int) > 1024 then (some 0) else (some (wrap64 ((l0.length : Int) / 32)))) else (some 0)) = some r := h
  clear h
  by_cases c2 : ((l0.length : Int) % 32) = 0
  · rw [if_pos c2] at H
    have c2b0 : (((l0.length : Int) % 32) == 0) = true := beq_iff_eq.mpr c2
    have c2b1 : (((l0.length : Int) % 32) != 0) = false := bne_eq_false_iff_eq.mpr c2
    clear c2
    by_cases c3 : (l0.length : Int) > 1024
    · rw [if_pos c3] at H
      have c3b0 : decide (1024 < (l0.length : Int)) = true := decide_eq_true c3
      have c3b1 : decide (1024 < l0.length) = true := decide_eq_true (by omega)
      clear c3
      obtain rfl := Option.some.inj H
      go_enter Try.func10, Try.ntmps10
      go_wp2
      go_ret
      exact ⟨by first | rfl | (simp; done) | (simp [*]; done), by repeat (first | exact Drawn0.refl _ | apply Drawn0.step)⟩
    · rw [if_neg c3] at H
      have c3b0 : decide (1024 < (l0.length : Int)) = false := decide_eq_false c3
      have c3b1 : decide (1024 < l0.length) = false := decide_eq_false (by omega)
      clear c3
      obtain rfl := Option.some.inj H
      go_enter Try.func10, Try.ntmps10
      go_wp2
      go_ret
      exact ⟨by first | rfl | (simp; done) | (simp [*]; done), by repeat (first | exact Drawn0.refl _ | apply Drawn0.step)⟩
  · rw [if_neg c2] at H
    have c2b0 : (((l0.length : Int) % 32) == 0) = false := beq_eq_false_iff_ne.mpr c2
    have c2b1 : (((l0.length : Int) % 32) != 0) = true := bne_iff_ne.mpr c2
    obtain rfl := Option.some.inj H
    go_enter Try.func10, Try.ntmps10
    go_wp2
    go_ret
    exact ⟨by first | rfl | (simp; done) | (simp [*]; done), by repeat (first | exact Drawn0.refl _ | apply Drawn0.step)⟩

/-! ### memory_Pages: function 33 -/
def memory_Pages.f (l0 : List Int) : Option (Int) := if ((l0.length : Int) % 32) = 0 then (if (l0.length : Int) > 1024 then (some 0) else (some (wrap64 ((l0.length : Int) / 32)))) else (some 0)
set_option maxHeartbeats 8000000 in
set_option maxRecDepth 100000 in
theorem memory_Pages.calls (A0 : Option Addr) (c0 : Nat) (l0 : List Int) (r : Int) (w : World) (hr0 : Kd.C (Kd.int .u32) w A0 l0.length l0) (hc0 : l0.length ≤ c0) (h : memory_Pages.f l0 = some r) :
    Calls Try.prog 33 #[.slice A0 l0.length c0] w fun e w' => e = .returned (.int .i64 r) ∧ Drawn0 w w' := by
  have HR0 := Aside0.mk hr0
  have HC0 := Aside0.mk hc0
  clear hr0 hc0
  have H : (if ((l0.length : Int) % 32) = 0 then (if (l0.length : Int) > 1024 then (some 0) else (some (wrap64 ((l0.length : Int) / 32)))) else (some 0)) = some r := h
  clear h
  by_cases c2 : ((l0.length : Int) % 32) = 0
  · rw [if_pos c2] at H
    have c2b0 : (((l0.length : Int) % 32) == 0) = true := beq_iff_eq.mpr c2
    have c2b1 : (((l0.length : Int) % 32) != 0) = false := bne_eq_false_iff_eq.mpr c2
    clear c2
    by_cases c3 : (l0.length : Int) > 1024
    · rw [if_pos c3] at H
      have c3b0 : decide (1024 < (l0.length : Int)) = true := decide_eq_true c3
      have c3b1 : decide (1024 < l0.length) = true := decide_eq_true (by omega)
      clear c3
      obtain rfl := Option.some.inj H
      go_enter Try.func33, Try.ntmps33
      go_wp2
      go_ret
      exact ⟨by first | rfl | (simp; done) | (simp [*]; done), by repeat (first | exact Drawn0.refl _ | apply Drawn0.step)⟩
    · rw [if_neg c3] at H
      have c3b0 : decide (1024 < (l0.length : Int)) = false := decide_eq_false c3
      have c3b1 : decide (1024 < l0.length) = false := decide_eq_false (by omega)
      clear c3
      obtain rfl := Option.some.inj H
      go_enter Try.func33, Try.ntmps33
      go_wp2
      go_ret
      exact ⟨by first | rfl | (simp; done) | (simp [*]; done), by repeat (first | exact Drawn0.refl _ | apply Drawn0.step)⟩
  · rw [if_neg c2] at H
    have c2b0 : (((l0.length : Int) % 32) == 0) = false := beq_eq_false_iff_ne.mpr c2
    have c2b1 : (((l0.length : Int) % 32) != 0) = true := bne_iff_ne.mpr c2
    obtain rfl := Option.some.inj H
    go_enter Try.func33, Try.ntmps33
    go_wp2
    go_ret
    exact ⟨by first | rfl | (simp; done) | (simp [*]; done), by repeat (first | exact Drawn0.refl _ | apply Drawn0.step)⟩

/-! ### paging_page: function 24 -/
def paging_page.f (l0 : List Int) (a1 : Int) : Option (Bool) := (memory_Pages.f l0).bind fun t116 => (some (decide ((IntKind.u64.wrap (a1)) < (IntKind.u64.wrap (t116)))))
set_option maxHeartbeats 8000000 in
set_option maxRecDepth 100000 in
theorem paging_page.calls (A0 : Option Addr) (c0 : Nat) (l0 : List Int) (a1 : Int) (r : Bool) (w : World) (hr0 : Kd.C (Kd.int .u32) w A0 l0.length l0) (hc0 : l0.length ≤ c0) (h : paging_page.f l0 a1 = some r) :
    Calls Try.prog 24 #[.slice A0 l0.length c0, .int .u32 a1] w fun e w' => e = .returned (.bool r) ∧ Drawn0 w w' := by
  have HR0 := Aside0.mk hr0
  have HC0 := Aside0.mk hc0
  clear hr0 hc0
  have H : ((memory_Pages.f l0).bind fun t116 => (some (decide ((IntKind.u64.wrap (a1)) < (IntKind.u64.wrap (t116)))))) = some r := h
  clear h
  replace H := Option.bind_eq_some_iff.mp H
  obtain ⟨t116, A30, H⟩ := H
  replace H : (some (decide ((IntKind.u64.wrap (a1)) < (IntKind.u64.wrap (t116))))) = some r := H
  have A3 := Aside0.mk A30
  clear A30
  obtain rfl := Option.some.inj H
  go_enter Try.func24, Try.ntmps24
  go_wp2_with (first | ((with_reducible refine gate_callee (f := 33) rfl ?_); refine goesL_ (some 8) rfl rfl Try.func33 (by kernel_rfl) rfl #[.slice A0 l0.length c0] rfl (by (try simp only [List.map_toArray, List.map_cons, List.map_nil]); first | done | rfl | (simp only [List.length_drop, List.length_take]; rfl)) ?_; (with_reducible refine (memory_Pages.calls _ _ l0 t116 _ ?side1 ?side2 A3.out).mono ?_); (case side1 => repeat (first | exact HR0.out | (with_reducible refine Kd.C_alloc ?_ _) | (with_reducible refine Kd.C_drewN ?_ _) | (with_reducible refine Kd.C_drew ?_))); (case side2 => exact HC0.out); rintro e w' ⟨rfl, ⟨nd, rfl⟩⟩; refine ⟨_, rfl, ?_⟩))
  go_ret
  exact ⟨by first | rfl | (simp; done) | (simp [*]; done), by repeat (first | exact Drawn0.refl _ | apply Drawn0.step)⟩

/-! ### paging_Entry: function 26 -/
def paging_Entry.f (a0 : Int) (a1 : Int) : Option (Int) := some (((a0 * 128) + (4 * a1)) % 4294967296)
set_option maxHeartbeats 8000000 in
set_option maxRecDepth 100000 in
theorem paging_Entry.calls (a0 : Int) (a1 : Int) (r : Int) (w : World) (h : paging_Entry.f a0 a1 = some r) :
    Calls Try.prog 26 #[.int .u32 a0, .int .u32 a1] w fun e w' => e = .returned (.int .u32 r) ∧ Drawn0 w w' := by
  have H : (some (((a0 * 128) + (4 * a1)) % 4294967296)) = some r := h
  clear h
  obtain rfl := Option.some.inj H
  go_enter Try.func26, Try.ntmps26
  go_wp2
  go_ret
  exact ⟨by first | rfl | (simp; done) | (simp [*]; done), by repeat (first | exact Drawn0.refl _ | apply Drawn0.step)⟩

/-! ### paging_Cause: function 27 -/
def paging_Cause.f (a0 : Int) : Option (Int) := if a0 = 1 then (some 4) else (if a0 = 3 then (some 6) else (some 5))
set_option maxHeartbeats 8000000 in
set_option maxRecDepth 100000 in
theorem paging_Cause.calls (a0 : Int) (r : Int) (w : World) (h : paging_Cause.f a0 = some r) :
    Calls Try.prog 27 #[.int .i64 a0] w fun e w' => e = .returned (.int .i64 r) ∧ Drawn0 w w' := by
  have H : (if a0 = 1 then (some 4) else (if a0 = 3 then (some 6) else (some 5))) = some r := h
  clear h
  by_cases c2 : a0 = 1
  · rw [if_pos c2] at H
    have c2b0 : (a0 == 1) = true := beq_iff_eq.mpr c2
    have c2b1 : (a0 != 1) = false := bne_eq_false_iff_eq.mpr c2
    clear c2
    obtain rfl := Option.some.inj H
    go_enter Try.func27, Try.ntmps27
    go_wp2
    go_ret
    exact ⟨by first | rfl | (simp; done) | (simp [*]; done), by repeat (first | exact Drawn0.refl _ | apply Drawn0.step)⟩
  · rw [if_neg c2] at H
    have c2b0 : (a0 == 1) = false := beq_eq_false_iff_ne.mpr c2
    have c2b1 : (a0 != 1) = true := bne_iff_ne.mpr c2
    by_cases c3 : a0 = 3
    · rw [if_pos c3] at H
      have c3b0 : (a0 == 3) = true := beq_iff_eq.mpr c3
      have c3b1 : (a0 != 3) = false := bne_eq_false_iff_eq.mpr c3
      clear c3
      obtain rfl := Option.some.inj H
      go_enter Try.func27, Try.ntmps27
      go_wp2
      go_ret
      exact ⟨by first | rfl | (simp; done) | (simp [*]; done), by repeat (first | exact Drawn0.refl _ | apply Drawn0.step)⟩
    · rw [if_neg c3] at H
      have c3b0 : (a0 == 3) = false := beq_eq_false_iff_ne.mpr c3
      have c3b1 : (a0 != 3) = true := bne_iff_ne.mpr c3
      obtain rfl := Option.some.inj H
      go_enter Try.func27, Try.ntmps27
      go_wp2
      go_ret
      exact ⟨by first | rfl | (simp; done) | (simp [*]; done), by repeat (first | exact Drawn0.refl _ | apply Drawn0.step)⟩

/-! ### memory_within: function 35 -/
def memory_within.f (l0 : List Int) (a1 : Int) (a2 : Int) : Option (Bool) := if a2 = 1 then (if ((a2) % 4294967296) = 0 then (none) else (if (Int.tmod a1 ((a2) % 4294967296)) = 0 then ((memory_Pages.f l0).bind fun t117 => (some (decide ((IntKind.u64.wrap ((IntKind.u64.wrap (a1)) + (IntKind.u64.wrap (a2)))) ≤ (IntKind.u64.wrap (wrap64 (t117 * 128))))))) else (some false))) else (if a2 = 4 then (if ((a2) % 4294967296) = 0 then (none) else (if (Int.tmod a1 ((a2) % 4294967296)) = 0 then ((memory_Pages.f l0).bind fun t118 => (some (decide ((IntKind.u64.wrap ((IntKind.u64.wrap (a1)) + (IntKind.u64.wrap (a2)))) ≤ (IntKind.u64.wrap (wrap64 (t118 * 128))))))) else (some false))) else (some false))
set_option maxHeartbeats 8000000 in
set_option maxRecDepth 100000 in
theorem memory_within.calls (A0 : Option Addr) (c0 : Nat) (l0 : List Int) (a1 : Int) (a2 : Int) (r : Bool) (w : World) (hr0 : Kd.C (Kd.int .u32) w A0 l0.length l0) (hc0 : l0.length ≤ c0) (h : memory_within.f l0 a1 a2 = some r) :
    Calls Try.prog 35 #[.slice A0 l0.length c0, .int .u32 a1, .int .i64 a2] w fun e w' => e = .returned (.bool r) ∧ Drawn0 w w' := by
  have HR0 := Aside0.mk hr0
  have HC0 := Aside0.mk hc0
  clear hr0 hc0
  have H : (if a2 = 1 then (if ((a2) % 4294967296) = 0 then (none) else (if (Int.tmod a1 ((a2) % 4294967296)) = 0 then ((memory_Pages.f l0).bind fun t117 => (some (decide ((IntKind.u64.wrap ((IntKind.u64.wrap (a1)) + (IntKind.u64.wrap (a2)))) ≤ (IntKind.u64.wrap (wrap64 (t117 * 128))))))) else (some false))) else (if a2 = 4 then (if ((a2) % 4294967296) = 0 then (none) else (if (Int.tmod a1 ((a2) % 4294967296)) = 0 then ((memory_Pages.f l0).bind fun t118 => (some (decide ((IntKind.u64.wrap ((IntKind.u64.wrap (a1)) + (IntKind.u64.wrap (a2)))) ≤ (IntKind.u64.wrap (wrap64 (t118 * 128))))))) else (some false))) else (some false))) = some r := h
  clear h
  by_cases c4 : a2 = 1
  · rw [if_pos c4] at H
    have c4b0 : (a2 == 1) = true := beq_iff_eq.mpr c4
    have c4b1 : (a2 != 1) = false := bne_eq_false_iff_eq.mpr c4
    clear c4
    by_cases c5 : ((a2) % 4294967296) = 0
    · rw [if_pos c5] at H
      exact absurd H (by simp)
    · rw [if_neg c5] at H
      have c5b0 : (((a2) % 4294967296) == 0) = false := beq_eq_false_iff_ne.mpr c5
      have c5b1 : (((a2) % 4294967296) != 0) = true := bne_iff_ne.mpr c5
      by_cases c6 : (Int.tmod a1 ((a2) % 4294967296)) = 0
      · rw [if_pos c6] at H
        have c6b0 : ((Int.tmod a1 ((a2) % 4294967296)) == 0) = true := beq_iff_eq.mpr c6
        have c6b1 : ((Int.tmod a1 ((a2) % 4294967296)) != 0) = false := bne_eq_false_iff_eq.mpr c6
        clear c6
        replace H := Option.bind_eq_some_iff.mp H
        obtain ⟨t117, A70, H⟩ := H
        replace H : (some (decide ((IntKind.u64.wrap ((IntKind.u64.wrap (a1)) + (IntKind.u64.wrap (a2)))) ≤ (IntKind.u64.wrap (wrap64 (t117 * 128)))))) = some r := H
        have A7 := Aside0.mk A70
        clear A70
        obtain rfl := Option.some.inj H
        go_enter Try.func35, Try.ntmps35
        go_wp2_with (first | (go_at_call 33; (with_reducible refine (memory_Pages.calls _ _ l0 t117 _ ?side1 ?side2 A7.out).mono ?_); (case side1 => repeat (first | exact HR0.out | (with_reducible refine Kd.C_alloc ?_ _) | (with_reducible refine Kd.C_drewN ?_ _) | (with_reducible refine Kd.C_drew ?_))); (case side2 => exact HC0.out); rintro e w' ⟨rfl, ⟨nd, rfl⟩⟩))
        go_ret
        exact ⟨by first | rfl | (simp; done) | (simp [*]; done), by repeat (first | exact Drawn0.refl _ | apply Drawn0.step)⟩
      · rw [if_neg c6] at H
        have c6b0 : ((Int.tmod a1 ((a2) % 4294967296)) == 0) = false := beq_eq_false_iff_ne.mpr c6
        have c6b1 : ((Int.tmod a1 ((a2) % 4294967296)) != 0) = true := bne_iff_ne.mpr c6
        obtain rfl := Option.some.inj H
        go_enter Try.func35, Try.ntmps35
        go_wp2
        go_ret
        exact ⟨by first | rfl | (simp; done) | (simp [*]; done), by repeat (first | exact Drawn0.refl _ | apply Drawn0.step)⟩
  · rw [if_neg c4] at H
    have c4b0 : (a2 == 1) = false := beq_eq_false_iff_ne.mpr c4
    have c4b1 : (a2 != 1) = true := bne_iff_ne.mpr c4
    by_cases c8 : a2 = 4
    · rw [if_pos c8] at H
      have c8b0 : (a2 == 4) = true := beq_iff_eq.mpr c8
      have c8b1 : (a2 != 4) = false := bne_eq_false_iff_eq.mpr c8
      clear c8
      by_cases c9 : ((a2) % 4294967296) = 0
      · rw [if_pos c9] at H
        exact absurd H (by simp)
      · rw [if_neg c9] at H
        have c9b0 : (((a2) % 4294967296) == 0) = false := beq_eq_false_iff_ne.mpr c9
        have c9b1 : (((a2) % 4294967296) != 0) = true := bne_iff_ne.mpr c9
        by_cases c10 : (Int.tmod a1 ((a2) % 4294967296)) = 0
        · rw [if_pos c10] at H
          have c10b0 : ((Int.tmod a1 ((a2) % 4294967296)) == 0) = true := beq_iff_eq.mpr c10
          have c10b1 : ((Int.tmod a1 ((a2) % 4294967296)) != 0) = false := bne_eq_false_iff_eq.mpr c10
          clear c10
          replace H := Option.bind_eq_some_iff.mp H
          obtain ⟨t118, A110, H⟩ := H
          replace H : (some (decide ((IntKind.u64.wrap ((IntKind.u64.wrap (a1)) + (IntKind.u64.wrap (a2)))) ≤ (IntKind.u64.wrap (wrap64 (t118 * 128)))))) = some r := H
          have A11 := Aside0.mk A110
          clear A110
          obtain rfl := Option.some.inj H
          go_enter Try.func35, Try.ntmps35
          go_wp2_with (first | (go_at_call 33; (with_reducible refine (memory_Pages.calls _ _ l0 t118 _ ?side1 ?side2 A11.out).mono ?_); (case side1 => repeat (first | exact HR0.out | (with_reducible refine Kd.C_alloc ?_ _) | (with_reducible refine Kd.C_drewN ?_ _) | (with_reducible refine Kd.C_drew ?_))); (case side2 => exact HC0.out); rintro e w' ⟨rfl, ⟨nd, rfl⟩⟩))
          go_ret
          exact ⟨by first | rfl | (simp; done) | (simp [*]; done), by repeat (first | exact Drawn0.refl _ | apply Drawn0.step)⟩
        · rw [if_neg c10] at H
          have c10b0 : ((Int.tmod a1 ((a2) % 4294967296)) == 0) = false := beq_eq_false_iff_ne.mpr c10
          have c10b1 : ((Int.tmod a1 ((a2) % 4294967296)) != 0) = true := bne_iff_ne.mpr c10
          obtain rfl := Option.some.inj H
          go_enter Try.func35, Try.ntmps35
          go_wp2
          go_ret
          exact ⟨by first | rfl | (simp; done) | (simp [*]; done), by repeat (first | exact Drawn0.refl _ | apply Drawn0.step)⟩
    · rw [if_neg c8] at H
      have c8b0 : (a2 == 4) = false := beq_eq_false_iff_ne.mpr c8
      have c8b1 : (a2 != 4) = true := bne_iff_ne.mpr c8
      obtain rfl := Option.some.inj H
      go_enter Try.func35, Try.ntmps35
      go_wp2
      go_ret
      exact ⟨by first | rfl | (simp; done) | (simp [*]; done), by repeat (first | exact Drawn0.refl _ | apply Drawn0.step)⟩

/-! ### bits_outside: function 39 -/
def bits_outside.f (a0 : Int) (a1 : Int) : Option (Bool) := if a0 < 0 then (some true) else (if a0 > 31 then (some true) else (some (decide (a1 < 1))))
set_option maxHeartbeats 8000000 in
set_option maxRecDepth 100000 in
theorem bits_outside.calls (a0 : Int) (a1 : Int) (r : Bool) (w : World) (h : bits_outside.f a0 a1 = some r) :
    Calls Try.prog 39 #[.int .i64 a0, .int .i64 a1] w fun e w' => e = .returned (.bool r) ∧ Drawn0 w w' := by
  have H : (if a0 < 0 then (some true) else (if a0 > 31 then (some true) else (some (decide (a1 < 1))))) = some r := h
  clear h
  by_cases c3 : a0 < 0
  · rw [if_pos c3] at H
    have c3b0 : decide (a0 < 0) = true := decide_eq_true c3
    clear c3
    obtain rfl := Option.some.inj H
    go_enter Try.func39, Try.ntmps39
    go_wp2
    go_ret
    exact ⟨by first | rfl | (simp; done) | (simp [*]; done), by repeat (first | exact Drawn0.refl _ | apply Drawn0.step)⟩
  · rw [if_neg c3] at H
    have c3b0 : decide (a0 < 0) = false := decide_eq_false c3
    clear c3
    by_cases c4 : a0 > 31
    · rw [if_pos c4] at H
      have c4b0 : decide (31 < a0) = true := decide_eq_true c4
      clear c4
      obtain rfl := Option.some.inj H
      go_enter Try.func39, Try.ntmps39
      go_wp2
      go_ret
      exact ⟨by first | rfl | (simp; done) | (simp [*]; done), by repeat (first | exact Drawn0.refl _ | apply Drawn0.step)⟩
    · rw [if_neg c4] at H
      have c4b0 : decide (31 < a0) = false := decide_eq_false c4
      clear c4
      obtain rfl := Option.some.inj H
      go_enter Try.func39, Try.ntmps39
      go_wp2
      go_ret
      exact ⟨by first | rfl | (simp; done) | (simp [*]; done), by repeat (first | exact Drawn0.refl _ | apply Drawn0.step)⟩

/-! ### bits_mask: function 40 -/
def bits_mask.f (a0 : Int) : Option (Int) := if a0 ≥ 32 then (some 4294967295) else (if 0 ≤ a0 then (some (((shl .u32 1 a0) - 1) % 4294967296)) else (none))
set_option maxHeartbeats 8000000 in
set_option maxRecDepth 100000 in
theorem bits_mask.calls (a0 : Int) (r : Int) (w : World) (h : bits_mask.f a0 = some r) :
    Calls Try.prog 40 #[.int .i64 a0] w fun e w' => e = .returned (.int .u32 r) ∧ Drawn0 w w' := by
  have H : (if a0 ≥ 32 then (some 4294967295) else (if 0 ≤ a0 then (some (((shl .u32 1 a0) - 1) % 4294967296)) else (none))) = some r := h
  clear h
  by_cases c2 : a0 ≥ 32
  · rw [if_pos c2] at H
    have c2b0 : decide (32 ≤ a0) = true := decide_eq_true c2
    clear c2
    obtain rfl := Option.some.inj H
    go_enter Try.func40, Try.ntmps40
    go_wp2
    go_ret
    exact ⟨by first | rfl | (simp; done) | (simp [*]; done), by repeat (first | exact Drawn0.refl _ | apply Drawn0.step)⟩
  · rw [if_neg c2] at H
    have c2b0 : decide (32 ≤ a0) = false := decide_eq_false c2
    clear c2
    by_cases c3 : 0 ≤ a0
    · rw [if_pos c3] at H
      have c3b0 := eq_true c3
      have c3b1 : decide (0 ≤ a0) = true := decide_eq_true c3
      clear c3
      obtain ⟨ji4, hji4⟩ : ∃ j_ : Int, (shl .u32 1 a0) = j_ := ⟨_, rfl⟩
      replace H : (some (((ji4) - 1) % 4294967296)) = some r := by first | (rw [hji4] at H; exact H) | (simp only [hji4] at H ⊢; exact H)
      have hji4_ : (IntKind.u32.wrap (1 * 2 ^ min a0.toNat 32)) = ji4 := hji4
      have hji4z : a0 ≤ 32 → (IntKind.u32.wrap (1 * 2 ^ a0.toNat)) = ji4 := shl_small hji4
      have hji4u : (IntKind.u32.wrap (2 ^ min a0.toNat 32)) = ji4 := by have h_ := hji4_; rw [Int.one_mul] at h_; exact h_
      have hji4v : a0 ≤ 32 → (IntKind.u32.wrap (2 ^ a0.toNat)) = ji4 := fun hle_ => by have h_ := hji4z hle_; rw [Int.one_mul] at h_; exact h_
      obtain rfl := Option.some.inj H
      go_enter Try.func40, Try.ntmps40
      go_wp2
      go_ret
      exact ⟨by first | rfl | (simp; done) | (simp only [← hji4] <;> (first | rfl | simp)) | (simp [*]; done), by repeat (first | exact Drawn0.refl _ | apply Drawn0.step)⟩
    · rw [if_neg c3] at H
      exact absurd H (by simp)

/-! ### bits_Field: function 37 -/
def bits_Field.f (a0 : Int) (a1 : Int) (a2 : Int) : Option (Int) := (bits_outside.f a1 a2).bind fun t119 => (if t119 = true then (some 0) else (if 0 ≤ a1 then ((bits_mask.f a2).bind fun t120 => (some (Go.bits .and .u32 (shr .u32 a0 a1) t120))) else (none)))
set_option maxHeartbeats 8000000 in
set_option maxRecDepth 100000 in
theorem bits_Field.calls (a0 : Int) (a1 : Int) (a2 : Int) (r : Int) (w : World) (h : bits_Field.f a0 a1 a2 = some r) :
    Calls Try.prog 37 #[.int .u32 a0, .int .i64 a1, .int .i64 a2] w fun e w' => e = .returned (.int .u32 r) ∧ Drawn0 w w' := by
  have H : ((bits_outside.f a1 a2).bind fun t119 => (if t119 = true then (some 0) else (if 0 ≤ a1 then ((bits_mask.f a2).bind fun t120 => (some (Go.bits .and .u32 (shr .u32 a0 a1) t120))) else (none)))) = some r := h
  clear h
  replace H := Option.bind_eq_some_iff.mp H
  obtain ⟨t119, A40, H⟩ := H
  replace H : (if t119 = true then (some 0) else (if 0 ≤ a1 then ((bits_mask.f a2).bind fun t120 => (some (Go.bits .and .u32 (shr .u32 a0 a1) t120))) else (none))) = some r := H
  have A4 := Aside0.mk A40
  clear A40
  by_cases c5 : t119 = true
  · subst c5
    have H1 : (some 0) = some r := by rw [if_pos rfl] at H; exact H
    clear H
    have H := H1
    clear H1
    obtain rfl := Option.some.inj H
    go_enter Try.func37, Try.ntmps37
    go_wp2_with (first | (go_at_call 39; (with_reducible refine (bits_outside.calls a1 a2 true _ A4.out).mono ?_); rintro e w' ⟨rfl, ⟨nd, rfl⟩⟩; (try first | exact ⟨rfl, _, World.drewN_drewN _ _ _⟩ | exact ⟨rfl, _, Eq.trans (World.drewN_drewN _ _ _) (congrArg (World.drewN _) (Nat.add_assoc _ _ _))⟩)))
    repeat (go_quiet (first | (go_at_call 39; (with_reducible refine (bits_outside.calls a1 a2 true _ A4.out).mono ?_); rintro e w' ⟨rfl, ⟨nd, rfl⟩⟩; (try first | exact ⟨rfl, _, World.drewN_drewN _ _ _⟩ | exact ⟨rfl, _, Eq.trans (World.drewN_drewN _ _ _) (congrArg (World.drewN _) (Nat.add_assoc _ _ _))⟩))); try go_wp2_with (first | (go_at_call 39; (with_reducible refine (bits_outside.calls a1 a2 true _ A4.out).mono ?_); rintro e w' ⟨rfl, ⟨nd, rfl⟩⟩; (try first | exact ⟨rfl, _, World.drewN_drewN _ _ _⟩ | exact ⟨rfl, _, Eq.trans (World.drewN_drewN _ _ _) (congrArg (World.drewN _) (Nat.add_assoc _ _ _))⟩))))
    go_ret
    exact ⟨by first | rfl | (simp; done) | (simp [*]; done), by repeat (first | exact Drawn0.refl _ | apply Drawn0.step)⟩
  · replace c5 := Bool.eq_false_iff.mpr c5
    subst c5
    have H1 : (if 0 ≤ a1 then ((bits_mask.f a2).bind fun t120 => (some (Go.bits .and .u32 (shr .u32 a0 a1) t120))) else (none)) = some r := by rw [if_neg (show ¬ (false = true) by decide)] at H; exact H
    clear H
    have H := H1
    clear H1
    by_cases c6 : 0 ≤ a1
    · rw [if_pos c6] at H
      have c6b0 := eq_true c6
      have c6b1 : decide (0 ≤ a1) = true := decide_eq_true c6
      clear c6
      obtain ⟨ji7, hji7⟩ : ∃ j_ : Int, (shr .u32 a0 a1) = j_ := ⟨_, rfl⟩
      replace H : ((bits_mask.f a2).bind fun t120 => (some (Go.bits .and .u32 (ji7) t120))) = some r := by first | (rw [hji7] at H; exact H) | (simp only [hji7] at H ⊢; exact H)
      (try rw [hji7] at A4)
      have hji7_ : (a0 / 2 ^ min a1.toNat 32) = ji7 := hji7
      have hji7z : a1 ≤ 32 → (a0 / 2 ^ a1.toNat) = ji7 := shr_small hji7
      replace H := Option.bind_eq_some_iff.mp H
      obtain ⟨t120, A80, H⟩ := H
      replace H : (some (Go.bits .and .u32 (ji7) t120)) = some r := H
      have A8 := Aside0.mk A80
      clear A80
      obtain rfl := Option.some.inj H
      go_enter Try.func37, Try.ntmps37
      go_wp2_with (first | (go_at_call 39; (with_reducible refine (bits_outside.calls a1 a2 false _ A4.out).mono ?_); rintro e w' ⟨rfl, ⟨nd, rfl⟩⟩; (try first | exact ⟨rfl, _, World.drewN_drewN _ _ _⟩ | exact ⟨rfl, _, Eq.trans (World.drewN_drewN _ _ _) (congrArg (World.drewN _) (Nat.add_assoc _ _ _))⟩)) | (go_at_call 40; (with_reducible refine (bits_mask.calls a2 t120 _ A8.out).mono ?_); rintro e w' ⟨rfl, ⟨nd, rfl⟩⟩; (try first | exact ⟨rfl, _, World.drewN_drewN _ _ _⟩ | exact ⟨rfl, _, Eq.trans (World.drewN_drewN _ _ _) (congrArg (World.drewN _) (Nat.add_assoc _ _ _))⟩)))
      repeat (go_quiet (first | (go_at_call 39; (with_reducible refine (bits_outside.calls a1 a2 false _ A4.out).mono ?_); rintro e w' ⟨rfl, ⟨nd, rfl⟩⟩; (try first | exact ⟨rfl, _, World.drewN_drewN _ _ _⟩ | exact ⟨rfl, _, Eq.trans (World.drewN_drewN _ _ _) (congrArg (World.drewN _) (Nat.add_assoc _ _ _))⟩)) | (go_at_call 40; (with_reducible refine (bits_mask.calls a2 t120 _ A8.out).mono ?_); rintro e w' ⟨rfl, ⟨nd, rfl⟩⟩; (try first | exact ⟨rfl, _, World.drewN_drewN _ _ _⟩ | exact ⟨rfl, _, Eq.trans (World.drewN_drewN _ _ _) (congrArg (World.drewN _) (Nat.add_assoc _ _ _))⟩))); try go_wp2_with (first | (go_at_call 39; (with_reducible refine (bits_outside.calls a1 a2 false _ A4.out).mono ?_); rintro e w' ⟨rfl, ⟨nd, rfl⟩⟩; (try first | exact ⟨rfl, _, World.drewN_drewN _ _ _⟩ | exact ⟨rfl, _, Eq.trans (World.drewN_drewN _ _ _) (congrArg (World.drewN _) (Nat.add_assoc _ _ _))⟩)) | (go_at_call 40; (with_reducible refine (bits_mask.calls a2 t120 _ A8.out).mono ?_); rintro e w' ⟨rfl, ⟨nd, rfl⟩⟩; (try first | exact ⟨rfl, _, World.drewN_drewN _ _ _⟩ | exact ⟨rfl, _, Eq.trans (World.drewN_drewN _ _ _) (congrArg (World.drewN _) (Nat.add_assoc _ _ _))⟩))))
      go_ret
      exact ⟨by first | rfl | (simp; done) | (simp only [← hji7] <;> (first | rfl | simp)) | (simp [*]; done), by repeat (first | exact Drawn0.refl _ | apply Drawn0.step)⟩
    · rw [if_neg c6] at H
      exact absurd H (by simp)

/-! ### memory_Load: function 28 -/
def memory_Load.f (l0 : List Int) (a1 : Int) (a2 : Int) : Option (Int × Bool) := (memory_within.f l0 a1 a2).bind fun t121 => (if t121 = true then (if 0 ≤ ((Int.tdiv a1 4) % 4294967296) then (if ((Int.tdiv a1 4) % 4294967296) < (l0.length : Int) then (if a2 = 1 then ((bits_Field.f (rd l0 ((Int.tdiv a1 4) % 4294967296)) (wrap64 (8 * (wrap64 (Int.tmod a1 4)))) 8).bind fun t123 => (some (t123, true))) else (some (rd l0 ((Int.tdiv a1 4) % 4294967296), true))) else (none)) else (none)) else (some (0, false)))
set_option maxHeartbeats 8000000 in
set_option maxRecDepth 100000 in
theorem memory_Load.calls (A0 : Option Addr) (c0 : Nat) (l0 : List Int) (a1 : Int) (a2 : Int) (r1 : Int) (r2 : Bool) (w : World) (hr0 : Kd.C (Kd.int .u32) w A0 l0.length l0) (hc0 : l0.length ≤ c0) (h : memory_Load.f l0 a1 a2 = some (r1, r2)) :
    Calls Try.prog 28 #[.slice A0 l0.length c0, .int .u32 a1, .int .i64 a2] w fun e w' => e = .returned (.tuple #[.int .u32 r1, .bool r2]) ∧ Drawn0 w w' := by
  have HR0 := Aside0.mk hr0
  have HC0 := Aside0.mk hc0
  clear hr0 hc0
  have H : ((memory_within.f l0 a1 a2).bind fun t121 => (if t121 = true then (if 0 ≤ ((Int.tdiv a1 4) % 4294967296) then (if ((Int.tdiv a1 4) % 4294967296) < (l0.length : Int) then (if a2 = 1 then ((bits_Field.f (rd l0 ((Int.tdiv a1 4) % 4294967296)) (wrap64 (8 * (wrap64 (Int.tmod a1 4)))) 8).bind fun t123 => (some (t123, true))) else (some (rd l0 ((Int.tdiv a1 4) % 4294967296), true))) else (none)) else (none)) else (some (0, false)))) = some (r1, r2) := h
  clear h
  replace H := Option.bind_eq_some_iff.mp H
  obtain ⟨t121, A40, H⟩ := H
  replace H : (if t121 = true then (if 0 ≤ ((Int.tdiv a1 4) % 4294967296) then (if ((Int.tdiv a1 4) % 4294967296) < (l0.length : Int) then (if a2 = 1 then ((bits_Field.f (rd l0 ((Int.tdiv a1 4) % 4294967296)) (wrap64 (8 * (wrap64 (Int.tmod a1 4)))) 8).bind fun t123 => (some (t123, true))) else (some (rd l0 ((Int.tdiv a1 4) % 4294967296), true))) else (none)) else (none)) else (some (0, false))) = some (r1, r2) := H
  have A4 := Aside0.mk A40
  clear A40
  by_cases c5 : t121 = true
  · subst c5
    have H1 : (if 0 ≤ ((Int.tdiv a1 4) % 4294967296) then (if ((Int.tdiv a1 4) % 4294967296) < (l0.length : Int) then (if a2 = 1 then ((bits_Field.f (rd l0 ((Int.tdiv a1 4) % 4294967296)) (wrap64 (8 * (wrap64 (Int.tmod a1 4)))) 8).bind fun t123 => (some (t123, true))) else (some (rd l0 ((Int.tdiv a1 4) % 4294967296), true))) else (none)) else (none)) = some (r1, r2) := by rw [if_pos rfl] at H; exact H
    clear H
    have H := H1
    clear H1
    obtain ⟨ji6, hji6⟩ : ∃ j_ : Int, ((Int.tdiv a1 4) % 4294967296) = j_ := ⟨_, rfl⟩
    replace H : (if 0 ≤ (ji6) then (if (ji6) < (l0.length : Int) then (if a2 = 1 then ((bits_Field.f (rd l0 (ji6)) (wrap64 (8 * (wrap64 (Int.tmod a1 4)))) 8).bind fun t123 => (some (t123, true))) else (some (rd l0 (ji6), true))) else (none)) else (none)) = some (r1, r2) := by first | (rw [hji6] at H; exact H) | (simp only [hji6] at H ⊢; exact H)
    (try rw [hji6] at A4)
    by_cases c7 : 0 ≤ (ji6)
    · rw [if_pos c7] at H
      have c7b0 : decide (0 ≤ (ji6)) = true := decide_eq_true c7
      clear c7
      by_cases c8 : (ji6) < (l0.length : Int)
      · rw [if_pos c8] at H
        have c8b0 : decide ((ji6) < (l0.length : Int)) = true := decide_eq_true c8
        clear c8
        by_cases c9 : a2 = 1
        · rw [if_pos c9] at H
          have c9b0 : (a2 == 1) = true := beq_iff_eq.mpr c9
          have c9b1 : (a2 != 1) = false := bne_eq_false_iff_eq.mpr c9
          clear c9
          replace H := Option.bind_eq_some_iff.mp H
          obtain ⟨t123, A100, H⟩ := H
          replace H : (some (t123, true)) = some (r1, r2) := H
          have A10 := Aside0.mk A100
          clear A100
          simp only [Option.some.injEq, Prod.mk.injEq] at H
          obtain ⟨rfl, rfl⟩ := H
          go_enter Try.func28, Try.ntmps28
          go_wp2_with (first | ((with_reducible refine gate_callee (f := 35) rfl ?_); refine goesL_ (some 12) rfl rfl Try.func35 (by kernel_rfl) rfl #[.slice A0 l0.length c0, .int .u32 a1, .int .i64 a2] rfl (by (try simp only [List.map_toArray, List.map_cons, List.map_nil]); first | done | rfl | (simp only [List.length_drop, List.length_take]; rfl)) ?_; (with_reducible refine (memory_within.calls _ _ l0 a1 a2 true _ ?side1 ?side2 A4.out).mono ?_); (case side1 => repeat (first | exact HR0.out | (with_reducible refine Kd.C_alloc ?_ _) | (with_reducible refine Kd.C_drewN ?_ _) | (with_reducible refine Kd.C_drew ?_))); (case side2 => exact HC0.out); rintro e w' ⟨rfl, ⟨nd, rfl⟩⟩; refine ⟨_, rfl, ?_⟩; have p122 : 0 ≤ ((ji6) : Int) := of_decide_eq_true (by first | (with_reducible assumption) | assumption); have q122 : (ji6) < (l0.length : Int) := of_decide_eq_true (by first | (with_reducible assumption) | assumption); obtain ⟨ad122, e122, hx122_0⟩ := Kd.at_int HR0.out (ji6) p122 q122; cases e122; replace p122 := eq_true p122; replace q122 := eq_true q122) | ((with_reducible refine gate_callee (f := 37) rfl ?_); refine goesL_ (some 26) rfl rfl Try.func37 (by kernel_rfl) rfl #[.int .u32 (rd l0 (ji6)), .int .i64 (wrap64 (8 * (wrap64 (Int.tmod a1 4)))), .int .i64 8] rfl (by (try simp only [List.map_toArray, List.map_cons, List.map_nil]); first | done | (simp only [hji6]; rfl) | rfl | (simp only [List.length_drop, List.length_take]; rfl)) ?_; (with_reducible refine (bits_Field.calls (rd l0 (ji6)) (wrap64 (8 * (wrap64 (Int.tmod a1 4)))) 8 t123 _ A10.out).mono ?_); rintro e w' ⟨rfl, ⟨nd, rfl⟩⟩; refine ⟨_, rfl, ?_⟩))
          go_ret2
          exact ⟨by first | rfl | (simp; done) | (simp only [← hji6] <;> (first | rfl | simp)) | (simp [*]; done), by repeat (first | exact Drawn0.refl _ | apply Drawn0.step)⟩
        · rw [if_neg c9] at H
          have c9b0 : (a2 == 1) = false := beq_eq_false_iff_ne.mpr c9
          have c9b1 : (a2 != 1) = true := bne_iff_ne.mpr c9
          simp only [Option.some.injEq, Prod.mk.injEq] at H
          obtain ⟨rfl, rfl⟩ := H
          go_enter Try.func28, Try.ntmps28
          go_wp2_with (first | ((with_reducible refine gate_callee (f := 35) rfl ?_); refine goesL_ (some 12) rfl rfl Try.func35 (by kernel_rfl) rfl #[.slice A0 l0.length c0, .int .u32 a1, .int .i64 a2] rfl (by (try simp only [List.map_toArray, List.map_cons, List.map_nil]); first | done | rfl | (simp only [List.length_drop, List.length_take]; rfl)) ?_; (with_reducible refine (memory_within.calls _ _ l0 a1 a2 true _ ?side1 ?side2 A4.out).mono ?_); (case side1 => repeat (first | exact HR0.out | (with_reducible refine Kd.C_alloc ?_ _) | (with_reducible refine Kd.C_drewN ?_ _) | (with_reducible refine Kd.C_drew ?_))); (case side2 => exact HC0.out); rintro e w' ⟨rfl, ⟨nd, rfl⟩⟩; refine ⟨_, rfl, ?_⟩; have p122 : 0 ≤ ((ji6) : Int) := of_decide_eq_true (by first | (with_reducible assumption) | assumption); have q122 : (ji6) < (l0.length : Int) := of_decide_eq_true (by first | (with_reducible assumption) | assumption); obtain ⟨ad122, e122, hx122_0⟩ := Kd.at_int HR0.out (ji6) p122 q122; cases e122; replace p122 := eq_true p122; replace q122 := eq_true q122))
          go_ret2
          exact ⟨by first | rfl | (simp; done) | (simp only [← hji6] <;> (first | rfl | simp)) | (simp [*]; done), by repeat (first | exact Drawn0.refl _ | apply Drawn0.step)⟩
      · rw [if_neg c8] at H
        exact absurd H (by simp)
    · rw [if_neg c7] at H
      exact absurd H (by simp)
  · replace c5 := Bool.eq_false_iff.mpr c5
    subst c5
    have H1 : (some (0, false)) = some (r1, r2) := by rw [if_neg (show ¬ (false = true) by decide)] at H; exact H
    clear H
    have H := H1
    clear H1
    simp only [Option.some.injEq, Prod.mk.injEq] at H
    obtain ⟨rfl, rfl⟩ := H
    go_enter Try.func28, Try.ntmps28
    go_wp2_with (first | ((with_reducible refine gate_callee (f := 35) rfl ?_); refine goesL_ (some 12) rfl rfl Try.func35 (by kernel_rfl) rfl #[.slice A0 l0.length c0, .int .u32 a1, .int .i64 a2] rfl (by (try simp only [List.map_toArray, List.map_cons, List.map_nil]); first | done | rfl | (simp only [List.length_drop, List.length_take]; rfl)) ?_; (with_reducible refine (memory_within.calls _ _ l0 a1 a2 false _ ?side1 ?side2 A4.out).mono ?_); (case side1 => repeat (first | exact HR0.out | (with_reducible refine Kd.C_alloc ?_ _) | (with_reducible refine Kd.C_drewN ?_ _) | (with_reducible refine Kd.C_drew ?_))); (case side2 => exact HC0.out); rintro e w' ⟨rfl, ⟨nd, rfl⟩⟩; refine ⟨_, rfl, ?_⟩))
    go_ret2
    exact ⟨by first | rfl | (simp; done) | (simp [*]; done), by repeat (first | exact Drawn0.refl _ | apply Drawn0.step)⟩

/-! ### paging_Frame: function 29 -/
def paging_Frame.f (a0 : Int) : Option (Int) := (bits_Field.f a0 8 8).bind fun t124 => (some t124)
set_option maxHeartbeats 8000000 in
set_option maxRecDepth 100000 in
theorem paging_Frame.calls (a0 : Int) (r : Int) (w : World) (h : paging_Frame.f a0 = some r) :
    Calls Try.prog 29 #[.int .u32 a0] w fun e w' => e = .returned (.int .u32 r) ∧ Drawn0 w w' := by
  have H : ((bits_Field.f a0 8 8).bind fun t124 => (some t124)) = some r := h
  clear h
  replace H := Option.bind_eq_some_iff.mp H
  obtain ⟨t124, A20, H⟩ := H
  replace H : (some t124) = some r := H
  have A2 := Aside0.mk A20
  clear A20
  obtain rfl := Option.some.inj H
  go_enter Try.func29, Try.ntmps29
  go_wp2_with (first | ((with_reducible refine gate_callee (f := 37) rfl ?_); refine goesL_ (some 4) rfl rfl Try.func37 (by kernel_rfl) rfl #[.int .u32 a0, .int .i64 8, .int .i64 8] rfl (by (try simp only [List.map_toArray, List.map_cons, List.map_nil]); first | done | rfl | (simp only [List.length_drop, List.length_take]; rfl)) ?_; (with_reducible refine (bits_Field.calls a0 8 8 t124 _ A2.out).mono ?_); rintro e w' ⟨rfl, ⟨nd, rfl⟩⟩; refine ⟨_, rfl, ?_⟩))
  go_ret
  exact ⟨by first | rfl | (simp; done) | (simp [*]; done), by repeat (first | exact Drawn0.refl _ | apply Drawn0.step)⟩

end Go.Proofs.Ytbijkhoeaddemaa.HPagingLists
