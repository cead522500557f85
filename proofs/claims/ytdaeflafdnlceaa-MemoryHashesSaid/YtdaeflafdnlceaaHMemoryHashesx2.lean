-- Written for this claim by wip/hook.py, by means of the kit's print and of hand-proved contracts.
import Derived.Test.YtdaeflafdnlceaaHMemoryHashesx0
import Derived.Test.YtdaeflafdnlceaaHMemoryHashesx1
namespace Go.Proofs.Ytdaeflafdnlceaa.HMemoryHashes
open Go.RowKit Go.Proofs.YtdaeflafdnlceaaW.PrintWords Go.Proofs.YtdaeflafdnlceaaW.PrintLast Go.Proofs.YtdaeflafdnlceaaW.PrintMore
attribute [local go_sem] max2_int min2_int max_two min_two max_three min_three max_four min_four   -- for this text's walks alone
set_option linter.unusedVariables false
set_option linter.unusedSimpArgs false

/-! ### memory_Load: function 12 -/
def memory_Load.f (l0 : List Int) (a1 : Int) (a2 : Int) : Option (Int × Bool) := (memory_within.f l0 a1 a2).bind fun t120 => (if t120 = true then (if 0 ≤ ((Int.tdiv a1 4) % 4294967296) then (if ((Int.tdiv a1 4) % 4294967296) < (l0.length : Int) then (if a2 = 1 then ((bits_Field.f (rd l0 ((Int.tdiv a1 4) % 4294967296)) (wrap64 (8 * (wrap64 (Int.tmod a1 4)))) 8).bind fun t122 => (some (t122, true))) else (some (rd l0 ((Int.tdiv a1 4) % 4294967296), true))) else (none)) else (none)) else (some (0, false)))
set_option maxHeartbeats 8000000 in
set_option maxRecDepth 100000 in
theorem memory_Load.calls (A0 : Option Addr) (c0 : Nat) (l0 : List Int) (a1 : Int) (a2 : Int) (r1 : Int) (r2 : Bool) (w : World) (hr0 : Kd.C (Kd.int .u32) w A0 l0.length l0) (hc0 : l0.length ≤ c0) (h : memory_Load.f l0 a1 a2 = some (r1, r2)) :
    Calls Try.prog 12 #[.slice A0 l0.length c0, .int .u32 a1, .int .i64 a2] w fun e w' => e = .returned (.tuple #[.int .u32 r1, .bool r2]) ∧ Drawn0 w w' := by
  have HR0 := Aside0.mk hr0
  have HC0 := Aside0.mk hc0
  clear hr0 hc0
  have H : ((memory_within.f l0 a1 a2).bind fun t120 => (if t120 = true then (if 0 ≤ ((Int.tdiv a1 4) % 4294967296) then (if ((Int.tdiv a1 4) % 4294967296) < (l0.length : Int) then (if a2 = 1 then ((bits_Field.f (rd l0 ((Int.tdiv a1 4) % 4294967296)) (wrap64 (8 * (wrap64 (Int.tmod a1 4)))) 8).bind fun t122 => (some (t122, true))) else (some (rd l0 ((Int.tdiv a1 4) % 4294967296), true))) else (none)) else (none)) else (some (0, false)))) = some (r1, r2) := h
  clear h
  replace H := Option.bind_eq_some_iff.mp H
  obtain ⟨t120, A40, H⟩ := H
  replace H : (if t120 = true then (if 0 ≤ ((Int.tdiv a1 4) % 4294967296) then (if ((Int.tdiv a1 4) % 4294967296) < (l0.length : Int) then (if a2 = 1 then ((bits_Field.f (rd l0 ((Int.tdiv a1 4) % 4294967296)) (wrap64 (8 * (wrap64 (Int.tmod a1 4)))) 8).bind fun t122 => (some (t122, true))) else (some (rd l0 ((Int.tdiv a1 4) % 4294967296), true))) else (none)) else (none)) else (some (0, false))) = some (r1, r2) := H
  have A4 := Aside0.mk A40
  clear A40
  by_cases c5 : t120 = true
  · subst c5
    have H1 : (if 0 ≤ ((Int.tdiv a1 4) % 4294967296) then (if ((Int.tdiv a1 4) % 4294967296) < (l0.length : Int) then (if a2 = 1 then ((bits_Field.f (rd l0 ((Int.tdiv a1 4) % 4294967296)) (wrap64 (8 * (wrap64 (Int.tmod a1 4)))) 8).bind fun t122 => (some (t122, true))) else (some (rd l0 ((Int.tdiv a1 4) % 4294967296), true))) else (none)) else (none)) = some (r1, r2) := by rw [if_pos rfl] at H; exact H
    clear H
    have H := H1
    clear H1
    obtain ⟨ji6, hji6⟩ : ∃ j_ : Int, ((Int.tdiv a1 4) % 4294967296) = j_ := ⟨_, rfl⟩
    replace H : (if 0 ≤ (ji6) then (if (ji6) < (l0.length : Int) then (if a2 = 1 then ((bits_Field.f (rd l0 (ji6)) (wrap64 (8 * (wrap64 (Int.tmod a1 4)))) 8).bind fun t122 => (some (t122, true))) else (some (rd l0 (ji6), true))) else (none)) else (none)) = some (r1, r2) := by first | (rw [hji6] at H; exact H) | (simp only [hji6] at H ⊢; exact H)
    (try rw [hji6] at A4)
    by_cases c7 : 0 ≤ (ji6)
    · rw [if_pos c7] at H
      have c7b0 : decide (0 ≤ (ji6)) = true := decide_eq_true c7
      clear c7
      by_cases c8 : (ji6) < (l0.length : Int)
      · rw [if_pos c8] at H
        have c8b0 : decide ((ji6) < (l0.length : Int)) = true := decide_eq_true c8
        clear c8
        by_cases c9 : a2 = 1
        · rw [if_pos c9] at H
          have c9b0 : (a2 == 1) = true := beq_iff_eq.mpr c9
          have c9b1 : (a2 != 1) = false := bne_eq_false_iff_eq.mpr c9
          clear c9
          replace H := Option.bind_eq_some_iff.mp H
          obtain ⟨t122, A100, H⟩ := H
          replace H : (some (t122, true)) = some (r1, r2) := H
          have A10 := Aside0.mk A100
          clear A100
          simp only [Option.some.injEq, Prod.mk.injEq] at H
          obtain ⟨rfl, rfl⟩ := H
          go_enter Try.func12, Try.ntmps12
          go_wp2_with (first | ((with_reducible refine gate_callee (f := 33) rfl ?_); refine goesL_ (some 12) rfl rfl Try.func33 (by kernel_rfl) rfl #[.slice A0 l0.length c0, .int .u32 a1, .int .i64 a2] rfl (by (try simp only [List.map_toArray, List.map_cons, List.map_nil]); first | done | rfl | (simp only [List.length_drop, List.length_take]; rfl)) ?_; (with_reducible refine (memory_within.calls _ _ l0 a1 a2 true _ ?side1 ?side2 A4.out).mono ?_); (case side1 => repeat (first | exact HR0.out | (with_reducible refine Kd.C_alloc ?_ _) | (with_reducible refine Kd.C_drewN ?_ _) | (with_reducible refine Kd.C_drew ?_))); (case side2 => exact HC0.out); rintro e w' ⟨rfl, ⟨nd, rfl⟩⟩; refine ⟨_, rfl, ?_⟩; have p121 : 0 ≤ ((ji6) : Int) := of_decide_eq_true (by first | (with_reducible assumption) | assumption); have q121 : (ji6) < (l0.length : Int) := of_decide_eq_true (by first | (with_reducible assumption) | assumption); obtain ⟨ad121, e121, hx121_0⟩ := Kd.at_int HR0.out (ji6) p121 q121; cases e121; replace p121 := eq_true p121; replace q121 := eq_true q121) | ((with_reducible refine gate_callee (f := 34) rfl ?_); refine goesL_ (some 26) rfl rfl Try.func34 (by kernel_rfl) rfl #[.int .u32 (rd l0 (ji6)), .int .i64 (wrap64 (8 * (wrap64 (Int.tmod a1 4)))), .int .i64 8] rfl (by (try simp only [List.map_toArray, List.map_cons, List.map_nil]); first | done | (simp only [hji6]; rfl) | rfl | (simp only [List.length_drop, List.length_take]; rfl)) ?_; (with_reducible refine (bits_Field.calls (rd l0 (ji6)) (wrap64 (8 * (wrap64 (Int.tmod a1 4)))) 8 t122 _ A10.out).mono ?_); rintro e w' ⟨rfl, ⟨nd, rfl⟩⟩; refine ⟨_, rfl, ?_⟩))
          go_ret2
          exact ⟨by first | rfl | (simp; done) | (simp only [← hji6] <;> (first | rfl | simp)) | (simp [*]; done), by repeat (first | exact Drawn0.refl _ | apply Drawn0.step)⟩
        · rw [if_neg c9] at H
          have c9b0 : (a2 == 1) = false := beq_eq_false_iff_ne.mpr c9
          have c9b1 : (a2 != 1) = true := bne_iff_ne.mpr c9
          simp only [Option.some.injEq, Prod.mk.injEq] at H
          obtain ⟨rfl, rfl⟩ := H
          go_enter Try.func12, Try.ntmps12
          go_wp2_with (first | ((with_reducible refine gate_callee (f := 33) rfl ?_); refine goesL_ (some 12) rfl rfl Try.func33 (by kernel_rfl) rfl #[.slice A0 l0.length c0, .int .u32 a1, .int .i64 a2] rfl (by (try simp only [List.map_toArray, List.map_cons, List.map_nil]); first | done | rfl | (simp only [List.length_drop, List.length_take]; rfl)) ?_; (with_reducible refine (memory_within.calls _ _ l0 a1 a2 true _ ?side1 ?side2 A4.out).mono ?_); (case side1 => repeat (first | exact HR0.out | (with_reducible refine Kd.C_alloc ?_ _) | (with_reducible refine Kd.C_drewN ?_ _) | (with_reducible refine Kd.C_drew ?_))); (case side2 => exact HC0.out); rintro e w' ⟨rfl, ⟨nd, rfl⟩⟩; refine ⟨_, rfl, ?_⟩; have p121 : 0 ≤ ((ji6) : Int) := of_decide_eq_true (by first | (with_reducible assumption) | assumption); have q121 : (ji6) < (l0.length : Int) := of_decide_eq_true (by first | (with_reducible assumption) | assumption); obtain ⟨ad121, e121, hx121_0⟩ := Kd.at_int HR0.out (ji6) p121 q121; cases e121; replace p121 := eq_true p121; replace q121 := eq_true q121))
          go_ret2
          exact ⟨by first | rfl | (simp; done) | (simp only [← hji6] <;> (first | rfl | simp)) | (simp [*]; done), by repeat (first | exact Drawn0.refl _ | apply Drawn0.step)⟩
      · rw [if_neg c8] at H
        exact absurd H (by simp)
    · rw [if_neg c7] at H
      exact absurd H (by simp)
  · replace c5 := Bool.eq_false_iff.mpr c5
    subst c5
    have H1 : (some (0, false)) = some (r1, r2) := by rw [if_neg (show ¬ (false = true) by decide)] at H; exact H
    clear H
    have H := H1
    clear H1
    simp only [Option.some.injEq, Prod.mk.injEq] at H
    obtain ⟨rfl, rfl⟩ := H
    go_enter Try.func12, Try.ntmps12
    go_wp2_with (first | ((with_reducible refine gate_callee (f := 33) rfl ?_); refine goesL_ (some 12) rfl rfl Try.func33 (by kernel_rfl) rfl #[.slice A0 l0.length c0, .int .u32 a1, .int .i64 a2] rfl (by (try simp only [List.map_toArray, List.map_cons, List.map_nil]); first | done | rfl | (simp only [List.length_drop, List.length_take]; rfl)) ?_; (with_reducible refine (memory_within.calls _ _ l0 a1 a2 false _ ?side1 ?side2 A4.out).mono ?_); (case side1 => repeat (first | exact HR0.out | (with_reducible refine Kd.C_alloc ?_ _) | (with_reducible refine Kd.C_drewN ?_ _) | (with_reducible refine Kd.C_drew ?_))); (case side2 => exact HC0.out); rintro e w' ⟨rfl, ⟨nd, rfl⟩⟩; refine ⟨_, rfl, ?_⟩))
    go_ret2
    exact ⟨by first | rfl | (simp; done) | (simp [*]; done), by repeat (first | exact Drawn0.refl _ | apply Drawn0.step)⟩

/-! ### memory_clone: function 36 -/
def memory_clone.f (l0 : List Int) : Option (List Int) := if l0.length ≤ 70368744177664 then some l0 else none
set_option maxHeartbeats 4000000 in
set_option maxRecDepth 100000 in
theorem memory_clone.calls (A0 : Option Addr) (c0 : Nat) (l0 : List Int) (r : List Int) (w : World) (hr0 : Kd.C (Kd.int .u32) w A0 l0.length l0) (hc0 : l0.length ≤ c0) (h : memory_clone.f l0 = some r) :
    Calls Try.prog 36 #[.slice A0 l0.length c0] w fun e w' => ∃ v0_ : Value, e = .returned (v0_) ∧ Kd.R (Kd.int .u32) 24 w' w.heap.size (fun _ => True) v0_ r ∧ Below w.heap.size w w' := by
  have HR := Aside0.mk hr0
  clear hr0
  unfold memory_clone.f at h
  by_cases hb : l0.length ≤ 70368744177664
  · rw [if_pos hb] at h
    obtain rfl := Option.some.inj h
    by_cases hz : l0.length = 0
    · obtain rfl : l0 = [] := List.eq_nil_of_length_eq_zero hz
      clear h hb
      go_enter Try.func36, Try.ntmps36
      go_wp2
      go_ret
      exact ⟨_, rfl, Kd.R_nil _ _ _ _ _, Below.refl _ _⟩
    · have t1 : ((l0.length : Int) == 0) = false := by simp; intro e; subst e; exact hz rfl
      have t2 : l0 ≠ [] := fun e => hz (by rw [e]; rfl)
      have t3 : (l0.length == 0) = false := by simpa using hz
      clear h hz
      go_enter Try.func36, Try.ntmps36
      go_wp2_with (first | (refine Kd.R_make (Kd.int .u32) _ 24 rfl (by rfl) 22 _ _ rfl (l0.length : Int) rfl rfl Try.underlying22 (.int .u32 0) 4 info24 rfl (by decide) (by omega) 0 (ok := fun _ => True) (okp := fun _ => True) rfl (fun _ hk => hk) trivial (by omega) (by omega) (Below.refl _ _) (Nat.le_refl _) ?_; intro v109 w7 ho8 hb8 hg_ hnew_; clear hg_ hnew_; have HO := Aside0.mk ho8; have HB := Aside0.mk hb8; have HC := Aside0.mk (Kd.C_below HR.out hb8); clear ho8 hb8) | (refine Go.Proofs.Ytdaeflafdnlceaa.Hand.R_copy_all rfl _ _ _ _ rfl Try.underlying22 (by kernel_rfl) _ _ l0 _ _ rfl rfl HO.out HC.out (by simp) HB.out ?_; intro w8 ho9 hb9; have HO9 := Aside0.mk ho9; have HB9 := Aside0.mk hb9; clear ho9 hb9))
      go_ret
      exact ⟨_, rfl, HO9.out, HB9.out⟩
  · rw [if_neg hb] at h
    exact absurd h (by simp)

/-! ### bits_SetField: function 37 -/
def bits_SetField.f (a0 : Int) (a1 : Int) (a2 : Int) (a3 : Int) : Option (Int) := (bits_outside.f a1 a2).bind fun t123 => (if t123 = true then (some a0) else ((bits_mask.f a2).bind fun t124 => (if 0 ≤ a1 then (some (Go.bits .or .u32 (Go.bits .andNot .u32 a0 (shl .u32 t124 a1)) (Go.bits .and .u32 (shl .u32 a3 a1) (shl .u32 t124 a1)))) else (none))))
set_option maxHeartbeats 8000000 in
set_option maxRecDepth 100000 in
theorem bits_SetField.calls (a0 : Int) (a1 : Int) (a2 : Int) (a3 : Int) (r : Int) (w : World) (h : bits_SetField.f a0 a1 a2 a3 = some r) :
    Calls Try.prog 37 #[.int .u32 a0, .int .i64 a1, .int .i64 a2, .int .u32 a3] w fun e w' => e = .returned (.int .u32 r) ∧ Drawn0 w w' := by
  have H : ((bits_outside.f a1 a2).bind fun t123 => (if t123 = true then (some a0) else ((bits_mask.f a2).bind fun t124 => (if 0 ≤ a1 then (some (Go.bits .or .u32 (Go.bits .andNot .u32 a0 (shl .u32 t124 a1)) (Go.bits .and .u32 (shl .u32 a3 a1) (shl .u32 t124 a1)))) else (none))))) = some r := h
  clear h
  replace H := Option.bind_eq_some_iff.mp H
  obtain ⟨t123, A50, H⟩ := H
  replace H : (if t123 = true then (some a0) else ((bits_mask.f a2).bind fun t124 => (if 0 ≤ a1 then (some (Go.bits .or .u32 (Go.bits .andNot .u32 a0 (shl .u32 t124 a1)) (Go.bits .and .u32 (shl .u32 a3 a1) (shl .u32 t124 a1)))) else (none)))) = some r := H
  have A5 := Aside0.mk A50
  clear A50
  by_cases c6 : t123 = true
  · subst c6
    have H1 : (some a0) = some r := by rw [if_pos rfl] at H; exact H
    clear H
    have H := H1
    clear H1
    obtain rfl := Option.some.inj H
    go_enter Try.func37, Try.ntmps37
    go_wp2_with (first | ((with_reducible refine gate_callee (f := 47) rfl ?_); refine goesL_ (some 12) rfl rfl Try.func47 (by kernel_rfl) rfl #[.int .i64 a1, .int .i64 a2] rfl (by (try simp only [List.map_toArray, List.map_cons, List.map_nil]); first | done | rfl | (simp only [List.length_drop, List.length_take]; rfl)) ?_; (with_reducible refine (bits_outside.calls a1 a2 true _ A5.out).mono ?_); rintro e w' ⟨rfl, ⟨nd, rfl⟩⟩; refine ⟨_, rfl, ?_⟩))
    go_ret
    exact ⟨by first | rfl | (simp; done) | (simp [*]; done), by repeat (first | exact Drawn0.refl _ | apply Drawn0.step)⟩
  · replace c6 := Bool.eq_false_iff.mpr c6
    subst c6
    have H1 : ((bits_mask.f a2).bind fun t124 => (if 0 ≤ a1 then (some (Go.bits .or .u32 (Go.bits .andNot .u32 a0 (shl .u32 t124 a1)) (Go.bits .and .u32 (shl .u32 a3 a1) (shl .u32 t124 a1)))) else (none))) = some r := by rw [if_neg (show ¬ (false = true) by decide)] at H; exact H
    clear H
    have H := H1
    clear H1
    replace H := Option.bind_eq_some_iff.mp H
    obtain ⟨t124, A70, H⟩ := H
    replace H : (if 0 ≤ a1 then (some (Go.bits .or .u32 (Go.bits .andNot .u32 a0 (shl .u32 t124 a1)) (Go.bits .and .u32 (shl .u32 a3 a1) (shl .u32 t124 a1)))) else (none)) = some r := H
    have A7 := Aside0.mk A70
    clear A70
    by_cases c8 : 0 ≤ a1
    · rw [if_pos c8] at H
      have c8b0 := eq_true c8
      have c8b1 : decide (0 ≤ a1) = true := decide_eq_true c8
      clear c8
      obtain ⟨ji9, hji9⟩ : ∃ j_ : Int, (shl .u32 t124 a1) = j_ := ⟨_, rfl⟩
      replace H : (some (Go.bits .or .u32 (Go.bits .andNot .u32 a0 (ji9)) (Go.bits .and .u32 (shl .u32 a3 a1) (ji9)))) = some r := by first | (rw [hji9] at H; exact H) | (simp only [hji9] at H ⊢; exact H)
      (try rw [hji9] at A5)
      (try rw [hji9] at A7)
      have hji9_ : (IntKind.u32.wrap (t124 * 2 ^ min a1.toNat 32)) = ji9 := hji9
      have hji9z : a1 ≤ 32 → (IntKind.u32.wrap (t124 * 2 ^ a1.toNat)) = ji9 := shl_small hji9
      have c10b0 := eq_true (of_decide_eq_true (by first | (with_reducible assumption) | assumption) : 0 ≤ a1)
      obtain ⟨ji11, hji11⟩ : ∃ j_ : Int, (shl .u32 a3 a1) = j_ := ⟨_, rfl⟩
      replace H : (some (Go.bits .or .u32 (Go.bits .andNot .u32 a0 (ji9)) (Go.bits .and .u32 (ji11) (ji9)))) = some r := by first | (rw [hji11] at H; exact H) | (simp only [hji11] at H ⊢; exact H)
      (try rw [hji11] at A5)
      (try rw [hji11] at A7)
      have hji11_ : (IntKind.u32.wrap (a3 * 2 ^ min a1.toNat 32)) = ji11 := hji11
      have hji11z : a1 ≤ 32 → (IntKind.u32.wrap (a3 * 2 ^ a1.toNat)) = ji11 := shl_small hji11
      obtain rfl := Option.some.inj H
      go_enter Try.func37, Try.ntmps37
      go_wp2_with (first | ((with_reducible refine gate_callee (f := 47) rfl ?_); refine goesL_ (some 12) rfl rfl Try.func47 (by kernel_rfl) rfl #[.int .i64 a1, .int .i64 a2] rfl (by (try simp only [List.map_toArray, List.map_cons, List.map_nil]); first | done | rfl | (simp only [List.length_drop, List.length_take]; rfl)) ?_; (with_reducible refine (bits_outside.calls a1 a2 false _ A5.out).mono ?_); rintro e w' ⟨rfl, ⟨nd, rfl⟩⟩; refine ⟨_, rfl, ?_⟩) | ((with_reducible refine gate_callee (f := 48) rfl ?_); refine goesL_ (some 15) rfl rfl Try.func48 (by kernel_rfl) rfl #[.int .i64 a2] rfl (by (try simp only [List.map_toArray, List.map_cons, List.map_nil]); first | done | rfl | (simp only [List.length_drop, List.length_take]; rfl)) ?_; (with_reducible refine (bits_mask.calls a2 t124 _ A7.out).mono ?_); rintro e w' ⟨rfl, ⟨nd, rfl⟩⟩; refine ⟨_, rfl, ?_⟩))
      go_ret
      exact ⟨by first | rfl | (simp; done) | (simp only [← hji9, ← hji11] <;> (first | rfl | simp)) | (simp [*]; done), by repeat (first | exact Drawn0.refl _ | apply Drawn0.step)⟩
    · rw [if_neg c8] at H
      exact absurd H (by simp)

/-! ### memory_Store: function 14 -/
def memory_Store.f (l0 : List Int) (a1 : Int) (a2 : Int) (a3 : Int) : Option (List Int × Bool) := (memory_clone.f l0).bind fun t125 => ((memory_within.f l0 a1 a2).bind fun t128 => (if t128 = true then (if a2 = 1 then (if 0 ≤ ((Int.tdiv a1 4) % 4294967296) then (if ((Int.tdiv a1 4) % 4294967296) < (l0.length : Int) then ((bits_SetField.f (rd l0 ((Int.tdiv a1 4) % 4294967296)) (wrap64 (8 * (wrap64 (Int.tmod a1 4)))) 8 a3).bind fun t130 => (if ((Int.tdiv a1 4) % 4294967296) < (t125.length : Int) then (some ((t125.set (((Int.tdiv a1 4) % 4294967296) : Int).toNat t130), true)) else (none))) else (none)) else (none)) else (if 0 ≤ ((Int.tdiv a1 4) % 4294967296) then (if ((Int.tdiv a1 4) % 4294967296) < (t125.length : Int) then (some ((t125.set (((Int.tdiv a1 4) % 4294967296) : Int).toNat a3), true)) else (none)) else (none))) else (some (t125, false))))
set_option maxHeartbeats 8000000 in
set_option maxRecDepth 100000 in
theorem memory_Store.calls (A0 : Option Addr) (c0 : Nat) (l0 : List Int) (a1 : Int) (a2 : Int) (a3 : Int) (r1 : List Int) (r2 : Bool) (w : World) (hr0 : Kd.C (Kd.int .u32) w A0 l0.length l0) (hc0 : l0.length ≤ c0) (h : memory_Store.f l0 a1 a2 a3 = some (r1, r2)) :
    Calls Try.prog 14 #[.slice A0 l0.length c0, .int .u32 a1, .int .i64 a2, .int .u32 a3] w fun e w' => ∃ v0_ : Value, e = .returned (.tuple #[v0_, .bool r2]) ∧ Kd.R (Kd.int .u32) 24 w' w.heap.size (fun _ => True) v0_ r1 ∧ Below w.heap.size w w' := by
  have HR0 := Aside0.mk hr0
  have HC0 := Aside0.mk hc0
  clear hr0 hc0
  have HB := Aside0.mk (Below.refl w.heap.size w)
  have H : ((memory_clone.f l0).bind fun t125 => ((memory_within.f l0 a1 a2).bind fun t128 => (if t128 = true then (if a2 = 1 then (if 0 ≤ ((Int.tdiv a1 4) % 4294967296) then (if ((Int.tdiv a1 4) % 4294967296) < (l0.length : Int) then ((bits_SetField.f (rd l0 ((Int.tdiv a1 4) % 4294967296)) (wrap64 (8 * (wrap64 (Int.tmod a1 4)))) 8 a3).bind fun t130 => (if ((Int.tdiv a1 4) % 4294967296) < (t125.length : Int) then (some ((t125.set (((Int.tdiv a1 4) % 4294967296) : Int).toNat t130), true)) else (none))) else (none)) else (none)) else (if 0 ≤ ((Int.tdiv a1 4) % 4294967296) then (if ((Int.tdiv a1 4) % 4294967296) < (t125.length : Int) then (some ((t125.set (((Int.tdiv a1 4) % 4294967296) : Int).toNat a3), true)) else (none)) else (none))) else (some (t125, false))))) = some (r1, r2) := h
  clear h
  replace H := Option.bind_eq_some_iff.mp H
  obtain ⟨t125, A50, H⟩ := H
  replace H : ((memory_within.f l0 a1 a2).bind fun t128 => (if t128 = true then (if a2 = 1 then (if 0 ≤ ((Int.tdiv a1 4) % 4294967296) then (if ((Int.tdiv a1 4) % 4294967296) < (l0.length : Int) then ((bits_SetField.f (rd l0 ((Int.tdiv a1 4) % 4294967296)) (wrap64 (8 * (wrap64 (Int.tmod a1 4)))) 8 a3).bind fun t130 => (if ((Int.tdiv a1 4) % 4294967296) < (t125.length : Int) then (some ((t125.set (((Int.tdiv a1 4) % 4294967296) : Int).toNat t130), true)) else (none))) else (none)) else (none)) else (if 0 ≤ ((Int.tdiv a1 4) % 4294967296) then (if ((Int.tdiv a1 4) % 4294967296) < (t125.length : Int) then (some ((t125.set (((Int.tdiv a1 4) % 4294967296) : Int).toNat a3), true)) else (none)) else (none))) else (some (t125, false)))) = some (r1, r2) := H
  have A5 := Aside0.mk A50
  clear A50
  replace H := Option.bind_eq_some_iff.mp H
  obtain ⟨t128, A60, H⟩ := H
  replace H : (if t128 = true then (if a2 = 1 then (if 0 ≤ ((Int.tdiv a1 4) % 4294967296) then (if ((Int.tdiv a1 4) % 4294967296) < (l0.length : Int) then ((bits_SetField.f (rd l0 ((Int.tdiv a1 4) % 4294967296)) (wrap64 (8 * (wrap64 (Int.tmod a1 4)))) 8 a3).bind fun t130 => (if ((Int.tdiv a1 4) % 4294967296) < (t125.length : Int) then (some ((t125.set (((Int.tdiv a1 4) % 4294967296) : Int).toNat t130), true)) else (none))) else (none)) else (none)) else (if 0 ≤ ((Int.tdiv a1 4) % 4294967296) then (if ((Int.tdiv a1 4) % 4294967296) < (t125.length : Int) then (some ((t125.set (((Int.tdiv a1 4) % 4294967296) : Int).toNat a3), true)) else (none)) else (none))) else (some (t125, false))) = some (r1, r2) := H
  have A6 := Aside0.mk A60
  clear A60
  by_cases c7 : t128 = true
  · subst c7
    have H1 : (if a2 = 1 then (if 0 ≤ ((Int.tdiv a1 4) % 4294967296) then (if ((Int.tdiv a1 4) % 4294967296) < (l0.length : Int) then ((bits_SetField.f (rd l0 ((Int.tdiv a1 4) % 4294967296)) (wrap64 (8 * (wrap64 (Int.tmod a1 4)))) 8 a3).bind fun t130 => (if ((Int.tdiv a1 4) % 4294967296) < (t125.length : Int) then (some ((t125.set (((Int.tdiv a1 4) % 4294967296) : Int).toNat t130), true)) else (none))) else (none)) else (none)) else (if 0 ≤ ((Int.tdiv a1 4) % 4294967296) then (if ((Int.tdiv a1 4) % 4294967296) < (t125.length : Int) then (some ((t125.set (((Int.tdiv a1 4) % 4294967296) : Int).toNat a3), true)) else (none)) else (none))) = some (r1, r2) := by rw [if_pos rfl] at H; exact H
    clear H
    have H := H1
    clear H1
    by_cases c8 : a2 = 1
    · rw [if_pos c8] at H
      have c8b0 : (a2 == 1) = true := beq_iff_eq.mpr c8
      have c8b1 : (a2 != 1) = false := bne_eq_false_iff_eq.mpr c8
      clear c8
      obtain ⟨ji9, hji9⟩ : ∃ j_ : Int, ((Int.tdiv a1 4) % 4294967296) = j_ := ⟨_, rfl⟩
      replace H : (if 0 ≤ (ji9) then (if (ji9) < (l0.length : Int) then ((bits_SetField.f (rd l0 (ji9)) (wrap64 (8 * (wrap64 (Int.tmod a1 4)))) 8 a3).bind fun t130 => (if (ji9) < (t125.length : Int) then (some ((t125.set ((ji9) : Int).toNat t130), true)) else (none))) else (none)) else (none)) = some (r1, r2) := by first | (rw [hji9] at H; exact H) | (simp only [hji9] at H ⊢; exact H)
      (try rw [hji9] at A5)
      (try rw [hji9] at A6)
      by_cases c10 : 0 ≤ (ji9)
      · rw [if_pos c10] at H
        have c10b0 : decide (0 ≤ (ji9)) = true := decide_eq_true c10
        clear c10
        by_cases c11 : (ji9) < (l0.length : Int)
        · rw [if_pos c11] at H
          have c11b0 : decide ((ji9) < (l0.length : Int)) = true := decide_eq_true c11
          clear c11
          replace H := Option.bind_eq_some_iff.mp H
          obtain ⟨t130, A120, H⟩ := H
          replace H : (if (ji9) < (t125.length : Int) then (some ((t125.set ((ji9) : Int).toNat t130), true)) else (none)) = some (r1, r2) := H
          have A12 := Aside0.mk A120
          clear A120
          by_cases c13 : (ji9) < (t125.length : Int)
          · rw [if_pos c13] at H
            have c13b0 : decide ((ji9) < (t125.length : Int)) = true := decide_eq_true c13
            clear c13
            obtain ⟨y131, hy131⟩ : ∃ y_ : List Int, y_ = (t125.set ((ji9) : Int).toNat t130) := ⟨_, rfl⟩
            replace H : (some (y131, true)) = some (r1, r2) := by first | (rw [hy131]; with_reducible exact H) | (have H2_ := (Option.bind_some _ _).symm.trans H; rw [hy131]; with_reducible exact H2_) | (have H2_ := (Option.bind_some _ _).symm.trans H; with_reducible exact H2_) | with_reducible exact H | (rw [hy131]; exact H) | exact H
            have Ny131 := Aside0.mk hy131
            clear hy131
            simp only [Option.some.injEq, Prod.mk.injEq] at H
            obtain ⟨rfl, rfl⟩ := H
            go_enter Try.func14, Try.ntmps14
            go_wp2_with (first | ((with_reducible refine gate_callee (f := 36) rfl ?_); refine goesL_ (some 12) rfl rfl Try.func36 (by kernel_rfl) rfl #[.slice A0 l0.length c0] rfl (by (try simp only [List.map_toArray, List.map_cons, List.map_nil]); first | done | rfl | (simp only [List.length_drop, List.length_take]; rfl)) ?_; (with_reducible refine (memory_clone.calls _ _ l0 t125 _ ?side1 ?side2 A5.out).mono ?_); (case side1 => repeat (first | exact HR0.out | (with_reducible refine Kd.C_alloc ?_ _) | (with_reducible refine Kd.C_drewN ?_ _) | (with_reducible refine Kd.C_drew ?_))); (case side2 => exact HC0.out); rintro e w15 ⟨v126, rfl, ho0, hb⟩; refine ⟨_, rfl, ?_⟩; have n0_ := Aside0.mk (Kd.R_lower ho0 (below_size (by repeat (first | (with_reducible first | exact HB.out | apply below_alloc | apply pw_below_drewN | apply below_drew1) | exact HB.out)))); have n1_ := Aside0.mk (below_step (by repeat (first | (with_reducible first | exact HB.out | apply below_alloc | apply pw_below_drewN | apply below_drew1) | exact HB.out)) hb); clear HB; have HO127 := n0_; have HB := n1_; clear n0_ n1_; (try clear hb); (try clear hb2); (try clear hk); (try clear hi); (try clear ho0)) | ((with_reducible refine gate_callee (f := 33) rfl ?_); refine goesL_ (some 16) rfl rfl Try.func33 (by kernel_rfl) rfl #[.slice A0 l0.length c0, .int .u32 a1, .int .i64 a2] rfl (by (try simp only [List.map_toArray, List.map_cons, List.map_nil]); first | done | rfl | (simp only [List.length_drop, List.length_take]; rfl)) ?_; (with_reducible refine (memory_within.calls _ _ l0 a1 a2 true _ ?side1 ?side2 A6.out).mono ?_); (case side1 => repeat (first | exact (Kd.C_below HR0.out HB.out) | (with_reducible refine Kd.C_alloc ?_ _) | (with_reducible refine Kd.C_drewN ?_ _) | (with_reducible refine Kd.C_drew ?_))); (case side2 => exact HC0.out); rintro e w' ⟨rfl, ⟨nd, rfl⟩⟩; refine ⟨_, rfl, ?_⟩; (try (rw [drewN_self w15]; generalize hq_ : World.drewN w15 _ = w15; have n0_ : Aside0 (Kd.R (Kd.int .u32) 24 w15 w.heap.size (fun _ => True) v126 t125) := ⟨by rw [← hq_]; exact (by (with_reducible repeat (first | apply Kd.R_alloc | apply Kd.R_drewN | apply Kd.R_drew)); exact HO127.out)⟩; have n1_ : Aside0 (Below w.heap.size w w15) := ⟨by rw [← hq_]; exact (by repeat (first | (with_reducible first | exact HB.out | apply below_alloc | apply pw_below_drewN | apply below_drew1) | exact HB.out))⟩; clear HO127 HB hq_; have HO127 := n0_; have HB := n1_; clear n0_ n1_)); have p129 : 0 ≤ ((ji9) : Int) := of_decide_eq_true (by first | (with_reducible assumption) | assumption); have q129 : (ji9) < (l0.length : Int) := of_decide_eq_true (by first | (with_reducible assumption) | assumption); obtain ⟨ad129, e129, hx129_0⟩ := Kd.at_int HR0.out (ji9) p129 q129; cases e129; replace hx129_0 := (HB.out.cell (World.block_lt_of_cell? w _ hx129_0)).trans hx129_0; replace p129 := eq_true p129; replace q129 := eq_true q129) | ((with_reducible refine gate_callee (f := 37) rfl ?_); refine goesL_ (some 31) rfl rfl Try.func37 (by kernel_rfl) rfl #[.int .u32 (rd l0 (ji9)), .int .i64 (wrap64 (8 * (wrap64 (Int.tmod a1 4)))), .int .i64 8, .int .u32 a3] rfl (by (try simp only [List.map_toArray, List.map_cons, List.map_nil]); first | done | (simp only [hji9]; rfl) | rfl | (simp only [List.length_drop, List.length_take]; rfl)) ?_; (with_reducible refine (bits_SetField.calls (rd l0 (ji9)) (wrap64 (8 * (wrap64 (Int.tmod a1 4)))) 8 a3 t130 _ A12.out).mono ?_); rintro e w' ⟨rfl, ⟨nd, rfl⟩⟩; refine ⟨_, rfl, ?_⟩; (try (rw [drewN_self w15]; generalize hq_ : World.drewN w15 _ = w15; have n0_ : Aside0 (Kd.R (Kd.int .u32) 24 w15 w.heap.size (fun _ => True) v126 t125) := ⟨by rw [← hq_]; exact (by (with_reducible repeat (first | apply Kd.R_alloc | apply Kd.R_drewN | apply Kd.R_drew)); exact HO127.out)⟩; have n1_ : Aside0 (Below w.heap.size w w15) := ⟨by rw [← hq_]; exact (by repeat (first | (with_reducible first | exact HB.out | apply below_alloc | apply pw_below_drewN | apply below_drew1) | exact HB.out))⟩; clear HO127 HB hq_; have HO127 := n0_; have HB := n1_; clear n0_ n1_)); have p14 : 0 ≤ ((ji9) : Int) := of_decide_eq_true (by first | (with_reducible assumption) | assumption); have q14 : ((ji9) : Int) < ((t125.length : Int) : Int) := of_decide_eq_true (by first | (with_reducible assumption) | assumption); obtain ⟨go14, co14, eo14, gb14, gl14, cl14, HG14⟩ := Kd.R_form HO127.out (by omega); (first | cases eo14 | (injection eo14 with ea_ en_ ec_; (first | subst ea_ | (injection ea_ with ea_; subst ea_)); subst ec_; clear en_)); have GB14 := Aside0.mk gb14; have GG14 := Aside0.mk HG14; clear gb14 gl14 HG14; obtain ⟨hx14_0, hf14_0⟩ := Kd.R_celln 0 HO127.out ((ji9) : Int) p14 q14; replace p14 := eq_true p14; replace q14 := eq_true q14; obtain ⟨hy16_, hz16_⟩ := Kd.R_celln 0 HO127.out ((ji9) : Int) (of_decide_eq_true (by first | (with_reducible assumption) | assumption)) (of_decide_eq_true (by first | (with_reducible assumption) | assumption)); have HP16 := Kd.R_putg HO127.out ((ji9) : Int) t130) | ((with_reducible refine gate_store (t := 24) (p := 36) rfl ?_); refine store_event (t := 24) (p := 36) (v := ?vo_w17) (w1 := (w15.setCell ⟨go14, ((ji9) : Int).toNat, none⟩ (.int .u32 t130))) ?hg ?ho ?hn ?hr ?_; (case ho => rfl); (case hg => rfl); (case hn => rfl); (case hr => first | (go_simp; done) | (go_simp; rfl)); intro w17 hw; have hg : w15.grownBy w17 (some go14) := (by rw [hw]; exact HP16.2); have hp_ : Kd.R (Kd.int .u32) 24 w17 w.heap.size (fun _ => True) (.slice (some ⟨go14, 0, none⟩) t125.length co14) y131 := (by rw [hw, Ny131.out]; exact HP16.1); clear HP16; have n0_ := Aside0.mk (hp_); have n1_ := Aside0.mk ((by rw [hw]; exact below_set (HB.out) GB14.out : Below w.heap.size w w17)); clear HO127; clear HB; have HO127 := n0_; have HB := n1_; clear n0_ n1_; clear hg hw hp_))
            go_ret2
            exact ⟨_, by first | rfl | (simp [errW_none, errW_some] <;> rfl) | (simp only [← hji9]; first | rfl | (simp [errW_none, errW_some] <;> rfl)) | (simp [*, errW_none, errW_some] <;> rfl), by (with_reducible repeat (first | apply Kd.R_alloc | apply Kd.R_drewN | apply Kd.R_drew)); exact HO127.out, by repeat (first | (with_reducible first | exact HB.out | apply below_alloc | apply pw_below_drewN | apply below_drew1) | exact HB.out)⟩
          · rw [if_neg c13] at H
            exact absurd H (by simp)
        · rw [if_neg c11] at H
          exact absurd H (by simp)
      · rw [if_neg c10] at H
        exact absurd H (by simp)
    · rw [if_neg c8] at H
      have c8b0 : (a2 == 1) = false := beq_eq_false_iff_ne.mpr c8
      have c8b1 : (a2 != 1) = true := bne_iff_ne.mpr c8
      obtain ⟨ji18, hji18⟩ : ∃ j_ : Int, ((Int.tdiv a1 4) % 4294967296) = j_ := ⟨_, rfl⟩
      replace H : (if 0 ≤ (ji18) then (if (ji18) < (t125.length : Int) then (some ((t125.set ((ji18) : Int).toNat a3), true)) else (none)) else (none)) = some (r1, r2) := by first | (rw [hji18] at H; exact H) | (simp only [hji18] at H ⊢; exact H)
      (try rw [hji18] at A5)
      (try rw [hji18] at A6)
      by_cases c19 : 0 ≤ (ji18)
      · rw [if_pos c19] at H
        have c19b0 : decide (0 ≤ (ji18)) = true := decide_eq_true c19
        clear c19
        by_cases c20 : (ji18) < (t125.length : Int)
        · rw [if_pos c20] at H
          have c20b0 : decide ((ji18) < (t125.length : Int)) = true := decide_eq_true c20
          clear c20
          obtain ⟨y132, hy132⟩ : ∃ y_ : List Int, y_ = (t125.set ((ji18) : Int).toNat a3) := ⟨_, rfl⟩
          replace H : (some (y132, true)) = some (r1, r2) := by first | (rw [hy132]; with_reducible exact H) | (have H2_ := (Option.bind_some _ _).symm.trans H; rw [hy132]; with_reducible exact H2_) | (have H2_ := (Option.bind_some _ _).symm.trans H; with_reducible exact H2_) | with_reducible exact H | (rw [hy132]; exact H) | exact H
          have Ny132 := Aside0.mk hy132
          clear hy132
          simp only [Option.some.injEq, Prod.mk.injEq] at H
          obtain ⟨rfl, rfl⟩ := H
          go_enter Try.func14, Try.ntmps14
          go_wp2_with (first | ((with_reducible refine gate_callee (f := 36) rfl ?_); refine goesL_ (some 12) rfl rfl Try.func36 (by kernel_rfl) rfl #[.slice A0 l0.length c0] rfl (by (try simp only [List.map_toArray, List.map_cons, List.map_nil]); first | done | rfl | (simp only [List.length_drop, List.length_take]; rfl)) ?_; (with_reducible refine (memory_clone.calls _ _ l0 t125 _ ?side1 ?side2 A5.out).mono ?_); (case side1 => repeat (first | exact HR0.out | (with_reducible refine Kd.C_alloc ?_ _) | (with_reducible refine Kd.C_drewN ?_ _) | (with_reducible refine Kd.C_drew ?_))); (case side2 => exact HC0.out); rintro e w22 ⟨v126, rfl, ho0, hb⟩; refine ⟨_, rfl, ?_⟩; have n0_ := Aside0.mk (Kd.R_lower ho0 (below_size (by repeat (first | (with_reducible first | exact HB.out | apply below_alloc | apply pw_below_drewN | apply below_drew1) | exact HB.out)))); have n1_ := Aside0.mk (below_step (by repeat (first | (with_reducible first | exact HB.out | apply below_alloc | apply pw_below_drewN | apply below_drew1) | exact HB.out)) hb); clear HB; have HO127 := n0_; have HB := n1_; clear n0_ n1_; (try clear hb); (try clear hb2); (try clear hk); (try clear hi); (try clear ho0)) | ((with_reducible refine gate_callee (f := 33) rfl ?_); refine goesL_ (some 16) rfl rfl Try.func33 (by kernel_rfl) rfl #[.slice A0 l0.length c0, .int .u32 a1, .int .i64 a2] rfl (by (try simp only [List.map_toArray, List.map_cons, List.map_nil]); first | done | rfl | (simp only [List.length_drop, List.length_take]; rfl)) ?_; (with_reducible refine (memory_within.calls _ _ l0 a1 a2 true _ ?side1 ?side2 A6.out).mono ?_); (case side1 => repeat (first | exact (Kd.C_below HR0.out HB.out) | (with_reducible refine Kd.C_alloc ?_ _) | (with_reducible refine Kd.C_drewN ?_ _) | (with_reducible refine Kd.C_drew ?_))); (case side2 => exact HC0.out); rintro e w' ⟨rfl, ⟨nd, rfl⟩⟩; refine ⟨_, rfl, ?_⟩; (try (rw [drewN_self w22]; generalize hq_ : World.drewN w22 _ = w22; have n0_ : Aside0 (Kd.R (Kd.int .u32) 24 w22 w.heap.size (fun _ => True) v126 t125) := ⟨by rw [← hq_]; exact (by (with_reducible repeat (first | apply Kd.R_alloc | apply Kd.R_drewN | apply Kd.R_drew)); exact HO127.out)⟩; have n1_ : Aside0 (Below w.heap.size w w22) := ⟨by rw [← hq_]; exact (by repeat (first | (with_reducible first | exact HB.out | apply below_alloc | apply pw_below_drewN | apply below_drew1) | exact HB.out))⟩; clear HO127 HB hq_; have HO127 := n0_; have HB := n1_; clear n0_ n1_)); have p21 : 0 ≤ ((ji18) : Int) := of_decide_eq_true (by first | (with_reducible assumption) | assumption); have q21 : ((ji18) : Int) < ((t125.length : Int) : Int) := of_decide_eq_true (by first | (with_reducible assumption) | assumption); obtain ⟨go21, co21, eo21, gb21, gl21, cl21, HG21⟩ := Kd.R_form HO127.out (by omega); (first | cases eo21 | (injection eo21 with ea_ en_ ec_; (first | subst ea_ | (injection ea_ with ea_; subst ea_)); subst ec_; clear en_)); have GB21 := Aside0.mk gb21; have GG21 := Aside0.mk HG21; clear gb21 gl21 HG21; obtain ⟨hx21_0, hf21_0⟩ := Kd.R_celln 0 HO127.out ((ji18) : Int) p21 q21; replace p21 := eq_true p21; replace q21 := eq_true q21; obtain ⟨hy23_, hz23_⟩ := Kd.R_celln 0 HO127.out ((ji18) : Int) (of_decide_eq_true (by first | (with_reducible assumption) | assumption)) (of_decide_eq_true (by first | (with_reducible assumption) | assumption)); have HP23 := Kd.R_putg HO127.out ((ji18) : Int) a3) | ((with_reducible refine gate_store (t := 24) (p := 36) rfl ?_); refine store_event (t := 24) (p := 36) (v := ?vo_w24) (w1 := (w22.setCell ⟨go21, ((ji18) : Int).toNat, none⟩ (.int .u32 a3))) ?hg ?ho ?hn ?hr ?_; (case ho => rfl); (case hg => rfl); (case hn => rfl); (case hr => first | (go_simp; done) | (go_simp; rfl)); intro w24 hw; have hg : w22.grownBy w24 (some go21) := (by rw [hw]; exact HP23.2); have hp_ : Kd.R (Kd.int .u32) 24 w24 w.heap.size (fun _ => True) (.slice (some ⟨go21, 0, none⟩) t125.length co21) y132 := (by rw [hw, Ny132.out]; exact HP23.1); clear HP23; have n0_ := Aside0.mk (hp_); have n1_ := Aside0.mk ((by rw [hw]; exact below_set (HB.out) GB21.out : Below w.heap.size w w24)); clear HO127; clear HB; have HO127 := n0_; have HB := n1_; clear n0_ n1_; clear hg hw hp_))
          go_ret2
          exact ⟨_, by first | rfl | (simp [errW_none, errW_some] <;> rfl) | (simp only [← hji18]; first | rfl | (simp [errW_none, errW_some] <;> rfl)) | (simp [*, errW_none, errW_some] <;> rfl), by (with_reducible repeat (first | apply Kd.R_alloc | apply Kd.R_drewN | apply Kd.R_drew)); exact HO127.out, by repeat (first | (with_reducible first | exact HB.out | apply below_alloc | apply pw_below_drewN | apply below_drew1) | exact HB.out)⟩
        · rw [if_neg c20] at H
          exact absurd H (by simp)
      · rw [if_neg c19] at H
        exact absurd H (by simp)
  · replace c7 := Bool.eq_false_iff.mpr c7
    subst c7
    have H1 : (some (t125, false)) = some (r1, r2) := by rw [if_neg (show ¬ (false = true) by decide)] at H; exact H
    clear H
    have H := H1
    clear H1
    simp only [Option.some.injEq, Prod.mk.injEq] at H
    obtain ⟨rfl, rfl⟩ := H
    go_enter Try.func14, Try.ntmps14
    go_wp2_with (first | ((with_reducible refine gate_callee (f := 36) rfl ?_); refine goesL_ (some 12) rfl rfl Try.func36 (by kernel_rfl) rfl #[.slice A0 l0.length c0] rfl (by (try simp only [List.map_toArray, List.map_cons, List.map_nil]); first | done | rfl | (simp only [List.length_drop, List.length_take]; rfl)) ?_; (with_reducible refine (memory_clone.calls _ _ l0 t125 _ ?side1 ?side2 A5.out).mono ?_); (case side1 => repeat (first | exact HR0.out | (with_reducible refine Kd.C_alloc ?_ _) | (with_reducible refine Kd.C_drewN ?_ _) | (with_reducible refine Kd.C_drew ?_))); (case side2 => exact HC0.out); rintro e w25 ⟨v126, rfl, ho0, hb⟩; refine ⟨_, rfl, ?_⟩; have n0_ := Aside0.mk (Kd.R_lower ho0 (below_size (by repeat (first | (with_reducible first | exact HB.out | apply below_alloc | apply pw_below_drewN | apply below_drew1) | exact HB.out)))); have n1_ := Aside0.mk (below_step (by repeat (first | (with_reducible first | exact HB.out | apply below_alloc | apply pw_below_drewN | apply below_drew1) | exact HB.out)) hb); clear HB; have HO127 := n0_; have HB := n1_; clear n0_ n1_; (try clear hb); (try clear hb2); (try clear hk); (try clear hi); (try clear ho0)) | ((with_reducible refine gate_callee (f := 33) rfl ?_); refine goesL_ (some 16) rfl rfl Try.func33 (by kernel_rfl) rfl #[.slice A0 l0.length c0, .int .u32 a1, .int .i64 a2] rfl (by (try simp only [List.map_toArray, List.map_cons, List.map_nil]); first | done | rfl | (simp only [List.length_drop, List.length_take]; rfl)) ?_; (with_reducible refine (memory_within.calls _ _ l0 a1 a2 false _ ?side1 ?side2 A6.out).mono ?_); (case side1 => repeat (first | exact (Kd.C_below HR0.out HB.out) | (with_reducible refine Kd.C_alloc ?_ _) | (with_reducible refine Kd.C_drewN ?_ _) | (with_reducible refine Kd.C_drew ?_))); (case side2 => exact HC0.out); rintro e w' ⟨rfl, ⟨nd, rfl⟩⟩; refine ⟨_, rfl, ?_⟩))
    go_ret2
    exact ⟨_, by first | rfl | (simp [errW_none, errW_some] <;> rfl) | (simp [*, errW_none, errW_some] <;> rfl), by (with_reducible repeat (first | apply Kd.R_alloc | apply Kd.R_drewN | apply Kd.R_drew)); exact HO127.out, by repeat (first | (with_reducible first | exact HB.out | apply below_alloc | apply pw_below_drewN | apply below_drew1) | exact HB.out)⟩

/-! ### memory_New: function 19 -/
def memory_New.f (a0 : Int) : Option (List Int) := if a0 < 1 then (some ([] : List Int)) else (if a0 > 32 then (some ([] : List Int)) else (if 0 ≤ (wrap64 (a0 * 32)) then (if (wrap64 (a0 * 32) : Int).toNat ≤ 70368744177664 then (some (List.replicate (wrap64 (a0 * 32) : Int).toNat 0)) else (none)) else (none)))
set_option maxHeartbeats 8000000 in
set_option maxRecDepth 100000 in
theorem memory_New.calls (a0 : Int) (r : List Int) (w : World) (h : memory_New.f a0 = some r) :
    Calls Try.prog 19 #[.int .i64 a0] w fun e w' => ∃ v0_ : Value, e = .returned (v0_) ∧ Kd.R (Kd.int .u32) 24 w' w.heap.size (fun _ => True) v0_ r ∧ Below w.heap.size w w' := by
  have HB := Aside0.mk (Below.refl w.heap.size w)
  have H : (if a0 < 1 then (some ([] : List Int)) else (if a0 > 32 then (some ([] : List Int)) else (if 0 ≤ (wrap64 (a0 * 32)) then (if (wrap64 (a0 * 32) : Int).toNat ≤ 70368744177664 then (some (List.replicate (wrap64 (a0 * 32) : Int).toNat 0)) else (none)) else (none)))) = some r := h
  clear h
  by_cases c2 : a0 < 1
  · rw [if_pos c2] at H
    have c2b0 : decide (a0 < 1) = true := decide_eq_true c2
    clear c2
    obtain rfl := Option.some.inj H
    go_enter Try.func19, Try.ntmps19
    go_wp2
    go_ret
    exact ⟨_, by first | rfl | (simp [errW_none, errW_some] <;> rfl) | (simp [*, errW_none, errW_some] <;> rfl), by first | exact Kd.R_nil _ _ _ _ _ | exact Kd.N_nil _ _ _ _ _ | exact Kd.V_nil _ _ _ _ _ | exact Kd.Q_nil _ _ _ _ _ | exact Kd.S_nil _ _ _ _ _, by repeat (first | (with_reducible first | exact HB.out | apply below_alloc | apply pw_below_drewN | apply below_drew1) | exact HB.out)⟩
  · rw [if_neg c2] at H
    have c2b0 : decide (a0 < 1) = false := decide_eq_false c2
    clear c2
    by_cases c3 : a0 > 32
    · rw [if_pos c3] at H
      have c3b0 : decide (32 < a0) = true := decide_eq_true c3
      clear c3
      obtain rfl := Option.some.inj H
      go_enter Try.func19, Try.ntmps19
      go_wp2
      go_ret
      exact ⟨_, by first | rfl | (simp [errW_none, errW_some] <;> rfl) | (simp [*, errW_none, errW_some] <;> rfl), by first | exact Kd.R_nil _ _ _ _ _ | exact Kd.N_nil _ _ _ _ _ | exact Kd.V_nil _ _ _ _ _ | exact Kd.Q_nil _ _ _ _ _ | exact Kd.S_nil _ _ _ _ _, by repeat (first | (with_reducible first | exact HB.out | apply below_alloc | apply pw_below_drewN | apply below_drew1) | exact HB.out)⟩
    · rw [if_neg c3] at H
      have c3b0 : decide (32 < a0) = false := decide_eq_false c3
      clear c3
      obtain ⟨ji4, hji4⟩ : ∃ j_ : Int, (wrap64 (a0 * 32)) = j_ := ⟨_, rfl⟩
      replace H : (if 0 ≤ (ji4) then (if (ji4 : Int).toNat ≤ 70368744177664 then (some (List.replicate (ji4 : Int).toNat 0)) else (none)) else (none)) = some r := by first | (rw [hji4] at H; exact H) | (simp only [hji4] at H ⊢; exact H)
      have hji4w : (IntKind.i64.wrap (a0 * 32)) = ji4 := (i64_w _).trans hji4
      by_cases c5 : 0 ≤ (ji4)
      · rw [if_pos c5] at H
        have c5b0 := eq_true c5
        have c5b1 : decide (0 ≤ (ji4)) = true := decide_eq_true c5
        clear c5
        by_cases c6 : (ji4 : Int).toNat ≤ 70368744177664
        · rw [if_pos c6] at H
          have c6b0 := eq_true c6
          have c6b1 : decide ((ji4 : Int).toNat ≤ 70368744177664) = true := decide_eq_true c6
          clear c6
          obtain ⟨y133, hy133⟩ : ∃ y_ : List Int, y_ = (List.replicate (ji4 : Int).toNat 0) := ⟨_, rfl⟩
          replace H : (some y133) = some r := by first | (rw [hy133]; with_reducible exact H) | (have H2_ := (Option.bind_some _ _).symm.trans H; rw [hy133]; with_reducible exact H2_) | (have H2_ := (Option.bind_some _ _).symm.trans H; with_reducible exact H2_) | with_reducible exact H | (rw [hy133]; exact H) | exact H
          have Ny133 := Aside0.mk hy133
          clear hy133
          obtain rfl := Option.some.inj H
          go_enter Try.func19, Try.ntmps19
          go_wp2_with (first | ((with_reducible refine gate_dst (N := 11) rfl ?_); refine Kd.R_make (Kd.int .u32) _ 24 rfl (N := 11) rfl 22 _ _ rfl ji4 rfl rfl Try.underlying22 (.int .u32 0) 4 info24 rfl (by decide) (by omega) 0 (ok := fun _ => True) (okp := fun _ => True) rfl (fun _ hk => hk) trivial (of_decide_eq_true (by first | (with_reducible assumption) | assumption)) (Nat.le_trans (Nat.mul_le_mul_right _ (of_decide_eq_true (by first | (with_reducible assumption) | assumption) : ji4.toNat ≤ 70368744177664)) (by omega)) (Below.refl _ _) (Nat.le_refl _) ?_; intro v134 w7 ho8 hb hg_ hnew_; clear hg_ hnew_; (first | rw [← Ny133.out] at ho8 | (simp only [Int.reduceToNat] at ho8; rw [← Ny133.out] at ho8)); have n0_ := Aside0.mk (Kd.R_lower ho8 (below_size (by repeat (first | (with_reducible first | exact HB.out | apply below_alloc | apply pw_below_drewN | apply below_drew1) | exact HB.out)))); have n1_ := Aside0.mk (below_step (by repeat (first | (with_reducible first | exact HB.out | apply below_alloc | apply pw_below_drewN | apply below_drew1) | exact HB.out)) hb); clear HB; have HO135 := n0_; have HB := n1_; clear n0_ n1_; clear hb ho8))
          go_ret
          exact ⟨_, by first | rfl | (simp [errW_none, errW_some] <;> rfl) | (simp only [← hji4]; first | rfl | (simp [errW_none, errW_some] <;> rfl)) | (simp [*, errW_none, errW_some] <;> rfl), by (with_reducible repeat (first | apply Kd.R_alloc | apply Kd.R_drewN | apply Kd.R_drew)); exact HO135.out, by repeat (first | (with_reducible first | exact HB.out | apply below_alloc | apply pw_below_drewN | apply below_drew1) | exact HB.out)⟩
        · rw [if_neg c6] at H
          exact absurd H (by simp)
      · rw [if_neg c5] at H
        exact absurd H (by simp)

/-! ### vmfleetlaw4_awake: function 21 -/
def vmfleetlaw4_awake.f  : Option (Bool) := (memory_New.f 1).bind fun t136 => ((memory_Store.f t136 5 1 511).bind fun bt139 => ((memory_Load.f bt139.1 4 4).bind fun bt143 => (if bt139.2 = true then (if bt143.2 = true then (if bt143.1 = 65280 then ((memory_Pages.f bt139.1).bind fun t145 => (if t145 = 1 then ((memory_New.f 0).bind fun t146 => (some ((t146.length : Int) == 0))) else (some false))) else (some false)) else (some false)) else (some false))))
set_option maxHeartbeats 8000000 in
set_option maxRecDepth 100000 in
theorem vmfleetlaw4_awake.calls  (r : Bool) (w : World) (h : vmfleetlaw4_awake.f  = some r) :
    Calls Try.prog 21 #[] w fun e w' => e = .returned (.bool r) ∧ Below w.heap.size w w' := by
  have HB := Aside0.mk (Below.refl w.heap.size w)
  have H : ((memory_New.f 1).bind fun t136 => ((memory_Store.f t136 5 1 511).bind fun bt139 => ((memory_Load.f bt139.1 4 4).bind fun bt143 => (if bt139.2 = true then (if bt143.2 = true then (if bt143.1 = 65280 then ((memory_Pages.f bt139.1).bind fun t145 => (if t145 = 1 then ((memory_New.f 0).bind fun t146 => (some ((t146.length : Int) == 0))) else (some false))) else (some false)) else (some false)) else (some false))))) = some r := h
  clear h
  replace H := Option.bind_eq_some_iff.mp H
  obtain ⟨t136, A10, H⟩ := H
  replace H : ((memory_Store.f t136 5 1 511).bind fun bt139 => ((memory_Load.f bt139.1 4 4).bind fun bt143 => (if bt139.2 = true then (if bt143.2 = true then (if bt143.1 = 65280 then ((memory_Pages.f bt139.1).bind fun t145 => (if t145 = 1 then ((memory_New.f 0).bind fun t146 => (some ((t146.length : Int) == 0))) else (some false))) else (some false)) else (some false)) else (some false)))) = some r := H
  have A1 := Aside0.mk A10
  clear A10
  replace H := Option.bind_eq_some_iff.mp H
  obtain ⟨⟨t139, t140⟩, A20, H⟩ := H
  replace H : ((memory_Load.f t139 4 4).bind fun bt143 => (if t140 = true then (if bt143.2 = true then (if bt143.1 = 65280 then ((memory_Pages.f t139).bind fun t145 => (if t145 = 1 then ((memory_New.f 0).bind fun t146 => (some ((t146.length : Int) == 0))) else (some false))) else (some false)) else (some false)) else (some false))) = some r := H
  have A2 := Aside0.mk A20
  clear A20
  replace H := Option.bind_eq_some_iff.mp H
  obtain ⟨⟨t143, t144⟩, A30, H⟩ := H
  replace H : (if t140 = true then (if t144 = true then (if t143 = 65280 then ((memory_Pages.f t139).bind fun t145 => (if t145 = 1 then ((memory_New.f 0).bind fun t146 => (some ((t146.length : Int) == 0))) else (some false))) else (some false)) else (some false)) else (some false)) = some r := H
  have A3 := Aside0.mk A30
  clear A30
  by_cases c4 : t140 = true
  · subst c4
    have H1 : (if t144 = true then (if t143 = 65280 then ((memory_Pages.f t139).bind fun t145 => (if t145 = 1 then ((memory_New.f 0).bind fun t146 => (some ((t146.length : Int) == 0))) else (some false))) else (some false)) else (some false)) = some r := by rw [if_pos rfl] at H; exact H
    clear H
    have H := H1
    clear H1
    by_cases c5 : t144 = true
    · subst c5
      have H1 : (if t143 = 65280 then ((memory_Pages.f t139).bind fun t145 => (if t145 = 1 then ((memory_New.f 0).bind fun t146 => (some ((t146.length : Int) == 0))) else (some false))) else (some false)) = some r := by rw [if_pos rfl] at H; exact H
      clear H
      have H := H1
      clear H1
      by_cases c6 : t143 = 65280
      · rw [if_pos c6] at H
        have c6b0 : (t143 == 65280) = true := beq_iff_eq.mpr c6
        have c6b1 : (t143 != 65280) = false := bne_eq_false_iff_eq.mpr c6
        clear c6
        replace H := Option.bind_eq_some_iff.mp H
        obtain ⟨t145, A70, H⟩ := H
        replace H : (if t145 = 1 then ((memory_New.f 0).bind fun t146 => (some ((t146.length : Int) == 0))) else (some false)) = some r := H
        have A7 := Aside0.mk A70
        clear A70
        by_cases c8 : t145 = 1
        · rw [if_pos c8] at H
          have c8b0 : (t145 == 1) = true := beq_iff_eq.mpr c8
          have c8b1 : (t145 != 1) = false := bne_eq_false_iff_eq.mpr c8
          clear c8
          replace H := Option.bind_eq_some_iff.mp H
          obtain ⟨t146, A90, H⟩ := H
          replace H : (some ((t146.length : Int) == 0)) = some r := H
          have A9 := Aside0.mk A90
          clear A90
          obtain rfl := Option.some.inj H
          go_enter Try.func21, Try.ntmps21
          go_wp2_with (first | ((with_reducible refine gate_callee (f := 19) rfl ?_); refine goesL_ (some 6) rfl rfl Try.func19 (by kernel_rfl) rfl #[.int .i64 1] rfl (by (try simp only [List.map_toArray, List.map_cons, List.map_nil]); first | done | rfl | (simp only [List.length_drop, List.length_take]; rfl)) ?_; (with_reducible refine (memory_New.calls 1 t136 _ A1.out).mono ?_); rintro e w10 ⟨v137, rfl, ho0, hb⟩; refine ⟨_, rfl, ?_⟩; have n0_ := Aside0.mk (Kd.R_lower ho0 (below_size (by repeat (first | (with_reducible first | exact HB.out | apply below_alloc | apply pw_below_drewN | apply below_drew1) | exact HB.out)))); have n1_ := Aside0.mk (below_step (by repeat (first | (with_reducible first | exact HB.out | apply below_alloc | apply pw_below_drewN | apply below_drew1) | exact HB.out)) hb); clear HB; have HO138 := n0_; have HB := n1_; clear n0_ n1_; (try clear hb); (try clear hb2); (try clear hk); (try clear hi); (try clear ho0); obtain ⟨Ao11, co11, eo11⟩ := Kd.R_slice HO138.out; subst eo11) | ((with_reducible refine gate_callee (f := 14) rfl ?_); refine goesL_ (some 7) rfl rfl Try.func14 (by kernel_rfl) rfl #[.slice Ao11 t136.length co11, .int .u32 5, .int .i64 1, .int .u32 511] rfl (by (try simp only [List.map_toArray, List.map_cons, List.map_nil]); first | done | rfl | (simp only [List.length_drop, List.length_take]; rfl)) ?_; (with_reducible refine (memory_Store.calls _ _ t136 5 1 511 t139 true _ ?side1 ?side2 A2.out).mono ?_); (case side1 => repeat (first | exact (Kd.R_reads' HO138.out).2.2 | (with_reducible refine Kd.C_alloc ?_ _) | (with_reducible refine Kd.C_drewN ?_ _) | (with_reducible refine Kd.C_drew ?_))); (case side2 => exact (Kd.R_reads' HO138.out).2.1); rintro e w12 ⟨v141, rfl, ho0, hb⟩; refine ⟨_, rfl, ?_⟩; have n0_ := Aside0.mk (Kd.R_elder' (by (with_reducible repeat (first | apply Kd.R_alloc | apply Kd.R_drewN | apply Kd.R_drew)); exact HO138.out) (Kd.R_base ho0) hb); have n1_ := Aside0.mk (Kd.R_lower (Kd.R_new' ho0 (Kd.R_lt (by (with_reducible repeat (first | apply Kd.R_alloc | apply Kd.R_drewN | apply Kd.R_drew)); exact HO138.out))) (below_size (by repeat (first | (with_reducible first | exact HB.out | apply below_alloc | apply pw_below_drewN | apply below_drew1) | exact HB.out)))); have n2_ := Aside0.mk (below_step (by repeat (first | (with_reducible first | exact HB.out | apply below_alloc | apply pw_below_drewN | apply below_drew1) | exact HB.out)) hb); clear HO138; clear HB; have HO138 := n0_; have HO142 := n1_; have HB := n2_; clear n0_ n1_ n2_; (try clear hb); (try clear hb2); (try clear hk); (try clear hi); (try clear ho0); obtain ⟨Ao13, co13, eo13⟩ := Kd.R_slice HO142.out; subst eo13) | ((with_reducible refine gate_callee (f := 12) rfl ?_); refine goesL_ (some 12) rfl rfl Try.func12 (by kernel_rfl) rfl #[.slice Ao13 t139.length co13, .int .u32 4, .int .i64 4] rfl (by (try simp only [List.map_toArray, List.map_cons, List.map_nil]); first | done | rfl | (simp only [List.length_drop, List.length_take]; rfl)) ?_; (with_reducible refine (memory_Load.calls _ _ t139 4 4 t143 true _ ?side1 ?side2 A3.out).mono ?_); (case side1 => repeat (first | exact (Kd.R_reads' HO142.out).2.2 | (with_reducible refine Kd.C_alloc ?_ _) | (with_reducible refine Kd.C_drewN ?_ _) | (with_reducible refine Kd.C_drew ?_))); (case side2 => exact (Kd.R_reads' HO142.out).2.1); rintro e w' ⟨rfl, ⟨nd, rfl⟩⟩; refine ⟨_, rfl, ?_⟩) | (go_at_call 17; (with_reducible refine (memory_Pages.calls _ _ t139 t145 _ ?side1 ?side2 A7.out).mono ?_); (case side1 => repeat (first | exact (Kd.R_reads' HO142.out).2.2 | (with_reducible refine Kd.C_alloc ?_ _) | (with_reducible refine Kd.C_drewN ?_ _) | (with_reducible refine Kd.C_drew ?_))); (case side2 => exact (Kd.R_reads' HO142.out).2.1); rintro e w' ⟨rfl, ⟨nd, rfl⟩⟩) | (go_at_call 19; (with_reducible refine (memory_New.calls 0 t146 _ A9.out).mono ?_); rintro e w14 ⟨v147, rfl, ho0, hb⟩; have n0_ := Aside0.mk (Kd.R_elder' (by (with_reducible repeat (first | apply Kd.R_alloc | apply Kd.R_drewN | apply Kd.R_drew)); exact HO138.out) (Kd.R_base ho0) hb); have n1_ := Aside0.mk (Kd.R_elder' (by (with_reducible repeat (first | apply Kd.R_alloc | apply Kd.R_drewN | apply Kd.R_drew)); exact HO142.out) (Kd.R_base ho0) hb); have n2_ := Aside0.mk (Kd.R_lower (Kd.R_new' (Kd.R_new' ho0 (Kd.R_lt (by (with_reducible repeat (first | apply Kd.R_alloc | apply Kd.R_drewN | apply Kd.R_drew)); exact HO138.out))) (Kd.R_lt (by (with_reducible repeat (first | apply Kd.R_alloc | apply Kd.R_drewN | apply Kd.R_drew)); exact HO142.out))) (below_size (by repeat (first | (with_reducible first | exact HB.out | apply below_alloc | apply pw_below_drewN | apply below_drew1) | exact HB.out)))); have n3_ := Aside0.mk (below_step (by repeat (first | (with_reducible first | exact HB.out | apply below_alloc | apply pw_below_drewN | apply below_drew1) | exact HB.out)) hb); clear HO138; clear HO142; clear HB; have HO138 := n0_; have HO142 := n1_; have HO148 := n2_; have HB := n3_; clear n0_ n1_ n2_ n3_; (try clear hb); (try clear hb2); (try clear hk); (try clear hi); (try clear ho0); obtain ⟨Ao15, co15, eo15⟩ := Kd.R_slice HO148.out; subst eo15))
          go_ret
          exact ⟨by first | rfl | (simp [errW_none, errW_some] <;> rfl) | (simp [*, errW_none, errW_some] <;> rfl), by repeat (first | (with_reducible first | exact HB.out | apply below_alloc | apply pw_below_drewN | apply below_drew1) | exact HB.out)⟩
        · rw [if_neg c8] at H
          have c8b0 : (t145 == 1) = false := beq_eq_false_iff_ne.mpr c8
          have c8b1 : (t145 != 1) = true := bne_iff_ne.mpr c8
          obtain rfl := Option.some.inj H
          go_enter Try.func21, Try.ntmps21
          go_wp2_with (first | ((with_reducible refine gate_callee (f := 19) rfl ?_); refine goesL_ (some 6) rfl rfl Try.func19 (by kernel_rfl) rfl #[.int .i64 1] rfl (by (try simp only [List.map_toArray, List.map_cons, List.map_nil]); first | done | rfl | (simp only [List.length_drop, List.length_take]; rfl)) ?_; (with_reducible refine (memory_New.calls 1 t136 _ A1.out).mono ?_); rintro e w16 ⟨v137, rfl, ho0, hb⟩; refine ⟨_, rfl, ?_⟩; have n0_ := Aside0.mk (Kd.R_lower ho0 (below_size (by repeat (first | (with_reducible first | exact HB.out | apply below_alloc | apply pw_below_drewN | apply below_drew1) | exact HB.out)))); have n1_ := Aside0.mk (below_step (by repeat (first | (with_reducible first | exact HB.out | apply below_alloc | apply pw_below_drewN | apply below_drew1) | exact HB.out)) hb); clear HB; have HO138 := n0_; have HB := n1_; clear n0_ n1_; (try clear hb); (try clear hb2); (try clear hk); (try clear hi); (try clear ho0); obtain ⟨Ao17, co17, eo17⟩ := Kd.R_slice HO138.out; subst eo17) | ((with_reducible refine gate_callee (f := 14) rfl ?_); refine goesL_ (some 7) rfl rfl Try.func14 (by kernel_rfl) rfl #[.slice Ao17 t136.length co17, .int .u32 5, .int .i64 1, .int .u32 511] rfl (by (try simp only [List.map_toArray, List.map_cons, List.map_nil]); first | done | rfl | (simp only [List.length_drop, List.length_take]; rfl)) ?_; (with_reducible refine (memory_Store.calls _ _ t136 5 1 511 t139 true _ ?side1 ?side2 A2.out).mono ?_); (case side1 => repeat (first | exact (Kd.R_reads' HO138.out).2.2 | (with_reducible refine Kd.C_alloc ?_ _) | (with_reducible refine Kd.C_drewN ?_ _) | (with_reducible refine Kd.C_drew ?_))); (case side2 => exact (Kd.R_reads' HO138.out).2.1); rintro e w18 ⟨v141, rfl, ho0, hb⟩; refine ⟨_, rfl, ?_⟩; have n0_ := Aside0.mk (Kd.R_elder' (by (with_reducible repeat (first | apply Kd.R_alloc | apply Kd.R_drewN | apply Kd.R_drew)); exact HO138.out) (Kd.R_base ho0) hb); have n1_ := Aside0.mk (Kd.R_lower (Kd.R_new' ho0 (Kd.R_lt (by (with_reducible repeat (first | apply Kd.R_alloc | apply Kd.R_drewN | apply Kd.R_drew)); exact HO138.out))) (below_size (by repeat (first | (with_reducible first | exact HB.out | apply below_alloc | apply pw_below_drewN | apply below_drew1) | exact HB.out)))); have n2_ := Aside0.mk (below_step (by repeat (first | (with_reducible first | exact HB.out | apply below_alloc | apply pw_below_drewN | apply below_drew1) | exact HB.out)) hb); clear HO138; clear HB; have HO138 := n0_; have HO142 := n1_; have HB := n2_; clear n0_ n1_ n2_; (try clear hb); (try clear hb2); (try clear hk); (try clear hi); (try clear ho0); obtain ⟨Ao19, co19, eo19⟩ := Kd.R_slice HO142.out; subst eo19) | ((with_reducible refine gate_callee (f := 12) rfl ?_); refine goesL_ (some 12) rfl rfl Try.func12 (by kernel_rfl) rfl #[.slice Ao19 t139.length co19, .int .u32 4, .int .i64 4] rfl (by (try simp only [List.map_toArray, List.map_cons, List.map_nil]); first | done | rfl | (simp only [List.length_drop, List.length_take]; rfl)) ?_; (with_reducible refine (memory_Load.calls _ _ t139 4 4 t143 true _ ?side1 ?side2 A3.out).mono ?_); (case side1 => repeat (first | exact (Kd.R_reads' HO142.out).2.2 | (with_reducible refine Kd.C_alloc ?_ _) | (with_reducible refine Kd.C_drewN ?_ _) | (with_reducible refine Kd.C_drew ?_))); (case side2 => exact (Kd.R_reads' HO142.out).2.1); rintro e w' ⟨rfl, ⟨nd, rfl⟩⟩; refine ⟨_, rfl, ?_⟩) | (go_at_call 17; (with_reducible refine (memory_Pages.calls _ _ t139 t145 _ ?side1 ?side2 A7.out).mono ?_); (case side1 => repeat (first | exact (Kd.R_reads' HO142.out).2.2 | (with_reducible refine Kd.C_alloc ?_ _) | (with_reducible refine Kd.C_drewN ?_ _) | (with_reducible refine Kd.C_drew ?_))); (case side2 => exact (Kd.R_reads' HO142.out).2.1); rintro e w' ⟨rfl, ⟨nd, rfl⟩⟩))
          go_ret
          exact ⟨by first | rfl | (simp [errW_none, errW_some] <;> rfl) | (simp [*, errW_none, errW_some] <;> rfl), by repeat (first | (with_reducible first | exact HB.out | apply below_alloc | apply pw_below_drewN | apply below_drew1) | exact HB.out)⟩
      · rw [if_neg c6] at H
        have c6b0 : (t143 == 65280) = false := beq_eq_false_iff_ne.mpr c6
        have c6b1 : (t143 != 65280) = true := bne_iff_ne.mpr c6
        obtain rfl := Option.some.inj H
        go_enter Try.func21, Try.ntmps21
        go_wp2_with (first | ((with_reducible refine gate_callee (f := 19) rfl ?_); refine goesL_ (some 6) rfl rfl Try.func19 (by kernel_rfl) rfl #[.int .i64 1] rfl (by (try simp only [List.map_toArray, List.map_cons, List.map_nil]); first | done | rfl | (simp only [List.length_drop, List.length_take]; rfl)) ?_; (with_reducible refine (memory_New.calls 1 t136 _ A1.out).mono ?_); rintro e w20 ⟨v137, rfl, ho0, hb⟩; refine ⟨_, rfl, ?_⟩; have n0_ := Aside0.mk (Kd.R_lower ho0 (below_size (by repeat (first | (with_reducible first | exact HB.out | apply below_alloc | apply pw_below_drewN | apply below_drew1) | exact HB.out)))); have n1_ := Aside0.mk (below_step (by repeat (first | (with_reducible first | exact HB.out | apply below_alloc | apply pw_below_drewN | apply below_drew1) | exact HB.out)) hb); clear HB; have HO138 := n0_; have HB := n1_; clear n0_ n1_; (try clear hb); (try clear hb2); (try clear hk); (try clear hi); (try clear ho0); obtain ⟨Ao21, co21, eo21⟩ := Kd.R_slice HO138.out; subst eo21) | ((with_reducible refine gate_callee (f := 14) rfl ?_); refine goesL_ (some 7) rfl rfl Try.func14 (by kernel_rfl) rfl #[.slice Ao21 t136.length co21, .int .u32 5, .int .i64 1, .int .u32 511] rfl (by (try simp only [List.map_toArray, List.map_cons, List.map_nil]); first | done | rfl | (simp only [List.length_drop, List.length_take]; rfl)) ?_; (with_reducible refine (memory_Store.calls _ _ t136 5 1 511 t139 true _ ?side1 ?side2 A2.out).mono ?_); (case side1 => repeat (first | exact (Kd.R_reads' HO138.out).2.2 | (with_reducible refine Kd.C_alloc ?_ _) | (with_reducible refine Kd.C_drewN ?_ _) | (with_reducible refine Kd.C_drew ?_))); (case side2 => exact (Kd.R_reads' HO138.out).2.1); rintro e w22 ⟨v141, rfl, ho0, hb⟩; refine ⟨_, rfl, ?_⟩; have n0_ := Aside0.mk (Kd.R_elder' (by (with_reducible repeat (first | apply Kd.R_alloc | apply Kd.R_drewN | apply Kd.R_drew)); exact HO138.out) (Kd.R_base ho0) hb); have n1_ := Aside0.mk (Kd.R_lower (Kd.R_new' ho0 (Kd.R_lt (by (with_reducible repeat (first | apply Kd.R_alloc | apply Kd.R_drewN | apply Kd.R_drew)); exact HO138.out))) (below_size (by repeat (first | (with_reducible first | exact HB.out | apply below_alloc | apply pw_below_drewN | apply below_drew1) | exact HB.out)))); have n2_ := Aside0.mk (below_step (by repeat (first | (with_reducible first | exact HB.out | apply below_alloc | apply pw_below_drewN | apply below_drew1) | exact HB.out)) hb); clear HO138; clear HB; have HO138 := n0_; have HO142 := n1_; have HB := n2_; clear n0_ n1_ n2_; (try clear hb); (try clear hb2); (try clear hk); (try clear hi); (try clear ho0); obtain ⟨Ao23, co23, eo23⟩ := Kd.R_slice HO142.out; subst eo23) | ((with_reducible refine gate_callee (f := 12) rfl ?_); refine goesL_ (some 12) rfl rfl Try.func12 (by kernel_rfl) rfl #[.slice Ao23 t139.length co23, .int .u32 4, .int .i64 4] rfl (by (try simp only [List.map_toArray, List.map_cons, List.map_nil]); first | done | rfl | (simp only [List.length_drop, List.length_take]; rfl)) ?_; (with_reducible refine (memory_Load.calls _ _ t139 4 4 t143 true _ ?side1 ?side2 A3.out).mono ?_); (case side1 => repeat (first | exact (Kd.R_reads' HO142.out).2.2 | (with_reducible refine Kd.C_alloc ?_ _) | (with_reducible refine Kd.C_drewN ?_ _) | (with_reducible refine Kd.C_drew ?_))); (case side2 => exact (Kd.R_reads' HO142.out).2.1); rintro e w' ⟨rfl, ⟨nd, rfl⟩⟩; refine ⟨_, rfl, ?_⟩))
        go_ret
        exact ⟨by first | rfl | (simp [errW_none, errW_some] <;> rfl) | (simp [*, errW_none, errW_some] <;> rfl), by repeat (first | (with_reducible first | exact HB.out | apply below_alloc | apply pw_below_drewN | apply below_drew1) | exact HB.out)⟩
    · replace c5 := Bool.eq_false_iff.mpr c5
      subst c5
      have H1 : (some false) = some r := by rw [if_neg (show ¬ (false = true) by decide)] at H; exact H
      clear H
      have H := H1
      clear H1
      obtain rfl := Option.some.inj H
      go_enter Try.func21, Try.ntmps21
      go_wp2_with (first | ((with_reducible refine gate_callee (f := 19) rfl ?_); refine goesL_ (some 6) rfl rfl Try.func19 (by kernel_rfl) rfl #[.int .i64 1] rfl (by (try simp only [List.map_toArray, List.map_cons, List.map_nil]); first | done | rfl | (simp only [List.length_drop, List.length_take]; rfl)) ?_; (with_reducible refine (memory_New.calls 1 t136 _ A1.out).mono ?_); rintro e w24 ⟨v137, rfl, ho0, hb⟩; refine ⟨_, rfl, ?_⟩; have n0_ := Aside0.mk (Kd.R_lower ho0 (below_size (by repeat (first | (with_reducible first | exact HB.out | apply below_alloc | apply pw_below_drewN | apply below_drew1) | exact HB.out)))); have n1_ := Aside0.mk (below_step (by repeat (first | (with_reducible first | exact HB.out | apply below_alloc | apply pw_below_drewN | apply below_drew1) | exact HB.out)) hb); clear HB; have HO138 := n0_; have HB := n1_; clear n0_ n1_; (try clear hb); (try clear hb2); (try clear hk); (try clear hi); (try clear ho0); obtain ⟨Ao25, co25, eo25⟩ := Kd.R_slice HO138.out; subst eo25) | ((with_reducible refine gate_callee (f := 14) rfl ?_); refine goesL_ (some 7) rfl rfl Try.func14 (by kernel_rfl) rfl #[.slice Ao25 t136.length co25, .int .u32 5, .int .i64 1, .int .u32 511] rfl (by (try simp only [List.map_toArray, List.map_cons, List.map_nil]); first | done | rfl | (simp only [List.length_drop, List.length_take]; rfl)) ?_; (with_reducible refine (memory_Store.calls _ _ t136 5 1 511 t139 true _ ?side1 ?side2 A2.out).mono ?_); (case side1 => repeat (first | exact (Kd.R_reads' HO138.out).2.2 | (with_reducible refine Kd.C_alloc ?_ _) | (with_reducible refine Kd.C_drewN ?_ _) | (with_reducible refine Kd.C_drew ?_))); (case side2 => exact (Kd.R_reads' HO138.out).2.1); rintro e w26 ⟨v141, rfl, ho0, hb⟩; refine ⟨_, rfl, ?_⟩; have n0_ := Aside0.mk (Kd.R_elder' (by (with_reducible repeat (first | apply Kd.R_alloc | apply Kd.R_drewN | apply Kd.R_drew)); exact HO138.out) (Kd.R_base ho0) hb); have n1_ := Aside0.mk (Kd.R_lower (Kd.R_new' ho0 (Kd.R_lt (by (with_reducible repeat (first | apply Kd.R_alloc | apply Kd.R_drewN | apply Kd.R_drew)); exact HO138.out))) (below_size (by repeat (first | (with_reducible first | exact HB.out | apply below_alloc | apply pw_below_drewN | apply below_drew1) | exact HB.out)))); have n2_ := Aside0.mk (below_step (by repeat (first | (with_reducible first | exact HB.out | apply below_alloc | apply pw_below_drewN | apply below_drew1) | exact HB.out)) hb); clear HO138; clear HB; have HO138 := n0_; have HO142 := n1_; have HB := n2_; clear n0_ n1_ n2_; (try clear hb); (try clear hb2); (try clear hk); (try clear hi); (try clear ho0); obtain ⟨Ao27, co27, eo27⟩ := Kd.R_slice HO142.out; subst eo27) | ((with_reducible refine gate_callee (f := 12) rfl ?_); refine goesL_ (some 12) rfl rfl Try.func12 (by kernel_rfl) rfl #[.slice Ao27 t139.length co27, .int .u32 4, .int .i64 4] rfl (by (try simp only [List.map_toArray, List.map_cons, List.map_nil]); first | done | rfl | (simp only [List.length_drop, List.length_take]; rfl)) ?_; (with_reducible refine (memory_Load.calls _ _ t139 4 4 t143 false _ ?side1 ?side2 A3.out).mono ?_); (case side1 => repeat (first | exact (Kd.R_reads' HO142.out).2.2 | (with_reducible refine Kd.C_alloc ?_ _) | (with_reducible refine Kd.C_drewN ?_ _) | (with_reducible refine Kd.C_drew ?_))); (case side2 => exact (Kd.R_reads' HO142.out).2.1); rintro e w' ⟨rfl, ⟨nd, rfl⟩⟩; refine ⟨_, rfl, ?_⟩))
      go_ret
      exact ⟨by first | rfl | (simp [errW_none, errW_some] <;> rfl) | (simp [*, errW_none, errW_some] <;> rfl), by repeat (first | (with_reducible first | exact HB.out | apply below_alloc | apply pw_below_drewN | apply below_drew1) | exact HB.out)⟩
  · replace c4 := Bool.eq_false_iff.mpr c4
    subst c4
    have H1 : (some false) = some r := by rw [if_neg (show ¬ (false = true) by decide)] at H; exact H
    clear H
    have H := H1
    clear H1
    obtain rfl := Option.some.inj H
    go_enter Try.func21, Try.ntmps21
    go_wp2_with (first | ((with_reducible refine gate_callee (f := 19) rfl ?_); refine goesL_ (some 6) rfl rfl Try.func19 (by kernel_rfl) rfl #[.int .i64 1] rfl (by (try simp only [List.map_toArray, List.map_cons, List.map_nil]); first | done | rfl | (simp only [List.length_drop, List.length_take]; rfl)) ?_; (with_reducible refine (memory_New.calls 1 t136 _ A1.out).mono ?_); rintro e w28 ⟨v137, rfl, ho0, hb⟩; refine ⟨_, rfl, ?_⟩; have n0_ := Aside0.mk (Kd.R_lower ho0 (below_size (by repeat (first | (with_reducible first | exact HB.out | apply below_alloc | apply pw_below_drewN | apply below_drew1) | exact HB.out)))); have n1_ := Aside0.mk (below_step (by repeat (first | (with_reducible first | exact HB.out | apply below_alloc | apply pw_below_drewN | apply below_drew1) | exact HB.out)) hb); clear HB; have HO138 := n0_; have HB := n1_; clear n0_ n1_; (try clear hb); (try clear hb2); (try clear hk); (try clear hi); (try clear ho0); obtain ⟨Ao29, co29, eo29⟩ := Kd.R_slice HO138.out; subst eo29) | ((with_reducible refine gate_callee (f := 14) rfl ?_); refine goesL_ (some 7) rfl rfl Try.func14 (by kernel_rfl) rfl #[.slice Ao29 t136.length co29, .int .u32 5, .int .i64 1, .int .u32 511] rfl (by (try simp only [List.map_toArray, List.map_cons, List.map_nil]); first | done | rfl | (simp only [List.length_drop, List.length_take]; rfl)) ?_; (with_reducible refine (memory_Store.calls _ _ t136 5 1 511 t139 false _ ?side1 ?side2 A2.out).mono ?_); (case side1 => repeat (first | exact (Kd.R_reads' HO138.out).2.2 | (with_reducible refine Kd.C_alloc ?_ _) | (with_reducible refine Kd.C_drewN ?_ _) | (with_reducible refine Kd.C_drew ?_))); (case side2 => exact (Kd.R_reads' HO138.out).2.1); rintro e w30 ⟨v141, rfl, ho0, hb⟩; refine ⟨_, rfl, ?_⟩; have n0_ := Aside0.mk (Kd.R_elder' (by (with_reducible repeat (first | apply Kd.R_alloc | apply Kd.R_drewN | apply Kd.R_drew)); exact HO138.out) (Kd.R_base ho0) hb); have n1_ := Aside0.mk (Kd.R_lower (Kd.R_new' ho0 (Kd.R_lt (by (with_reducible repeat (first | apply Kd.R_alloc | apply Kd.R_drewN | apply Kd.R_drew)); exact HO138.out))) (below_size (by repeat (first | (with_reducible first | exact HB.out | apply below_alloc | apply pw_below_drewN | apply below_drew1) | exact HB.out)))); have n2_ := Aside0.mk (below_step (by repeat (first | (with_reducible first | exact HB.out | apply below_alloc | apply pw_below_drewN | apply below_drew1) | exact HB.out)) hb); clear HO138; clear HB; have HO138 := n0_; have HO142 := n1_; have HB := n2_; clear n0_ n1_ n2_; (try clear hb); (try clear hb2); (try clear hk); (try clear hi); (try clear ho0); obtain ⟨Ao31, co31, eo31⟩ := Kd.R_slice HO142.out; subst eo31) | ((with_reducible refine gate_callee (f := 12) rfl ?_); refine goesL_ (some 12) rfl rfl Try.func12 (by kernel_rfl) rfl #[.slice Ao31 t139.length co31, .int .u32 4, .int .i64 4] rfl (by (try simp only [List.map_toArray, List.map_cons, List.map_nil]); first | done | rfl | (simp only [List.length_drop, List.length_take]; rfl)) ?_; (with_reducible refine (memory_Load.calls _ _ t139 4 4 t143 t144 _ ?side1 ?side2 A3.out).mono ?_); (case side1 => repeat (first | exact (Kd.R_reads' HO142.out).2.2 | (with_reducible refine Kd.C_alloc ?_ _) | (with_reducible refine Kd.C_drewN ?_ _) | (with_reducible refine Kd.C_drew ?_))); (case side2 => exact (Kd.R_reads' HO142.out).2.1); rintro e w' ⟨rfl, ⟨nd, rfl⟩⟩; refine ⟨_, rfl, ?_⟩))
    go_ret
    exact ⟨by first | rfl | (simp [errW_none, errW_some] <;> rfl) | (simp [*, errW_none, errW_some] <;> rfl), by repeat (first | (with_reducible first | exact HB.out | apply below_alloc | apply pw_below_drewN | apply below_drew1) | exact HB.out)⟩

/-! ### memory_text: function 42 -/
def memory_text.b4 (x : Int) : List Int := [x % 256, x / 256 % 256, x / 65536 % 256, x / 16777216 % 256]
def memory_text.f (l0 : List Int) : Option (ByteArray) := if l0.length ≤ 17592186044416 then some (strOfNums (l0.flatMap memory_text.b4)) else none
theorem memory_text.b4_len (l : List Int) : (l.flatMap memory_text.b4).length = 4 * l.length := by
  induction l with
  | nil => rfl
  | cons a l ih => simp only [List.flatMap_cons, List.length_append, ih, List.length_cons]; simp [memory_text.b4]; omega
set_option maxHeartbeats 4000000 in
set_option maxRecDepth 100000 in
theorem memory_text.calls (A0 : Option Addr) (c0 : Nat) (l0 : List Int) (r : ByteArray) (w : World) (hr0 : Kd.C (Kd.int .u32) w A0 l0.length l0) (hc0 : l0.length ≤ c0) (h : memory_text.f l0 = some r) :
    Calls Try.prog 42 #[.slice A0 l0.length c0] w fun e w' => e = .returned (.string r) ∧ Below w.heap.size w w' := by
  have HR := Aside0.mk hr0
  clear hr0
  unfold memory_text.f at h
  by_cases hb : l0.length ≤ 17592186044416
  · rw [if_pos hb] at h
    obtain rfl := Option.some.inj h
    clear h
    obtain ⟨i0, hi, hz0, hz1, hz2⟩ := info_parts info5
    go_enter Try.func42, Try.ntmps42
    go_wp2_with (at_make; refine wpList_make_own _ rfl _ _ 37 rfl w.heap.size 5 i0 (.int .u8 0) 1 Try.underlying37 hi hz0 hz1 _ _ _ (4 * l0.length) rfl rfl (by omega) (by rw [hz2]; omega) (by unfold maxLen; omega) (Nat.le_refl _) ?_; intro w1 hown1 hgrow1)
    have HB := Aside0.mk (Below.grown (Below.refl w.heap.size w) hgrow1 (Nat.le_refl _) (by simp))
    have HO := Aside0.mk (show (Kd.int .u8).R 5 w1 w.heap.size (fun _ => True) (.slice (some ⟨w.heap.size, 0, none⟩) 0 (4 * l0.length)) ([] : List Int) from ⟨fun _ _ => trivial, [], hown1, Reps.none _ _⟩)
    clear hown1 hgrow1
    go_loopw [3, 12] (fun v i wr => ∃ j : Nat, j ≤ l0.length ∧ i = .int .i64 j ∧ Aside0 ((Kd.int .u8).R 5 wr w.heap.size (fun _ => True) v ((l0.take j).flatMap memory_text.b4)) ∧ Aside0 (Below w.heap.size w wr)) (fun _ i _ => l0.length - (intOf i).toNat)
    case atStart => exact ⟨0, Nat.zero_le _, rfl, HO, HB⟩
    case round =>
      clear HO HB
      obtain ⟨j, hj, rfl, HO, HB⟩ := hrel
      by_cases hlt : j < l0.length
      · have HC := Kd.C_below HR.out HB.out
        obtain ⟨ad, cs, rfl, _, hK, hcell⟩ := Kd.C_get HC 0 (j : Int) (by omega) (by omega)
        have hK' : cs = [.int .u32 (l0.getD ((j : Int)).toNat 0)] := hK
        subst hK'
        have hc1 := hcell 0 _ rfl
        have hcell1 : wr.cell? (ad.add j) = some (.int .u32 (l0.getD j 0)) := by simpa [Kd.int, Kd.scalar] using hc1
        clear hcell hc1 hK HC
        obtain ⟨x, hx⟩ : ∃ x, l0.getD j 0 = x := ⟨_, rfl⟩
        rw [hx] at hcell1
        have HX := Aside0.mk hx
        clear hx
        have hfl : ((l0.take j).flatMap memory_text.b4).length = 4 * j := by rw [memory_text.b4_len]; simp; omega
        have HFL := Aside0.mk hfl
        clear hfl
        go_wp2_with (at_builtin; refine Kd.R_append_rows (Kd.int .u8) (Rr := fun x cs => cs = [.int .u8 x]) w.heap.size rfl _ _ 37 5 (.int .u8 0) 1 rfl Try.underlying37 info5 rfl (by decide) (by decide) _ _ [x % 256, x / 256 % 256, x / 65536 % 256, x / 16777216 % 256] (some ⟨wr.heap.size, 0, none⟩) 4 4 (fun _ => True) (fun _ => False) rfl rfl (Kd.R_alloc HO.out _) (Go.Proofs.Ytdaeflafdnlceaa.Hand.reads_new wr 5 [x % 256, x / 256 % 256, x / 65536 % 256, x / 16777216 % 256] _ rfl (by simp)) (fun _ _ h => h) (fun _ h => h.elim) (fun _ _ => trivial) (below_alloc HB.out _) (by have := HB.out.size; simp; omega) (by rw [HFL.out]; omega) ?_; intro v2 w2 ho2 hb2 hg2 hat2; clear hg2 hat2; have HO2 := Aside0.mk ho2; have HB2 := Aside0.mk hb2; clear ho2 hb2)
        go_roundw
        case rel => exact ⟨j + 1, by omega, by go_num, ⟨by
          have e : (l0.take (j + 1)).flatMap memory_text.b4 = (l0.take j).flatMap memory_text.b4 ++ [x % 256, x / 256 % 256, x / 65536 % 256, x / 16777216 % 256] := by
            rw [List.take_succ_eq_append_getElem hlt, List.flatMap_append]
            have hx2 : l0[j] = x := by rw [← HX.out]; simp [List.getD, hlt]
            simp [memory_text.b4, hx2]
          rw [e]; exact HO2.out⟩, HB2⟩
        case measure => simp [intOf]; omega
      · obtain rfl : j = l0.length := by omega
        have HO' := HO.out
        clear HO
        rw [List.take_length] at HO'
        obtain ⟨ys, hys⟩ : ∃ ys, ys = l0.flatMap memory_text.b4 := ⟨_, rfl⟩
        rw [← hys] at HO'
        have HY := Aside0.mk hys
        clear hys
        obtain ⟨A1, c1, rfl, _, hC1⟩ := Kd.R_reads HO'
        clear HO'
        have hconv := Kd.C_string (P := Try.prog) (c := c1) Try.underlying37 Try.underlying5 Try.underlying9 hC1
        clear hC1
        go_wp2
        go_ret
        exact ⟨by rw [HY.out]; rfl, HB.out⟩
  · rw [if_neg hb] at h
    exact absurd h (by simp)

/-! ### bits_Hash: function 45 -/
def bits_Hash.l0 : Nat → Int → ByteArray → Int → Int → Option (Int)
  | 0, _, _, _, _ => none
  | k + 1, x0, x1, x7, x8 => if x8 < x7 then (if 0 ≤ x8 then (if x8 < (x1.size : Int) then (bits_Hash.l0 k (IntKind.u64.wrap ((Go.bits .xor .u64 x0 (IntKind.u64.wrap (bt x1 x8))) * 1099511628211)) x1 x7 (wrap64 (x8 + 1))) else (none)) else (none)) else (some x0)
def bits_Hash.f (k : Nat) (a0 : Int) (a1 : ByteArray) : Option (Int) := bits_Hash.l0 k a0 a1 (a1.size : Int) 0
theorem bits_Hash.mono_l : ∀ k, (∀ y0 y1 y2 y3, LeO (bits_Hash.l0 k y0 y1 y2 y3) (bits_Hash.l0 (k + 1) y0 y1 y2 y3))
  | 0 => fun _ _ _ _ r h => by simp [bits_Hash.l0] at h
  | k + 1 => by
    have ih0 := bits_Hash.mono_l k
    · intro y0 y1 y2 y3
      unfold bits_Hash.l0
      repeat' first
      | (with_reducible exact ih0 _ _ _ _)
      | (with_reducible exact LeO.refl _)
      | (with_reducible exact LeO.none _)
      | (with_reducible refine LeO.ite ?_ ?_)
      | (with_reducible refine LeO.bind ?_ (fun _ => ?_))
      | exact ih0 _ _ _ _
      | exact LeO.none _
      | refine LeO.ite ?_ ?_
      | refine LeO.bind ?_ (fun _ => ?_)
theorem bits_Hash.mono : ∀ a0 a1 k, LeO (bits_Hash.f k a0 a1) (bits_Hash.f (k + 1) a0 a1) := by
  intro a0 a1 k
  have ih0 := bits_Hash.mono_l k
  unfold bits_Hash.f
  repeat' first
      | (with_reducible exact ih0 _ _ _ _)
      | (with_reducible exact LeO.refl _)
      | (with_reducible exact LeO.none _)
      | (with_reducible refine LeO.ite ?_ ?_)
      | (with_reducible refine LeO.bind ?_ (fun _ => ?_))
      | exact ih0 _ _ _ _
      | exact LeO.none _
      | refine LeO.ite ?_ ?_
      | refine LeO.bind ?_ (fun _ => ?_)
set_option maxHeartbeats 8000000 in
set_option maxRecDepth 100000 in
theorem bits_Hash.calls (k : Nat) (a0 : Int) (a1 : ByteArray) (r : Int) (w : World) (h : bits_Hash.f k a0 a1 = some r) :
    Calls Try.prog 45 #[.int .u64 a0, .string a1] w fun e w' => e = .returned (.int .u64 r) ∧ Drawn0 w w' := by
  have H : (bits_Hash.l0 k a0 a1 (a1.size : Int) 0) = some r := h
  clear h
  have H' := Aside0.mk H
  clear H
  go_enter Try.func45, Try.ntmps45
  go_wp2
  go_loopg [0, 8] k (fun kq v0 v8 w' => ∃ (x0_1 : Int) (x8_1 : Int), v0 = .int .u64 x0_1 ∧ v8 = .int .i64 x8_1 ∧ Aside0 (bits_Hash.l0 kq x0_1 a1 (a1.size : Int) x8_1 = some r) ∧ Aside0 (kq ≤ k) ∧ Drawn0 w w')
  case atStart => exact ⟨(a0), (0), (by first | rfl | (simp; done) | (simp [*]; done)), (by first | rfl | (simp; done) | (simp [*]; done)), H', ⟨Nat.le_refl _⟩, by repeat (first | exact Drawn0.refl _ | apply Drawn0.step)⟩
  case round =>
    clear H'
    try clear p2
    obtain ⟨x0_1, x8_1, rfl, rfl, HA, HK1, ⟨m1, rfl⟩⟩ := hrel
    cases gk with
    | zero => exact absurd HA.out (by simp [bits_Hash.l0])
    | succ k1 =>
      have H := HA.out
      clear HA
      simp only [bits_Hash.l0] at H
      by_cases c3 : x8_1 < (a1.size : Int)
      · rw [if_pos c3] at H
        have c3b0 : decide (x8_1 < (a1.size : Int)) = true := decide_eq_true c3
        clear c3
        by_cases c4 : 0 ≤ x8_1
        · rw [if_pos c4] at H
          have c4b0 : decide (0 ≤ x8_1) = true := decide_eq_true c4
          clear c4
          by_cases c5 : x8_1 < (a1.size : Int)
          · rw [if_pos c5] at H
            have c5b0 : decide (x8_1 < (a1.size : Int)) = true := decide_eq_true c5
            clear c5
            have H' := Aside0.mk H
            clear H
            have p6 : 0 ≤ (x8_1 : Int) := of_decide_eq_true (by first | (with_reducible assumption) | assumption)
            have q6 : x8_1 < (a1.size : Int) := of_decide_eq_true (by first | (with_reducible assumption) | assumption)
            have hx6 := bt_at a1 x8_1
            replace p6 := eq_true p6
            replace q6 := eq_true q6
            go_wp2
            go_roundg k1
            case measure => have := HK1.out; omega
            case rel => exact ⟨(IntKind.u64.wrap ((Go.bits .xor .u64 x0_1 (IntKind.u64.wrap (bt a1 x8_1))) * 1099511628211)), (wrap64 (x8_1 + 1)), (by first | rfl | (simp; done) | (simp [*]; done)), (by first | rfl | (simp; done) | (simp [*]; done)), H', ⟨by have := HK1.out; omega⟩, by repeat (first | exact Drawn0.refl _ | apply Drawn0.step)⟩
          · rw [if_neg c5] at H
            exact absurd H (by simp)
        · rw [if_neg c4] at H
          exact absurd H (by simp)
      · rw [if_neg c3] at H
        have c3b0 : decide (x8_1 < (a1.size : Int)) = false := decide_eq_false c3
        clear c3
        obtain rfl := Option.some.inj H
        go_wp2
        go_ret
        exact ⟨by first | rfl | (simp; done) | (simp [*]; done), by repeat (first | exact Drawn0.refl _ | apply Drawn0.step)⟩

/-! ### memory_Hash: function 28 -/
def memory_Hash.f (k : Nat) (l0 : List Int) : Option (Int) := (memory_text.f l0).bind fun t149 => ((bits_Hash.f k 14695981039346656037 t149).bind fun t150 => (some t150))
theorem memory_Hash.mono : ∀ a0 k, LeO (memory_Hash.f k a0) (memory_Hash.f (k + 1) a0) := by
  intro a0 k
  unfold memory_Hash.f
  repeat' first
      | (with_reducible exact bits_Hash.mono _ _ _)
      | (with_reducible exact LeO.refl _)
      | (with_reducible exact LeO.none _)
      | (with_reducible refine LeO.ite ?_ ?_)
      | (with_reducible refine LeO.bind ?_ (fun _ => ?_))
      | exact bits_Hash.mono _ _ _
      | exact LeO.none _
      | refine LeO.ite ?_ ?_
      | refine LeO.bind ?_ (fun _ => ?_)
set_option maxHeartbeats 8000000 in
set_option maxRecDepth 100000 in
theorem memory_Hash.calls (k : Nat) (A0 : Option Addr) (c0 : Nat) (l0 : List Int) (r : Int) (w : World) (hr0 : Kd.C (Kd.int .u32) w A0 l0.length l0) (hc0 : l0.length ≤ c0) (h : memory_Hash.f k l0 = some r) :
    Calls Try.prog 28 #[.slice A0 l0.length c0] w fun e w' => e = .returned (.int .u64 r) ∧ Below w.heap.size w w' := by
  have HR0 := Aside0.mk hr0
  have HC0 := Aside0.mk hc0
  clear hr0 hc0
  have HB := Aside0.mk (Below.refl w.heap.size w)
  have H : ((memory_text.f l0).bind fun t149 => ((bits_Hash.f k 14695981039346656037 t149).bind fun t150 => (some t150))) = some r := h
  clear h
  replace H := Option.bind_eq_some_iff.mp H
  obtain ⟨t149, A20, H⟩ := H
  replace H : ((bits_Hash.f k 14695981039346656037 t149).bind fun t150 => (some t150)) = some r := H
  have A2 := Aside0.mk A20
  clear A20
  replace H := Option.bind_eq_some_iff.mp H
  obtain ⟨t150, A30, H⟩ := H
  replace H : (some t150) = some r := H
  have A3 := Aside0.mk A30
  clear A30
  obtain rfl := Option.some.inj H
  go_enter Try.func28, Try.ntmps28
  go_wp2_with (first | ((with_reducible refine gate_callee (f := 42) rfl ?_); refine goesL_ (some 4) rfl rfl Try.func42 (by kernel_rfl) rfl #[.slice A0 l0.length c0] rfl (by (try simp only [List.map_toArray, List.map_cons, List.map_nil]); first | done | rfl | (simp only [List.length_drop, List.length_take]; rfl)) ?_; (with_reducible refine (memory_text.calls _ _ l0 t149 _ ?side1 ?side2 A2.out).mono ?_); (case side1 => repeat (first | exact HR0.out | (with_reducible refine Kd.C_alloc ?_ _) | (with_reducible refine Kd.C_drewN ?_ _) | (with_reducible refine Kd.C_drew ?_))); (case side2 => exact HC0.out); rintro e w4 ⟨rfl, hb⟩; refine ⟨_, rfl, ?_⟩; have n0_ := Aside0.mk (below_step (by repeat (first | (with_reducible first | exact HB.out | apply below_alloc | apply pw_below_drewN | apply below_drew1) | exact HB.out)) hb); clear HB; have HB := n0_; clear n0_; (try clear hb); (try clear hb2); (try clear hk); (try clear hi)) | ((with_reducible refine gate_callee (f := 45) rfl ?_); refine goesL_ (some 5) rfl rfl Try.func45 (by kernel_rfl) rfl #[.int .u64 14695981039346656037, .string t149] rfl (by (try simp only [List.map_toArray, List.map_cons, List.map_nil]); first | done | rfl | (simp only [List.length_drop, List.length_take]; rfl)) ?_; (with_reducible refine (bits_Hash.calls k 14695981039346656037 t149 t150 _ A3.out).mono ?_); rintro e w' ⟨rfl, ⟨nd, rfl⟩⟩; refine ⟨_, rfl, ?_⟩))
  go_ret
  exact ⟨by first | rfl | (simp [errW_none, errW_some] <;> rfl) | (simp [*, errW_none, errW_some] <;> rfl), by repeat (first | (with_reducible first | exact HB.out | apply below_alloc | apply pw_below_drewN | apply below_drew1) | exact HB.out)⟩

/-! ### vmfleetref1_Low: function 43 -/
def vmfleetref1_Low.l0 : Nat → Int → Int → List Int → Int → Option (ByteArray)
  | 0, _, _, _, _ => none
  | k + 1, x0, x1, x5, x6 => if x6 < x1 then (if 0 ≤ (IntKind.u64.wrap (wrap64 (8 * x6))) then (if x5.length < 140737488355328 then (vmfleetref1_Low.l0 k x0 x1 (x5 ++ [(shr .u32 x0 (IntKind.u64.wrap (wrap64 (8 * x6)))) % 256]) (wrap64 (x6 + 1))) else (none)) else (none)) else (some (strOfNums x5))
def vmfleetref1_Low.f (k : Nat) (a0 : Int) (a1 : Int) : Option (ByteArray) := vmfleetref1_Low.l0 k a0 a1 ([] : List Int) 0
theorem vmfleetref1_Low.mono_l : ∀ k, (∀ y0 y1 y2 y3, LeO (vmfleetref1_Low.l0 k y0 y1 y2 y3) (vmfleetref1_Low.l0 (k + 1) y0 y1 y2 y3))
  | 0 => fun _ _ _ _ r h => by simp [vmfleetref1_Low.l0] at h
  | k + 1 => by
    have ih0 := vmfleetref1_Low.mono_l k
    · intro y0 y1 y2 y3
      unfold vmfleetref1_Low.l0
      repeat' first
      | (with_reducible exact ih0 _ _ _ _)
      | (with_reducible exact LeO.refl _)
      | (with_reducible exact LeO.none _)
      | (with_reducible refine LeO.ite ?_ ?_)
      | (with_reducible refine LeO.bind ?_ (fun _ => ?_))
      | exact ih0 _ _ _ _
      | exact LeO.none _
      | refine LeO.ite ?_ ?_
      | refine LeO.bind ?_ (fun _ => ?_)
theorem vmfleetref1_Low.mono : ∀ a0 a1 k, LeO (vmfleetref1_Low.f k a0 a1) (vmfleetref1_Low.f (k + 1) a0 a1) := by
  intro a0 a1 k
  have ih0 := vmfleetref1_Low.mono_l k
  unfold vmfleetref1_Low.f
  repeat' first
      | (with_reducible exact ih0 _ _ _ _)
      | (with_reducible exact LeO.refl _)
      | (with_reducible exact LeO.none _)
      | (with_reducible refine LeO.ite ?_ ?_)
      | (with_reducible refine LeO.bind ?_ (fun _ => ?_))
      | exact ih0 _ _ _ _
      | exact LeO.none _
      | refine LeO.ite ?_ ?_
      | refine LeO.bind ?_ (fun _ => ?_)
set_option maxHeartbeats 8000000 in
set_option maxRecDepth 100000 in
theorem vmfleetref1_Low.calls (k : Nat) (a0 : Int) (a1 : Int) (r : ByteArray) (w : World) (h : vmfleetref1_Low.f k a0 a1 = some r) :
    Calls Try.prog 43 #[.int .u32 a0, .int .i64 a1] w fun e w' => e = .returned (.string r) ∧ Below w.heap.size w w' := by
  have HB := Aside0.mk (Below.refl w.heap.size w)
  have H : (vmfleetref1_Low.l0 k a0 a1 ([] : List Int) 0) = some r := h
  clear h
  have H' := Aside0.mk H
  clear H
  go_enter Try.func43, Try.ntmps43
  go_wp2
  go_loopg [5, 6] k (fun kq v5 v6 w' => ∃ (x5_1 : List Int) (x6_1 : Int), v6 = .int .i64 x6_1 ∧ Aside0 (vmfleetref1_Low.l0 kq a0 a1 x5_1 x6_1 = some r) ∧ Aside0 (kq ≤ k) ∧ Aside0 (Kd.R (Kd.int .u8) 5 w' w.heap.size (fun _ => True) v5 x5_1) ∧ Aside0 (Below w.heap.size w w'))
  case atStart => exact ⟨(([] : List Int)), (0), (by first | rfl | (simp; done) | (simp [*]; done)), H', ⟨Nat.le_refl _⟩, ⟨by first | exact Kd.R_nil _ _ _ _ _ | exact Kd.N_nil _ _ _ _ _ | exact Kd.V_nil _ _ _ _ _ | exact Kd.Q_nil _ _ _ _ _ | exact Kd.S_nil _ _ _ _ _⟩, ⟨by repeat (first | (with_reducible first | exact HB.out | apply below_alloc | apply pw_below_drewN | apply below_drew1) | exact HB.out)⟩⟩
  case round =>
    clear H'
    try clear p2
    obtain ⟨x5_1, x6_1, rfl, HA, HK1, HO_5, HB⟩ := hrel
    cases gk with
    | zero => exact absurd HA.out (by simp [vmfleetref1_Low.l0])
    | succ k1 =>
      have H := HA.out
      clear HA
      simp only [vmfleetref1_Low.l0] at H
      by_cases c3 : x6_1 < a1
      · rw [if_pos c3] at H
        have c3b0 : decide (x6_1 < a1) = true := decide_eq_true c3
        clear c3
        obtain ⟨ji4, hji4⟩ : ∃ j_ : Int, (IntKind.u64.wrap (wrap64 (8 * x6_1))) = j_ := ⟨_, rfl⟩
        replace H : (if 0 ≤ (ji4) then (if x5_1.length < 140737488355328 then (vmfleetref1_Low.l0 k1 a0 a1 (x5_1 ++ [(shr .u32 a0 (ji4)) % 256]) (wrap64 (x6_1 + 1))) else (none)) else (none)) = some r := by first | (rw [hji4] at H; exact H) | (simp only [hji4] at H ⊢; exact H)
        by_cases c5 : 0 ≤ (ji4)
        · rw [if_pos c5] at H
          have c5b0 := eq_true c5
          have c5b1 : decide (0 ≤ (ji4)) = true := decide_eq_true c5
          clear c5
          obtain ⟨ji6, hji6⟩ : ∃ j_ : Int, (shr .u32 a0 (ji4)) = j_ := ⟨_, rfl⟩
          replace H : (if x5_1.length < 140737488355328 then (vmfleetref1_Low.l0 k1 a0 a1 (x5_1 ++ [(ji6) % 256]) (wrap64 (x6_1 + 1))) else (none)) = some r := by first | (rw [hji6] at H; exact H) | (simp only [hji6] at H ⊢; exact H)
          have hji6_ : (a0 / 2 ^ min (ji4).toNat 32) = ji6 := hji6
          have hji6z : (ji4) ≤ 32 → (a0 / 2 ^ (ji4).toNat) = ji6 := shr_small hji6
          by_cases c7 : x5_1.length < 140737488355328
          · rw [if_pos c7] at H
            have LMc7 := Aside0.mk c7
            clear c7
            obtain ⟨y151, hy151⟩ : ∃ y_ : List Int, y_ = (x5_1 ++ [(ji6) % 256]) := ⟨_, rfl⟩
            replace H : (vmfleetref1_Low.l0 k1 a0 a1 y151 (wrap64 (x6_1 + 1))) = some r := by first | (rw [hy151]; with_reducible exact H) | (have H2_ := (Option.bind_some _ _).symm.trans H; rw [hy151]; with_reducible exact H2_) | (have H2_ := (Option.bind_some _ _).symm.trans H; with_reducible exact H2_) | with_reducible exact H | (rw [hy151]; exact H) | exact H
            have Ny151 := Aside0.mk hy151
            clear hy151
            have H' := Aside0.mk H
            clear H
            go_wp2_with (first | ((with_reducible refine gate_builtin (b := .append) (xs := #[.tmp 12, .tmp 19]) rfl ?_); at_builtin; refine Kd.R_append (Kd.int .u8) (w0 := w) w.heap.size rfl (.tmp 12) (.tmp 19) 37 5 (.int .u8 0) 1 rfl Try.underlying37 info5 rfl (by decide) (by omega) u5 x5_1 ((ji6) % 256) [.int .u8 ((ji6) % 256)] (fun _ => True) (fun _ => False) rfl rfl ?aP (fun _ hk => hk.elim) ?aF ?aO ?aB ?aS ?aL ?_; (case aP => exact rfl); (case aB => exact (by repeat (first | (with_reducible first | exact HB.out | apply below_alloc | apply pw_below_drewN | apply below_drew1) | exact HB.out))); (case aF => exact (fun _ _ => trivial)); (case aO => exact (by (with_reducible repeat (first | apply Kd.R_alloc | apply Kd.R_drewN | apply Kd.R_drew)); exact HO_5.out)); (case aS => exact (below_size (by repeat (first | (with_reducible first | exact HB.out | apply below_alloc | apply pw_below_drewN | apply below_drew1) | exact HB.out)))); (case aL => have := LMc7.out; omega); intro v152 w8 ho hb hg hat; rw [← Ny151.out] at ho; have n0_ := Aside0.mk (hb); have n1_ := Aside0.mk (ho); clear HB; clear HO_5; have HB := n0_; have HO153 := n1_; clear n0_ n1_; clear ho hb hg hat))
            go_roundg k1
            case measure => have := HK1.out; omega
            case rel => exact ⟨(y151), (wrap64 (x6_1 + 1)), (by first | rfl | (simp; done) | (simp [*]; done)), H', ⟨by have := HK1.out; omega⟩, ⟨by (with_reducible repeat (first | apply Kd.R_alloc | apply Kd.R_drewN | apply Kd.R_drew)); exact HO153.out⟩, ⟨by repeat (first | (with_reducible first | exact HB.out | apply below_alloc | apply pw_below_drewN | apply below_drew1) | exact HB.out)⟩⟩
          · rw [if_neg c7] at H
            exact absurd H (by simp)
        · rw [if_neg c5] at H
          exact absurd H (by simp)
      · rw [if_neg c3] at H
        have c3b0 : decide (x6_1 < a1) = false := decide_eq_false c3
        clear c3
        obtain rfl := Option.some.inj H
        have hcv9 := own_string (P := Try.prog) Try.underlying37 Try.underlying5 Try.underlying9 (Kd.own_of_R HO_5.out)
        go_wp2
        go_ret
        exact ⟨by first | rfl | (simp [errW_none, errW_some] <;> rfl) | (simp [*, errW_none, errW_some] <;> rfl), by repeat (first | (with_reducible first | exact HB.out | apply below_alloc | apply pw_below_drewN | apply below_drew1) | exact HB.out)⟩

/-! ### vmfleetref1_Hash: function 46 -/
def vmfleetref1_Hash.l0 : Nat → Int → ByteArray → Int → Option (Int)
  | 0, _, _, _ => none
  | k + 1, x0, x1, x5 => if x5 < (x1.size : Int) then (if 0 ≤ x5 then (vmfleetref1_Hash.l0 k (IntKind.u64.wrap ((Go.bits .xor .u64 x0 (IntKind.u64.wrap (bt x1 x5))) * 1099511628211)) x1 (wrap64 (x5 + 1))) else (none)) else (some x0)
def vmfleetref1_Hash.f (k : Nat) (a0 : Int) (a1 : ByteArray) : Option (Int) := vmfleetref1_Hash.l0 k a0 a1 0
theorem vmfleetref1_Hash.mono_l : ∀ k, (∀ y0 y1 y2, LeO (vmfleetref1_Hash.l0 k y0 y1 y2) (vmfleetref1_Hash.l0 (k + 1) y0 y1 y2))
  | 0 => fun _ _ _ r h => by simp [vmfleetref1_Hash.l0] at h
  | k + 1 => by
    have ih0 := vmfleetref1_Hash.mono_l k
    · intro y0 y1 y2
      unfold vmfleetref1_Hash.l0
      repeat' first
      | (with_reducible exact ih0 _ _ _)
      | (with_reducible exact LeO.refl _)
      | (with_reducible exact LeO.none _)
      | (with_reducible refine LeO.ite ?_ ?_)
      | (with_reducible refine LeO.bind ?_ (fun _ => ?_))
      | exact ih0 _ _ _
      | exact LeO.none _
      | refine LeO.ite ?_ ?_
      | refine LeO.bind ?_ (fun _ => ?_)
theorem vmfleetref1_Hash.mono : ∀ a0 a1 k, LeO (vmfleetref1_Hash.f k a0 a1) (vmfleetref1_Hash.f (k + 1) a0 a1) := by
  intro a0 a1 k
  have ih0 := vmfleetref1_Hash.mono_l k
  unfold vmfleetref1_Hash.f
  repeat' first
      | (with_reducible exact ih0 _ _ _)
      | (with_reducible exact LeO.refl _)
      | (with_reducible exact LeO.none _)
      | (with_reducible refine LeO.ite ?_ ?_)
      | (with_reducible refine LeO.bind ?_ (fun _ => ?_))
      | exact ih0 _ _ _
      | exact LeO.none _
      | refine LeO.ite ?_ ?_
      | refine LeO.bind ?_ (fun _ => ?_)
set_option maxHeartbeats 8000000 in
set_option maxRecDepth 100000 in
theorem vmfleetref1_Hash.calls (k : Nat) (a0 : Int) (a1 : ByteArray) (r : Int) (w : World) (h : vmfleetref1_Hash.f k a0 a1 = some r) :
    Calls Try.prog 46 #[.int .u64 a0, .string a1] w fun e w' => e = .returned (.int .u64 r) ∧ Drawn0 w w' := by
  have H : (vmfleetref1_Hash.l0 k a0 a1 0) = some r := h
  clear h
  have H' := Aside0.mk H
  clear H
  go_enter Try.func46, Try.ntmps46
  go_wp2
  go_loopg [0, 5] k (fun kq v0 v5 w' => ∃ (x0_1 : Int) (x5_1 : Int), v0 = .int .u64 x0_1 ∧ v5 = .int .i64 x5_1 ∧ Aside0 (vmfleetref1_Hash.l0 kq x0_1 a1 x5_1 = some r) ∧ Aside0 (kq ≤ k) ∧ Drawn0 w w')
  case atStart => exact ⟨(a0), (0), (by first | rfl | (simp; done) | (simp [*]; done)), (by first | rfl | (simp; done) | (simp [*]; done)), H', ⟨Nat.le_refl _⟩, by repeat (first | exact Drawn0.refl _ | apply Drawn0.step)⟩
  case round =>
    clear H'
    try clear p2
    obtain ⟨x0_1, x5_1, rfl, rfl, HA, HK1, ⟨m1, rfl⟩⟩ := hrel
    cases gk with
    | zero => exact absurd HA.out (by simp [vmfleetref1_Hash.l0])
    | succ k1 =>
      have H := HA.out
      clear HA
      simp only [vmfleetref1_Hash.l0] at H
      by_cases c3 : x5_1 < (a1.size : Int)
      · rw [if_pos c3] at H
        have c3b0 : decide (x5_1 < (a1.size : Int)) = true := decide_eq_true c3
        clear c3
        by_cases c4 : 0 ≤ x5_1
        · rw [if_pos c4] at H
          have c4b0 : decide (0 ≤ x5_1) = true := decide_eq_true c4
          clear c4
          have H' := Aside0.mk H
          clear H
          have p5 : 0 ≤ (x5_1 : Int) := of_decide_eq_true (by first | (with_reducible assumption) | assumption)
          have q5 : x5_1 < (a1.size : Int) := of_decide_eq_true (by first | (with_reducible assumption) | assumption)
          have hx5 := bt_at a1 x5_1
          replace p5 := eq_true p5
          replace q5 := eq_true q5
          go_wp2
          go_roundg k1
          case measure => have := HK1.out; omega
          case rel => exact ⟨(IntKind.u64.wrap ((Go.bits .xor .u64 x0_1 (IntKind.u64.wrap (bt a1 x5_1))) * 1099511628211)), (wrap64 (x5_1 + 1)), (by first | rfl | (simp; done) | (simp [*]; done)), (by first | rfl | (simp; done) | (simp [*]; done)), H', ⟨by have := HK1.out; omega⟩, by repeat (first | exact Drawn0.refl _ | apply Drawn0.step)⟩
        · rw [if_neg c4] at H
          exact absurd H (by simp)
      · rw [if_neg c3] at H
        have c3b0 : decide (x5_1 < (a1.size : Int)) = false := decide_eq_false c3
        clear c3
        obtain rfl := Option.some.inj H
        go_wp2
        go_ret
        exact ⟨by first | rfl | (simp; done) | (simp [*]; done), by repeat (first | exact Drawn0.refl _ | apply Drawn0.step)⟩

end Go.Proofs.Ytdaeflafdnlceaa.HMemoryHashes
