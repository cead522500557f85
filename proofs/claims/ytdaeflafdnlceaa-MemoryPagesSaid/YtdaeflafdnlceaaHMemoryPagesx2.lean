-- Written for this claim by wip/hook.py, by means of the kit's print and of hand-proved contracts.
import Derived.Test.YtdaeflafdnlceaaHMemoryPagesx0
import Derived.Test.YtdaeflafdnlceaaHMemoryPagesx1
namespace Go.Proofs.Ytdaeflafdnlceaa.HMemoryPages
open Go.RowKit Go.Proofs.YtdaeflafdnlceaaW.PrintWords Go.Proofs.YtdaeflafdnlceaaW.PrintLast Go.Proofs.YtdaeflafdnlceaaW.PrintMore
attribute [local go_sem] max2_int min2_int max_two min_two max_three min_three max_four min_four   -- for this text's walks alone
set_option linter.unusedVariables false
set_option linter.unusedSimpArgs false

/-! ### memory_within: function 33 -/
def memory_within.f (l0 : List Int) (a1 : Int) (a2 : Int) : Option (Bool) := if a2 = 1 then (if ((a2) % 4294967296) = 0 then (none) else (if (Int.tmod a1 ((a2) % 4294967296)) = 0 then ((memory_Pages.f l0).bind fun t118 => (some (decide ((IntKind.u64.wrap ((IntKind.u64.wrap (a1)) + (IntKind.u64.wrap (a2)))) ≤ (IntKind.u64.wrap (wrap64 (t118 * 128))))))) else (some false))) else (if a2 = 4 then (if ((a2) % 4294967296) = 0 then (none) else (if (Int.tmod a1 ((a2) % 4294967296)) = 0 then ((memory_Pages.f l0).bind fun t119 => (some (decide ((IntKind.u64.wrap ((IntKind.u64.wrap (a1)) + (IntKind.u64.wrap (a2)))) ≤ (IntKind.u64.wrap (wrap64 (t119 * 128))))))) else (some false))) else (some false))
set_option maxHeartbeats 8000000 in
set_option maxRecDepth 100000 in
theorem memory_within.calls (A0 : Option Addr) (c0 : Nat) (l0 : List Int) (a1 : Int) (a2 : Int) (r : Bool) (w : World) (hr0 : Kd.C (Kd.int .u32) w A0 l0.length l0) (hc0 : l0.length ≤ c0) (h : memory_within.f l0 a1 a2 = some r) :
    Calls Try.prog 33 #[.slice A0 l0.length c0, .int .u32 a1, .int .i64 a2] w fun e w' => e = .returned (.bool r) ∧ Drawn0 w w' := by
  have HR0 := Aside0.mk hr0
  have HC0 := Aside0.mk hc0
  clear hr0 hc0
  have H : (if a2 = 1 then (if ((a2) % 4294967296) = 0 then (none) else (if (Int.tmod a1 ((a2) % 4294967296)) = 0 then ((memory_Pages.f l0).bind fun t118 => (some (decide ((IntKind.u64.wrap ((IntKind.u64.wrap (a1)) + (IntKind.u64.wrap (a2)))) ≤ (IntKind.u64.wrap (wrap64 (t118 * 128))))))) else (some false))) else (if a2 = 4 then (if ((a2) % 4294967296) = 0 then (none) else (if (Int.tmod a1 ((a2) % 4294967296)) = 0 then ((memory_Pages.f l0).bind fun t119 => (some (decide ((IntKind.u64.wrap ((IntKind.u64.wrap (a1)) + (IntKind.u64.wrap (a2)))) ≤ (IntKind.u64.wrap (wrap64 (t119 * 128))))))) else (some false))) else (some false))) = some r := h
  clear h
  by_cases c4 : a2 = 1
  · rw [if_pos c4] at H
    have c4b0 : (a2 == 1) = true := beq_iff_eq.mpr c4
    have c4b1 : (a2 != 1) = false := bne_eq_false_iff_eq.mpr c4
    clear c4
    by_cases c5 : ((a2) % 4294967296) = 0
    · rw [if_pos c5] at H
      exact absurd H (by simp)
    · rw [if_neg c5] at H
      have c5b0 : (((a2) % 4294967296) == 0) = false := beq_eq_false_iff_ne.mpr c5
      have c5b1 : (((a2) % 4294967296) != 0) = true := bne_iff_ne.mpr c5
      by_cases c6 : (Int.tmod a1 ((a2) % 4294967296)) = 0
      · rw [if_pos c6] at H
        have c6b0 : ((Int.tmod a1 ((a2) % 4294967296)) == 0) = true := beq_iff_eq.mpr c6
        have c6b1 : ((Int.tmod a1 ((a2) % 4294967296)) != 0) = false := bne_eq_false_iff_eq.mpr c6
        clear c6
        replace H := Option.bind_eq_some_iff.mp H
        obtain ⟨t118, A70, H⟩ := H
        replace H : (some (decide ((IntKind.u64.wrap ((IntKind.u64.wrap (a1)) + (IntKind.u64.wrap (a2)))) ≤ (IntKind.u64.wrap (wrap64 (t118 * 128)))))) = some r := H
        have A7 := Aside0.mk A70
        clear A70
        obtain rfl := Option.some.inj H
        go_enter Try.func33, Try.ntmps33
        go_wp2_with (first | (go_at_call 17; (with_reducible refine (memory_Pages.calls _ _ l0 t118 _ ?side1 ?side2 A7.out).mono ?_); (case side1 => repeat (first | exact HR0.out | (with_reducible refine Kd.C_alloc ?_ _) | (with_reducible refine Kd.C_drewN ?_ _) | (with_reducible refine Kd.C_drew ?_))); (case side2 => exact HC0.out); rintro e w' ⟨rfl, ⟨nd, rfl⟩⟩))
        go_ret
        exact ⟨by first | rfl | (simp; done) | (simp [*]; done), by repeat (first | exact Drawn0.refl _ | apply Drawn0.step)⟩
      · rw [if_neg c6] at H
        have c6b0 : ((Int.tmod a1 ((a2) % 4294967296)) == 0) = false := beq_eq_false_iff_ne.mpr c6
        have c6b1 : ((Int.tmod a1 ((a2) % 4294967296)) != 0) = true := bne_iff_ne.mpr c6
        obtain rfl := Option.some.inj H
        go_enter Try.func33, Try.ntmps33
        go_wp2
        go_ret
        exact ⟨by first | rfl | (simp; done) | (simp [*]; done), by repeat (first | exact Drawn0.refl _ | apply Drawn0.step)⟩
  · rw [if_neg c4] at H
    have c4b0 : (a2 == 1) = false := beq_eq_false_iff_ne.mpr c4
    have c4b1 : (a2 != 1) = true := bne_iff_ne.mpr c4
    by_cases c8 : a2 = 4
    · rw [if_pos c8] at H
      have c8b0 : (a2 == 4) = true := beq_iff_eq.mpr c8
      have c8b1 : (a2 != 4) = false := bne_eq_false_iff_eq.mpr c8
      clear c8
      by_cases c9 : ((a2) % 4294967296) = 0
      · rw [if_pos c9] at H
        exact absurd H (by simp)
      · rw [if_neg c9] at H
        have c9b0 : (((a2) % 4294967296) == 0) = false := beq_eq_false_iff_ne.mpr c9
        have c9b1 : (((a2) % 4294967296) != 0) = true := bne_iff_ne.mpr c9
        by_cases c10 : (Int.tmod a1 ((a2) % 4294967296)) = 0
        · rw [if_pos c10] at H
          have c10b0 : ((Int.tmod a1 ((a2) % 4294967296)) == 0) = true := beq_iff_eq.mpr c10
          have c10b1 : ((Int.tmod a1 ((a2) % 4294967296)) != 0) = false := bne_eq_false_iff_eq.mpr c10
          clear c10
          replace H := Option.bind_eq_some_iff.mp H
          obtain ⟨t119, A110, H⟩ := H
          replace H : (some (decide ((IntKind.u64.wrap ((IntKind.u64.wrap (a1)) + (IntKind.u64.wrap (a2)))) ≤ (IntKind.u64.wrap (wrap64 (t119 * 128)))))) = some r := H
          have A11 := Aside0.mk A110
          clear A110
          obtain rfl := Option.some.inj H
          go_enter Try.func33, Try.ntmps33
          go_wp2_with (first | (go_at_call 17; (with_reducible refine (memory_Pages.calls _ _ l0 t119 _ ?side1 ?side2 A11.out).mono ?_); (case side1 => repeat (first | exact HR0.out | (with_reducible refine Kd.C_alloc ?_ _) | (with_reducible refine Kd.C_drewN ?_ _) | (with_reducible refine Kd.C_drew ?_))); (case side2 => exact HC0.out); rintro e w' ⟨rfl, ⟨nd, rfl⟩⟩))
          go_ret
          exact ⟨by first | rfl | (simp; done) | (simp [*]; done), by repeat (first | exact Drawn0.refl _ | apply Drawn0.step)⟩
        · rw [if_neg c10] at H
          have c10b0 : ((Int.tmod a1 ((a2) % 4294967296)) == 0) = false := beq_eq_false_iff_ne.mpr c10
          have c10b1 : ((Int.tmod a1 ((a2) % 4294967296)) != 0) = true := bne_iff_ne.mpr c10
          obtain rfl := Option.some.inj H
          go_enter Try.func33, Try.ntmps33
          go_wp2
          go_ret
          exact ⟨by first | rfl | (simp; done) | (simp [*]; done), by repeat (first | exact Drawn0.refl _ | apply Drawn0.step)⟩
    · rw [if_neg c8] at H
      have c8b0 : (a2 == 4) = false := beq_eq_false_iff_ne.mpr c8
      have c8b1 : (a2 != 4) = true := bne_iff_ne.mpr c8
      obtain rfl := Option.some.inj H
      go_enter Try.func33, Try.ntmps33
      go_wp2
      go_ret
      exact ⟨by first | rfl | (simp; done) | (simp [*]; done), by repeat (first | exact Drawn0.refl _ | apply Drawn0.step)⟩

/-! ### bits_outside: function 47 -/
def bits_outside.f (a0 : Int) (a1 : Int) : Option (Bool) := if a0 < 0 then (some true) else (if a0 > 31 then (some true) else (some (decide (a1 < 1))))
set_option maxHeartbeats 8000000 in
set_option maxRecDepth 100000 in
theorem bits_outside.calls (a0 : Int) (a1 : Int) (r : Bool) (w : World) (h : bits_outside.f a0 a1 = some r) :
    Calls Try.prog 47 #[.int .i64 a0, .int .i64 a1] w fun e w' => e = .returned (.bool r) ∧ Drawn0 w w' := by
  have H : (if a0 < 0 then (some true) else (if a0 > 31 then (some true) else (some (decide (a1 < 1))))) = some r := h
  clear h
  by_cases c3 : a0 < 0
  · rw [if_pos c3] at H
    have c3b0 : decide (a0 < 0) = true := decide_eq_true c3
    clear c3
    obtain rfl := Option.some.inj H
    go_enter Try.func47, Try.ntmps47
    go_wp2
    go_ret
    exact ⟨by first | rfl | (simp; done) | (simp [*]; done), by repeat (first | exact Drawn0.refl _ | apply Drawn0.step)⟩
  · rw [if_neg c3] at H
    have c3b0 : decide (a0 < 0) = false := decide_eq_false c3
    clear c3
    by_cases c4 : a0 > 31
    · rw [if_pos c4] at H
      have c4b0 : decide (31 < a0) = true := decide_eq_true c4
      clear c4
      obtain rfl := Option.some.inj H
      go_enter Try.func47, Try.ntmps47
      go_wp2
      go_ret
      exact ⟨by first | rfl | (simp; done) | (simp [*]; done), by repeat (first | exact Drawn0.refl _ | apply Drawn0.step)⟩
    · rw [if_neg c4] at H
      have c4b0 : decide (31 < a0) = false := decide_eq_false c4
      clear c4
      obtain rfl := Option.some.inj H
      go_enter Try.func47, Try.ntmps47
      go_wp2
      go_ret
      exact ⟨by first | rfl | (simp; done) | (simp [*]; done), by repeat (first | exact Drawn0.refl _ | apply Drawn0.step)⟩

/-! ### bits_mask: function 48 -/
def bits_mask.f (a0 : Int) : Option (Int) := if a0 ≥ 32 then (some 4294967295) else (if 0 ≤ a0 then (some (((shl .u32 1 a0) - 1) % 4294967296)) else (none))
set_option maxHeartbeats 8000000 in
set_option maxRecDepth 100000 in
theorem bits_mask.calls (a0 : Int) (r : Int) (w : World) (h : bits_mask.f a0 = some r) :
    Calls Try.prog 48 #[.int .i64 a0] w fun e w' => e = .returned (.int .u32 r) ∧ Drawn0 w w' := by
  have H : (if a0 ≥ 32 then (some 4294967295) else (if 0 ≤ a0 then (some (((shl .u32 1 a0) - 1) % 4294967296)) else (none))) = some r := h
  clear h
  by_cases c2 : a0 ≥ 32
  · rw [if_pos c2] at H
    have c2b0 : decide (32 ≤ a0) = true := decide_eq_true c2
    clear c2
    obtain rfl := Option.some.inj H
    go_enter Try.func48, Try.ntmps48
    go_wp2
    go_ret
    exact ⟨by first | rfl | (simp; done) | (simp [*]; done), by repeat (first | exact Drawn0.refl _ | apply Drawn0.step)⟩
  · rw [if_neg c2] at H
    have c2b0 : decide (32 ≤ a0) = false := decide_eq_false c2
    clear c2
    by_cases c3 : 0 ≤ a0
    · rw [if_pos c3] at H
      have c3b0 := eq_true c3
      have c3b1 : decide (0 ≤ a0) = true := decide_eq_true c3
      clear c3
      obtain ⟨ji4, hji4⟩ : ∃ j_ : Int, (shl .u32 1 a0) = j_ := ⟨_, rfl⟩
      replace H : (some (((ji4) - 1) % 4294967296)) = some r := by first | (rw [hji4] at H; exact H) | (simp only [hji4] at H ⊢; exact H)
      have hji4_ : (IntKind.u32.wrap (1 * 2 ^ min a0.toNat 32)) = ji4 := hji4
      have hji4z : a0 ≤ 32 → (IntKind.u32.wrap (1 * 2 ^ a0.toNat)) = ji4 := shl_small hji4
      have hji4u : (IntKind.u32.wrap (2 ^ min a0.toNat 32)) = ji4 := by have h_ := hji4_; rw [Int.one_mul] at h_; exact h_
      have hji4v : a0 ≤ 32 → (IntKind.u32.wrap (2 ^ a0.toNat)) = ji4 := fun hle_ => by have h_ := hji4z hle_; rw [Int.one_mul] at h_; exact h_
      obtain rfl := Option.some.inj H
      go_enter Try.func48, Try.ntmps48
      go_wp2
      go_ret
      exact ⟨by first | rfl | (simp; done) | (simp only [← hji4] <;> (first | rfl | simp)) | (simp [*]; done), by repeat (first | exact Drawn0.refl _ | apply Drawn0.step)⟩
    · rw [if_neg c3] at H
      exact absurd H (by simp)

/-! ### bits_Field: function 34 -/
def bits_Field.f (a0 : Int) (a1 : Int) (a2 : Int) : Option (Int) := (bits_outside.f a1 a2).bind fun t120 => (if t120 = true then (some 0) else (if 0 ≤ a1 then ((bits_mask.f a2).bind fun t121 => (some (Go.bits .and .u32 (shr .u32 a0 a1) t121))) else (none)))
set_option maxHeartbeats 8000000 in
set_option maxRecDepth 100000 in
theorem bits_Field.calls (a0 : Int) (a1 : Int) (a2 : Int) (r : Int) (w : World) (h : bits_Field.f a0 a1 a2 = some r) :
    Calls Try.prog 34 #[.int .u32 a0, .int .i64 a1, .int .i64 a2] w fun e w' => e = .returned (.int .u32 r) ∧ Drawn0 w w' := by
  have H : ((bits_outside.f a1 a2).bind fun t120 => (if t120 = true then (some 0) else (if 0 ≤ a1 then ((bits_mask.f a2).bind fun t121 => (some (Go.bits .and .u32 (shr .u32 a0 a1) t121))) else (none)))) = some r := h
  clear h
  replace H := Option.bind_eq_some_iff.mp H
  obtain ⟨t120, A40, H⟩ := H
  replace H : (if t120 = true then (some 0) else (if 0 ≤ a1 then ((bits_mask.f a2).bind fun t121 => (some (Go.bits .and .u32 (shr .u32 a0 a1) t121))) else (none))) = some r := H
  have A4 := Aside0.mk A40
  clear A40
  by_cases c5 : t120 = true
  · subst c5
    have H1 : (some 0) = some r := by rw [if_pos rfl] at H; exact H
    clear H
    have H := H1
    clear H1
    obtain rfl := Option.some.inj H
    go_enter Try.func34, Try.ntmps34
    go_wp2_with (first | (go_at_call 47; (with_reducible refine (bits_outside.calls a1 a2 true _ A4.out).mono ?_); rintro e w' ⟨rfl, ⟨nd, rfl⟩⟩; (try first | exact ⟨rfl, _, World.drewN_drewN _ _ _⟩ | exact ⟨rfl, _, Eq.trans (World.drewN_drewN _ _ _) (congrArg (World.drewN _) (Nat.add_assoc _ _ _))⟩)))
    repeat (go_quiet (first | (go_at_call 47; (with_reducible refine (bits_outside.calls a1 a2 true _ A4.out).mono ?_); rintro e w' ⟨rfl, ⟨nd, rfl⟩⟩; (try first | exact ⟨rfl, _, World.drewN_drewN _ _ _⟩ | exact ⟨rfl, _, Eq.trans (World.drewN_drewN _ _ _) (congrArg (World.drewN _) (Nat.add_assoc _ _ _))⟩))); try go_wp2_with (first | (go_at_call 47; (with_reducible refine (bits_outside.calls a1 a2 true _ A4.out).mono ?_); rintro e w' ⟨rfl, ⟨nd, rfl⟩⟩; (try first | exact ⟨rfl, _, World.drewN_drewN _ _ _⟩ | exact ⟨rfl, _, Eq.trans (World.drewN_drewN _ _ _) (congrArg (World.drewN _) (Nat.add_assoc _ _ _))⟩))))
    go_ret
    exact ⟨by first | rfl | (simp; done) | (simp [*]; done), by repeat (first | exact Drawn0.refl _ | apply Drawn0.step)⟩
  · replace c5 := Bool.eq_false_iff.mpr c5
    subst c5
    have H1 : (if 0 ≤ a1 then ((bits_mask.f a2).bind fun t121 => (some (Go.bits .and .u32 (shr .u32 a0 a1) t121))) else (none)) = some r := by rw [if_neg (show ¬ (false = true) by decide)] at H; exact H
    clear H
    have H := H1
    clear H1
    by_cases c6 : 0 ≤ a1
    · rw [if_pos c6] at H
      have c6b0 := eq_true c6
      have c6b1 : decide (0 ≤ a1) = true := decide_eq_true c6
      clear c6
      obtain ⟨ji7, hji7⟩ : ∃ j_ : Int, (shr .u32 a0 a1) = j_ := ⟨_, rfl⟩
      replace H : ((bits_mask.f a2).bind fun t121 => (some (Go.bits .and .u32 (ji7) t121))) = some r := by first | (rw [hji7] at H; exact H) | (simp only [hji7] at H ⊢; exact H)
      (try rw [hji7] at A4)
      have hji7_ : (a0 / 2 ^ min a1.toNat 32) = ji7 := hji7
      have hji7z : a1 ≤ 32 → (a0 / 2 ^ a1.toNat) = ji7 := shr_small hji7
      replace H := Option.bind_eq_some_iff.mp H
      obtain ⟨t121, A80, H⟩ := H
      replace H : (some (Go.bits .and .u32 (ji7) t121)) = some r := H
      have A8 := Aside0.mk A80
      clear A80
      obtain rfl := Option.some.inj H
      go_enter Try.func34, Try.ntmps34
      go_wp2_with (first | (go_at_call 47; (with_reducible refine (bits_outside.calls a1 a2 false _ A4.out).mono ?_); rintro e w' ⟨rfl, ⟨nd, rfl⟩⟩; (try first | exact ⟨rfl, _, World.drewN_drewN _ _ _⟩ | exact ⟨rfl, _, Eq.trans (World.drewN_drewN _ _ _) (congrArg (World.drewN _) (Nat.add_assoc _ _ _))⟩)) | (go_at_call 48; (with_reducible refine (bits_mask.calls a2 t121 _ A8.out).mono ?_); rintro e w' ⟨rfl, ⟨nd, rfl⟩⟩; (try first | exact ⟨rfl, _, World.drewN_drewN _ _ _⟩ | exact ⟨rfl, _, Eq.trans (World.drewN_drewN _ _ _) (congrArg (World.drewN _) (Nat.add_assoc _ _ _))⟩)))
      repeat (go_quiet (first | (go_at_call 47; (with_reducible refine (bits_outside.calls a1 a2 false _ A4.out).mono ?_); rintro e w' ⟨rfl, ⟨nd, rfl⟩⟩; (try first | exact ⟨rfl, _, World.drewN_drewN _ _ _⟩ | exact ⟨rfl, _, Eq.trans (World.drewN_drewN _ _ _) (congrArg (World.drewN _) (Nat.add_assoc _ _ _))⟩)) | (go_at_call 48; (with_reducible refine (bits_mask.calls a2 t121 _ A8.out).mono ?_); rintro e w' ⟨rfl, ⟨nd, rfl⟩⟩; (try first | exact ⟨rfl, _, World.drewN_drewN _ _ _⟩ | exact ⟨rfl, _, Eq.trans (World.drewN_drewN _ _ _) (congrArg (World.drewN _) (Nat.add_assoc _ _ _))⟩))); try go_wp2_with (first | (go_at_call 47; (with_reducible refine (bits_outside.calls a1 a2 false _ A4.out).mono ?_); rintro e w' ⟨rfl, ⟨nd, rfl⟩⟩; (try first | exact ⟨rfl, _, World.drewN_drewN _ _ _⟩ | exact ⟨rfl, _, Eq.trans (World.drewN_drewN _ _ _) (congrArg (World.drewN _) (Nat.add_assoc _ _ _))⟩)) | (go_at_call 48; (with_reducible refine (bits_mask.calls a2 t121 _ A8.out).mono ?_); rintro e w' ⟨rfl, ⟨nd, rfl⟩⟩; (try first | exact ⟨rfl, _, World.drewN_drewN _ _ _⟩ | exact ⟨rfl, _, Eq.trans (World.drewN_drewN _ _ _) (congrArg (World.drewN _) (Nat.add_assoc _ _ _))⟩))))
      go_ret
      exact ⟨by first | rfl | (simp; done) | (simp only [← hji7] <;> (first | rfl | simp)) | (simp [*]; done), by repeat (first | exact Drawn0.refl _ | apply Drawn0.step)⟩
    · rw [if_neg c6] at H
      exact absurd H (by simp)

/-! ### memory_Load: function 12 -/
def memory_Load.f (l0 : List Int) (a1 : Int) (a2 : Int) : Option (Int × Bool) := (memory_within.f l0 a1 a2).bind fun t122 => (if t122 = true then (if 0 ≤ ((Int.tdiv a1 4) % 4294967296) then (if ((Int.tdiv a1 4) % 4294967296) < (l0.length : Int) then (if a2 = 1 then ((bits_Field.f (rd l0 ((Int.tdiv a1 4) % 4294967296)) (wrap64 (8 * (wrap64 (Int.tmod a1 4)))) 8).bind fun t124 => (some (t124, true))) else (some (rd l0 ((Int.tdiv a1 4) % 4294967296), true))) else (none)) else (none)) else (some (0, false)))
set_option maxHeartbeats 8000000 in
set_option maxRecDepth 100000 in
theorem memory_Load.calls (A0 : Option Addr) (c0 : Nat) (l0 : List Int) (a1 : Int) (a2 : Int) (r1 : Int) (r2 : Bool) (w : World) (hr0 : Kd.C (Kd.int .u32) w A0 l0.length l0) (hc0 : l0.length ≤ c0) (h : memory_Load.f l0 a1 a2 = some (r1, r2)) :
    Calls Try.prog 12 #[.slice A0 l0.length c0, .int .u32 a1, .int .i64 a2] w fun e w' => e = .returned (.tuple #[.int .u32 r1, .bool r2]) ∧ Drawn0 w w' := by
  have HR0 := Aside0.mk hr0
  have HC0 := Aside0.mk hc0
  clear hr0 hc0
  have H : ((memory_within.f l0 a1 a2).bind fun t122 => (if t122 = true then (if 0 ≤ ((Int.tdiv a1 4) % 4294967296) then (if ((Int.tdiv a1 4) % 4294967296) < (l0.length : Int) then (if a2 = 1 then ((bits_Field.f (rd l0 ((Int.tdiv a1 4) % 4294967296)) (wrap64 (8 * (wrap64 (Int.tmod a1 4)))) 8).bind fun t124 => (some (t124, true))) else (some (rd l0 ((Int.tdiv a1 4) % 4294967296), true))) else (none)) else (none)) else (some (0, false)))) = some (r1, r2) := h
  clear h
  replace H := Option.bind_eq_some_iff.mp H
  obtain ⟨t122, A40, H⟩ := H
  replace H : (if t122 = true then (if 0 ≤ ((Int.tdiv a1 4) % 4294967296) then (if ((Int.tdiv a1 4) % 4294967296) < (l0.length : Int) then (if a2 = 1 then ((bits_Field.f (rd l0 ((Int.tdiv a1 4) % 4294967296)) (wrap64 (8 * (wrap64 (Int.tmod a1 4)))) 8).bind fun t124 => (some (t124, true))) else (some (rd l0 ((Int.tdiv a1 4) % 4294967296), true))) else (none)) else (none)) else (some (0, false))) = some (r1, r2) := H
  have A4 := Aside0.mk A40
  clear A40
  by_cases c5 : t122 = true
  · subst c5
    have H1 : (if 0 ≤ ((Int.tdiv a1 4) % 4294967296) then (if ((Int.tdiv a1 4) % 4294967296) < (l0.length : Int) then (if a2 = 1 then ((bits_Field.f (rd l0 ((Int.tdiv a1 4) % 4294967296)) (wrap64 (8 * (wrap64 (Int.tmod a1 4)))) 8).bind fun t124 => (some (t124, true))) else (some (rd l0 ((Int.tdiv a1 4) % 4294967296), true))) else (none)) else (none)) = some (r1, r2) := by rw [if_pos rfl] at H; exact H
    clear H
    have H := H1
    clear H1
    obtain ⟨ji6, hji6⟩ : ∃ j_ : Int, ((Int.tdiv a1 4) % 4294967296) = j_ := ⟨_, rfl⟩
    replace H : (if 0 ≤ (ji6) then (if (ji6) < (l0.length : Int) then (if a2 = 1 then ((bits_Field.f (rd l0 (ji6)) (wrap64 (8 * (wrap64 (Int.tmod a1 4)))) 8).bind fun t124 => (some (t124, true))) else (some (rd l0 (ji6), true))) else (none)) else (none)) = some (r1, r2) := by first | (rw [hji6] at H; exact H) | (simp only [hji6] at H ⊢; exact H)
    (try rw [hji6] at A4)
    by_cases c7 : 0 ≤ (ji6)
    · rw [if_pos c7] at H
      have c7b0 : decide (0 ≤ (ji6)) = true := decide_eq_true c7
      clear c7
      by_cases c8 : (ji6) < (l0.length : Int)
      · rw [if_pos c8] at H
        have c8b0 : decide ((ji6) < (l0.length : Int)) = true := decide_eq_true c8
        clear c8
        by_cases c9 : a2 = 1
        · rw [if_pos c9] at H
          have c9b0 : (a2 == 1) = true := beq_iff_eq.mpr c9
          have c9b1 : (a2 != 1) = false := bne_eq_false_iff_eq.mpr c9
          clear c9
          replace H := Option.bind_eq_some_iff.mp H
          obtain ⟨t124, A100, H⟩ := H
          replace H : (some (t124, true)) = some (r1, r2) := H
          have A10 := Aside0.mk A100
          clear A100
          simp only [Option.some.injEq, Prod.mk.injEq] at H
          obtain ⟨rfl, rfl⟩ := H
          go_enter Try.func12, Try.ntmps12
          go_wp2_with (first | ((with_reducible refine gate_callee (f := 33) rfl ?_); refine goesL_ (some 12) rfl rfl Try.func33 (by kernel_rfl) rfl #[.slice A0 l0.length c0, .int .u32 a1, .int .i64 a2] rfl (by (try simp only [List.map_toArray, List.map_cons, List.map_nil]); first | done | rfl | (simp only [List.length_drop, List.length_take]; rfl)) ?_; (with_reducible refine (memory_within.calls _ _ l0 a1 a2 true _ ?side1 ?side2 A4.out).mono ?_); (case side1 => repeat (first | exact HR0.out | (with_reducible refine Kd.C_alloc ?_ _) | (with_reducible refine Kd.C_drewN ?_ _) | (with_reducible refine Kd.C_drew ?_))); (case side2 => exact HC0.out); rintro e w' ⟨rfl, ⟨nd, rfl⟩⟩; refine ⟨_, rfl, ?_⟩; have p123 : 0 ≤ ((ji6) : Int) := of_decide_eq_true (by first | (with_reducible assumption) | assumption); have q123 : (ji6) < (l0.length : Int) := of_decide_eq_true (by first | (with_reducible assumption) | assumption); obtain ⟨ad123, e123, hx123_0⟩ := Kd.at_int HR0.out (ji6) p123 q123; cases e123; replace p123 := eq_true p123; replace q123 := eq_true q123) | ((with_reducible refine gate_callee (f := 34) rfl ?_); refine goesL_ (some 26) rfl rfl Try.func34 (by kernel_rfl) rfl #[.int .u32 (rd l0 (ji6)), .int .i64 (wrap64 (8 * (wrap64 (Int.tmod a1 4)))), .int .i64 8] rfl (by (try simp only [List.map_toArray, List.map_cons, List.map_nil]); first | done | (simp only [hji6]; rfl) | rfl | (simp only [List.length_drop, List.length_take]; rfl)) ?_; (with_reducible refine (bits_Field.calls (rd l0 (ji6)) (wrap64 (8 * (wrap64 (Int.tmod a1 4)))) 8 t124 _ A10.out).mono ?_); rintro e w' ⟨rfl, ⟨nd, rfl⟩⟩; refine ⟨_, rfl, ?_⟩))
          go_ret2
          exact ⟨by first | rfl | (simp; done) | (simp only [← hji6] <;> (first | rfl | simp)) | (simp [*]; done), by repeat (first | exact Drawn0.refl _ | apply Drawn0.step)⟩
        · rw [if_neg c9] at H
          have c9b0 : (a2 == 1) = false := beq_eq_false_iff_ne.mpr c9
          have c9b1 : (a2 != 1) = true := bne_iff_ne.mpr c9
          simp only [Option.some.injEq, Prod.mk.injEq] at H
          obtain ⟨rfl, rfl⟩ := H
          go_enter Try.func12, Try.ntmps12
          go_wp2_with (first | ((with_reducible refine gate_callee (f := 33) rfl ?_); refine goesL_ (some 12) rfl rfl Try.func33 (by kernel_rfl) rfl #[.slice A0 l0.length c0, .int .u32 a1, .int .i64 a2] rfl (by (try simp only [List.map_toArray, List.map_cons, List.map_nil]); first | done | rfl | (simp only [List.length_drop, List.length_take]; rfl)) ?_; (with_reducible refine (memory_within.calls _ _ l0 a1 a2 true _ ?side1 ?side2 A4.out).mono ?_); (case side1 => repeat (first | exact HR0.out | (with_reducible refine Kd.C_alloc ?_ _) | (with_reducible refine Kd.C_drewN ?_ _) | (with_reducible refine Kd.C_drew ?_))); (case side2 => exact HC0.out); rintro e w' ⟨rfl, ⟨nd, rfl⟩⟩; refine ⟨_, rfl, ?_⟩; have p123 : 0 ≤ ((ji6) : Int) := of_decide_eq_true (by first | (with_reducible assumption) | assumption); have q123 : (ji6) < (l0.length : Int) := of_decide_eq_true (by first | (with_reducible assumption) | assumption); obtain ⟨ad123, e123, hx123_0⟩ := Kd.at_int HR0.out (ji6) p123 q123; cases e123; replace p123 := eq_true p123; replace q123 := eq_true q123))
          go_ret2
          exact ⟨by first | rfl | (simp; done) | (simp only [← hji6] <;> (first | rfl | simp)) | (simp [*]; done), by repeat (first | exact Drawn0.refl _ | apply Drawn0.step)⟩
      · rw [if_neg c8] at H
        exact absurd H (by simp)
    · rw [if_neg c7] at H
      exact absurd H (by simp)
  · replace c5 := Bool.eq_false_iff.mpr c5
    subst c5
    have H1 : (some (0, false)) = some (r1, r2) := by rw [if_neg (show ¬ (false = true) by decide)] at H; exact H
    clear H
    have H := H1
    clear H1
    simp only [Option.some.injEq, Prod.mk.injEq] at H
    obtain ⟨rfl, rfl⟩ := H
    go_enter Try.func12, Try.ntmps12
    go_wp2_with (first | ((with_reducible refine gate_callee (f := 33) rfl ?_); refine goesL_ (some 12) rfl rfl Try.func33 (by kernel_rfl) rfl #[.slice A0 l0.length c0, .int .u32 a1, .int .i64 a2] rfl (by (try simp only [List.map_toArray, List.map_cons, List.map_nil]); first | done | rfl | (simp only [List.length_drop, List.length_take]; rfl)) ?_; (with_reducible refine (memory_within.calls _ _ l0 a1 a2 false _ ?side1 ?side2 A4.out).mono ?_); (case side1 => repeat (first | exact HR0.out | (with_reducible refine Kd.C_alloc ?_ _) | (with_reducible refine Kd.C_drewN ?_ _) | (with_reducible refine Kd.C_drew ?_))); (case side2 => exact HC0.out); rintro e w' ⟨rfl, ⟨nd, rfl⟩⟩; refine ⟨_, rfl, ?_⟩))
    go_ret2
    exact ⟨by first | rfl | (simp; done) | (simp [*]; done), by repeat (first | exact Drawn0.refl _ | apply Drawn0.step)⟩

/-! ### memory_clone: function 36 -/
def memory_clone.f (l0 : List Int) : Option (List Int) := if l0.length ≤ 70368744177664 then some l0 else none
set_option maxHeartbeats 4000000 in
set_option maxRecDepth 100000 in
theorem memory_clone.calls (A0 : Option Addr) (c0 : Nat) (l0 : List Int) (r : List Int) (w : World) (hr0 : Kd.C (Kd.int .u32) w A0 l0.length l0) (hc0 : l0.length ≤ c0) (h : memory_clone.f l0 = some r) :
    Calls Try.prog 36 #[.slice A0 l0.length c0] w fun e w' => ∃ v0_ : Value, e = .returned (v0_) ∧ Kd.R (Kd.int .u32) 24 w' w.heap.size (fun _ => True) v0_ r ∧ Below w.heap.size w w' := by
  have HR := Aside0.mk hr0
  clear hr0
  unfold memory_clone.f at h
  by_cases hb : l0.length ≤ 70368744177664
  · rw [if_pos hb] at h
    obtain rfl := Option.some.inj h
    by_cases hz : l0.length = 0
    · obtain rfl : l0 = [] := List.eq_nil_of_length_eq_zero hz
      clear h hb
      go_enter Try.func36, Try.ntmps36
      go_wp2
      go_ret
      exact ⟨_, rfl, Kd.R_nil _ _ _ _ _, Below.refl _ _⟩
    · have t1 : ((l0.length : Int) == 0) = false := by simp; intro e; subst e; exact hz rfl
      have t2 : l0 ≠ [] := fun e => hz (by rw [e]; rfl)
      have t3 : (l0.length == 0) = false := by simpa using hz
      clear h hz
      go_enter Try.func36, Try.ntmps36
      go_wp2_with (first | (refine Kd.R_make (Kd.int .u32) _ 24 rfl (by rfl) 22 _ _ rfl (l0.length : Int) rfl rfl Try.underlying22 (.int .u32 0) 4 info24 rfl (by decide) (by omega) 0 (ok := fun _ => True) (okp := fun _ => True) rfl (fun _ hk => hk) trivial (by omega) (by omega) (Below.refl _ _) (Nat.le_refl _) ?_; intro v109 w7 ho8 hb8 hg_ hnew_; clear hg_ hnew_; have HO := Aside0.mk ho8; have HB := Aside0.mk hb8; have HC := Aside0.mk (Kd.C_below HR.out hb8); clear ho8 hb8) | (refine Go.Proofs.Ytdaeflafdnlceaa.Hand.R_copy_all rfl _ _ _ _ rfl Try.underlying22 (by kernel_rfl) _ _ l0 _ _ rfl rfl HO.out HC.out (by simp) HB.out ?_; intro w8 ho9 hb9; have HO9 := Aside0.mk ho9; have HB9 := Aside0.mk hb9; clear ho9 hb9))
      go_ret
      exact ⟨_, rfl, HO9.out, HB9.out⟩
  · rw [if_neg hb] at h
    exact absurd h (by simp)

/-! ### bits_SetField: function 37 -/
def bits_SetField.f (a0 : Int) (a1 : Int) (a2 : Int) (a3 : Int) : Option (Int) := (bits_outside.f a1 a2).bind fun t125 => (if t125 = true then (some a0) else ((bits_mask.f a2).bind fun t126 => (if 0 ≤ a1 then (some (Go.bits .or .u32 (Go.bits .andNot .u32 a0 (shl .u32 t126 a1)) (Go.bits .and .u32 (shl .u32 a3 a1) (shl .u32 t126 a1)))) else (none))))
set_option maxHeartbeats 8000000 in
set_option maxRecDepth 100000 in
theorem bits_SetField.calls (a0 : Int) (a1 : Int) (a2 : Int) (a3 : Int) (r : Int) (w : World) (h : bits_SetField.f a0 a1 a2 a3 = some r) :
    Calls Try.prog 37 #[.int .u32 a0, .int .i64 a1, .int .i64 a2, .int .u32 a3] w fun e w' => e = .returned (.int .u32 r) ∧ Drawn0 w w' := by
  have H : ((bits_outside.f a1 a2).bind fun t125 => (if t125 = true then (some a0) else ((bits_mask.f a2).bind fun t126 => (if 0 ≤ a1 then (some (Go.bits .or .u32 (Go.bits .andNot .u32 a0 (shl .u32 t126 a1)) (Go.bits .and .u32 (shl .u32 a3 a1) (shl .u32 t126 a1)))) else (none))))) = some r := h
  clear h
  replace H := Option.bind_eq_some_iff.mp H
  obtain ⟨t125, A50, H⟩ := H
  replace H : (if t125 = true then (some a0) else ((bits_mask.f a2).bind fun t126 => (if 0 ≤ a1 then (some (Go.bits .or .u32 (Go.bits .andNot .u32 a0 (shl .u32 t126 a1)) (Go.bits .and .u32 (shl .u32 a3 a1) (shl .u32 t126 a1)))) else (none)))) = some r := H
  have A5 := Aside0.mk A50
  clear A50
  by_cases c6 : t125 = true
  · subst c6
    have H1 : (some a0) = some r := by rw [if_pos rfl] at H; exact H
    clear H
    have H := H1
    clear H1
    obtain rfl := Option.some.inj H
    go_enter Try.func37, Try.ntmps37
    go_wp2_with (first | ((with_reducible refine gate_callee (f := 47) rfl ?_); refine goesL_ (some 12) rfl rfl Try.func47 (by kernel_rfl) rfl #[.int .i64 a1, .int .i64 a2] rfl (by (try simp only [List.map_toArray, List.map_cons, List.map_nil]); first | done | rfl | (simp only [List.length_drop, List.length_take]; rfl)) ?_; (with_reducible refine (bits_outside.calls a1 a2 true _ A5.out).mono ?_); rintro e w' ⟨rfl, ⟨nd, rfl⟩⟩; refine ⟨_, rfl, ?_⟩))
    go_ret
    exact ⟨by first | rfl | (simp; done) | (simp [*]; done), by repeat (first | exact Drawn0.refl _ | apply Drawn0.step)⟩
  · replace c6 := Bool.eq_false_iff.mpr c6
    subst c6
    have H1 : ((bits_mask.f a2).bind fun t126 => (if 0 ≤ a1 then (some (Go.bits .or .u32 (Go.bits .andNot .u32 a0 (shl .u32 t126 a1)) (Go.bits .and .u32 (shl .u32 a3 a1) (shl .u32 t126 a1)))) else (none))) = some r := by rw [if_neg (show ¬ (false = true) by decide)] at H; exact H
    clear H
    have H := H1
    clear H1
    replace H := Option.bind_eq_some_iff.mp H
    obtain ⟨t126, A70, H⟩ := H
    replace H : (if 0 ≤ a1 then (some (Go.bits .or .u32 (Go.bits .andNot .u32 a0 (shl .u32 t126 a1)) (Go.bits .and .u32 (shl .u32 a3 a1) (shl .u32 t126 a1)))) else (none)) = some r := H
    have A7 := Aside0.mk A70
    clear A70
    by_cases c8 : 0 ≤ a1
    · rw [if_pos c8] at H
      have c8b0 := eq_true c8
      have c8b1 : decide (0 ≤ a1) = true := decide_eq_true c8
      clear c8
      obtain ⟨ji9, hji9⟩ : ∃ j_ : Int, (shl .u32 t126 a1) = j_ := ⟨_, rfl⟩
      replace H : (some (Go.bits .or .u32 (Go.bits .andNot .u32 a0 (ji9)) (Go.bits .and .u32 (shl .u32 a3 a1) (ji9)))) = some r := by first | (rw [hji9] at H; exact H) | (simp only [hji9] at H ⊢; exact H)
      (try rw [hji9] at A5)
      (try rw [hji9] at A7)
      have hji9_ : (IntKind.u32.wrap (t126 * 2 ^ min a1.toNat 32)) = ji9 := hji9
      have hji9z : a1 ≤ 32 → (IntKind.u32.wrap (t126 * 2 ^ a1.toNat)) = ji9 := shl_small hji9
      have c10b0 := eq_true (of_decide_eq_true (by first | (with_reducible assumption) | assumption) : 0 ≤ a1)
      obtain ⟨ji11, hji11⟩ : ∃ j_ : Int, (shl .u32 a3 a1) = j_ := ⟨_, rfl⟩
      replace H : (some (Go.bits .or .u32 (Go.bits .andNot .u32 a0 (ji9)) (Go.bits .and .u32 (ji11) (ji9)))) = some r := by first | (rw [hji11] at H; exact H) | (simp only [hji11] at H ⊢; exact H)
      (try rw [hji11] at A5)
      (try rw [hji11] at A7)
      have hji11_ : (IntKind.u32.wrap (a3 * 2 ^ min a1.toNat 32)) = ji11 := hji11
      have hji11z : a1 ≤ 32 → (IntKind.u32.wrap (a3 * 2 ^ a1.toNat)) = ji11 := shl_small hji11
      obtain rfl := Option.some.inj H
      go_enter Try.func37, Try.ntmps37
      go_wp2_with (first | ((with_reducible refine gate_callee (f := 47) rfl ?_); refine goesL_ (some 12) rfl rfl Try.func47 (by kernel_rfl) rfl #[.int .i64 a1, .int .i64 a2] rfl (by (try simp only [List.map_toArray, List.map_cons, List.map_nil]); first | done | rfl | (simp only [List.length_drop, List.length_take]; rfl)) ?_; (with_reducible refine (bits_outside.calls a1 a2 false _ A5.out).mono ?_); rintro e w' ⟨rfl, ⟨nd, rfl⟩⟩; refine ⟨_, rfl, ?_⟩) | ((with_reducible refine gate_callee (f := 48) rfl ?_); refine goesL_ (some 15) rfl rfl Try.func48 (by kernel_rfl) rfl #[.int .i64 a2] rfl (by (try simp only [List.map_toArray, List.map_cons, List.map_nil]); first | done | rfl | (simp only [List.length_drop, List.length_take]; rfl)) ?_; (with_reducible refine (bits_mask.calls a2 t126 _ A7.out).mono ?_); rintro e w' ⟨rfl, ⟨nd, rfl⟩⟩; refine ⟨_, rfl, ?_⟩))
      go_ret
      exact ⟨by first | rfl | (simp; done) | (simp only [← hji9, ← hji11] <;> (first | rfl | simp)) | (simp [*]; done), by repeat (first | exact Drawn0.refl _ | apply Drawn0.step)⟩
    · rw [if_neg c8] at H
      exact absurd H (by simp)

/-! ### memory_Store: function 14 -/
def memory_Store.f (l0 : List Int) (a1 : Int) (a2 : Int) (a3 : Int) : Option (List Int × Bool) := (memory_clone.f l0).bind fun t127 => ((memory_within.f l0 a1 a2).bind fun t130 => (if t130 = true then (if a2 = 1 then (if 0 ≤ ((Int.tdiv a1 4) % 4294967296) then (if ((Int.tdiv a1 4) % 4294967296) < (l0.length : Int) then ((bits_SetField.f (rd l0 ((Int.tdiv a1 4) % 4294967296)) (wrap64 (8 * (wrap64 (Int.tmod a1 4)))) 8 a3).bind fun t132 => (if ((Int.tdiv a1 4) % 4294967296) < (t127.length : Int) then (some ((t127.set (((Int.tdiv a1 4) % 4294967296) : Int).toNat t132), true)) else (none))) else (none)) else (none)) else (if 0 ≤ ((Int.tdiv a1 4) % 4294967296) then (if ((Int.tdiv a1 4) % 4294967296) < (t127.length : Int) then (some ((t127.set (((Int.tdiv a1 4) % 4294967296) : Int).toNat a3), true)) else (none)) else (none))) else (some (t127, false))))
set_option maxHeartbeats 8000000 in
set_option maxRecDepth 100000 in
theorem memory_Store.calls (A0 : Option Addr) (c0 : Nat) (l0 : List Int) (a1 : Int) (a2 : Int) (a3 : Int) (r1 : List Int) (r2 : Bool) (w : World) (hr0 : Kd.C (Kd.int .u32) w A0 l0.length l0) (hc0 : l0.length ≤ c0) (h : memory_Store.f l0 a1 a2 a3 = some (r1, r2)) :
    Calls Try.prog 14 #[.slice A0 l0.length c0, .int .u32 a1, .int .i64 a2, .int .u32 a3] w fun e w' => ∃ v0_ : Value, e = .returned (.tuple #[v0_, .bool r2]) ∧ Kd.R (Kd.int .u32) 24 w' w.heap.size (fun _ => True) v0_ r1 ∧ Below w.heap.size w w' := by
  have HR0 := Aside0.mk hr0
  have HC0 := Aside0.mk hc0
  clear hr0 hc0
  have HB := Aside0.mk (Below.refl w.heap.size w)
  have H : ((memory_clone.f l0).bind fun t127 => ((memory_within.f l0 a1 a2).bind fun t130 => (if t130 = true then (if a2 = 1 then (if 0 ≤ ((Int.tdiv a1 4) % 4294967296) then (if ((Int.tdiv a1 4) % 4294967296) < (l0.length : Int) then ((bits_SetField.f (rd l0 ((Int.tdiv a1 4) % 4294967296)) (wrap64 (8 * (wrap64 (Int.tmod a1 4)))) 8 a3).bind fun t132 => (if ((Int.tdiv a1 4) % 4294967296) < (t127.length : Int) then (some ((t127.set (((Int.tdiv a1 4) % 4294967296) : Int).toNat t132), true)) else (none))) else (none)) else (none)) else (if 0 ≤ ((Int.tdiv a1 4) % 4294967296) then (if ((Int.tdiv a1 4) % 4294967296) < (t127.length : Int) then (some ((t127.set (((Int.tdiv a1 4) % 4294967296) : Int).toNat a3), true)) else (none)) else (none))) else (some (t127, false))))) = some (r1, r2) := h
  clear h
  replace H := Option.bind_eq_some_iff.mp H
  obtain ⟨t127, A50, H⟩ := H
  replace H : ((memory_within.f l0 a1 a2).bind fun t130 => (if t130 = true then (if a2 = 1 then (if 0 ≤ ((Int.tdiv a1 4) % 4294967296) then (if ((Int.tdiv a1 4) % 4294967296) < (l0.length : Int) then ((bits_SetField.f (rd l0 ((Int.tdiv a1 4) % 4294967296)) (wrap64 (8 * (wrap64 (Int.tmod a1 4)))) 8 a3).bind fun t132 => (if ((Int.tdiv a1 4) % 4294967296) < (t127.length : Int) then (some ((t127.set (((Int.tdiv a1 4) % 4294967296) : Int).toNat t132), true)) else (none))) else (none)) else (none)) else (if 0 ≤ ((Int.tdiv a1 4) % 4294967296) then (if ((Int.tdiv a1 4) % 4294967296) < (t127.length : Int) then (some ((t127.set (((Int.tdiv a1 4) % 4294967296) : Int).toNat a3), true)) else (none)) else (none))) else (some (t127, false)))) = some (r1, r2) := H
  have A5 := Aside0.mk A50
  clear A50
  replace H := Option.bind_eq_some_iff.mp H
  obtain ⟨t130, A60, H⟩ := H
  replace H : (if t130 = true then (if a2 = 1 then (if 0 ≤ ((Int.tdiv a1 4) % 4294967296) then (if ((Int.tdiv a1 4) % 4294967296) < (l0.length : Int) then ((bits_SetField.f (rd l0 ((Int.tdiv a1 4) % 4294967296)) (wrap64 (8 * (wrap64 (Int.tmod a1 4)))) 8 a3).bind fun t132 => (if ((Int.tdiv a1 4) % 4294967296) < (t127.length : Int) then (some ((t127.set (((Int.tdiv a1 4) % 4294967296) : Int).toNat t132), true)) else (none))) else (none)) else (none)) else (if 0 ≤ ((Int.tdiv a1 4) % 4294967296) then (if ((Int.tdiv a1 4) % 4294967296) < (t127.length : Int) then (some ((t127.set (((Int.tdiv a1 4) % 4294967296) : Int).toNat a3), true)) else (none)) else (none))) else (some (t127, false))) = some (r1, r2) := H
  have A6 := Aside0.mk A60
  clear A60
  by_cases c7 : t130 = true
  · subst c7
    have H1 : (if a2 = 1 then (if 0 ≤ ((Int.tdiv a1 4) % 4294967296) then (if ((Int.tdiv a1 4) % 4294967296) < (l0.length : Int) then ((bits_SetField.f (rd l0 ((Int.tdiv a1 4) % 4294967296)) (wrap64 (8 * (wrap64 (Int.tmod a1 4)))) 8 a3).bind fun t132 => (if ((Int.tdiv a1 4) % 4294967296) < (t127.length : Int) then (some ((t127.set (((Int.tdiv a1 4) % 4294967296) : Int).toNat t132), true)) else (none))) else (none)) else (none)) else (if 0 ≤ ((Int.tdiv a1 4) % 4294967296) then (if ((Int.tdiv a1 4) % 4294967296) < (t127.length : Int) then (some ((t127.set (((Int.tdiv a1 4) % 4294967296) : Int).toNat a3), true)) else (none)) else (none))) = some (r1, r2) := by rw [if_pos rfl] at H; exact H
    clear H
    have H := H1
    clear H1
    by_cases c8 : a2 = 1
    · rw [if_pos c8] at H
      have c8b0 : (a2 == 1) = true := beq_iff_eq.mpr c8
      have c8b1 : (a2 != 1) = false := bne_eq_false_iff_eq.mpr c8
      clear c8
      obtain ⟨ji9, hji9⟩ : ∃ j_ : Int, ((Int.tdiv a1 4) % 4294967296) = j_ := ⟨_, rfl⟩
      replace H : (if 0 ≤ (ji9) then (if (ji9) < (l0.length : Int) then ((bits_SetField.f (rd l0 (ji9)) (wrap64 (8 * (wrap64 (Int.tmod a1 4)))) 8 a3).bind fun t132 => (if (ji9) < (t127.length : Int) then (some ((t127.set ((ji9) : Int).toNat t132), true)) else (none))) else (none)) else (none)) = some (r1, r2) := by first | (rw [hji9] at H; exact H) | (simp only [hji9] at H ⊢; exact H)
      (try rw [hji9] at A5)
      (try rw [hji9] at A6)
      by_cases c10 : 0 ≤ (ji9)
      · rw [if_pos c10] at H
        have c10b0 : decide (0 ≤ (ji9)) = true := decide_eq_true c10
        clear c10
        by_cases c11 : (ji9) < (l0.length : Int)
        · rw [if_pos c11] at H
          have c11b0 : decide ((ji9) < (l0.length : Int)) = true := decide_eq_true c11
          clear c11
          replace H := Option.bind_eq_some_iff.mp H
          obtain ⟨t132, A120, H⟩ := H
          replace H : (if (ji9) < (t127.length : Int) then (some ((t127.set ((ji9) : Int).toNat t132), true)) else (none)) = some (r1, r2) := H
          have A12 := Aside0.mk A120
          clear A120
          by_cases c13 : (ji9) < (t127.length : Int)
          · rw [if_pos c13] at H
            have c13b0 : decide ((ji9) < (t127.length : Int)) = true := decide_eq_true c13
            clear c13
            obtain ⟨y133, hy133⟩ : ∃ y_ : List Int, y_ = (t127.set ((ji9) : Int).toNat t132) := ⟨_, rfl⟩
            replace H : (some (y133, true)) = some (r1, r2) := by first | (rw [hy133]; with_reducible exact H) | (have H2_ := (Option.bind_some _ _).symm.trans H; rw [hy133]; with_reducible exact H2_) | (have H2_ := (Option.bind_some _ _).symm.trans H; with_reducible exact H2_) | with_reducible exact H | (rw [hy133]; exact H) | exact H
            have Ny133 := Aside0.mk hy133
            clear hy133
            simp only [Option.some.injEq, Prod.mk.injEq] at H
            obtain ⟨rfl, rfl⟩ := H
            go_enter Try.func14, Try.ntmps14
            go_wp2_with (first | ((with_reducible refine gate_callee (f := 36) rfl ?_); refine goesL_ (some 12) rfl rfl Try.func36 (by kernel_rfl) rfl #[.slice A0 l0.length c0] rfl (by (try simp only [List.map_toArray, List.map_cons, List.map_nil]); first | done | rfl | (simp only [List.length_drop, List.length_take]; rfl)) ?_; (with_reducible refine (memory_clone.calls _ _ l0 t127 _ ?side1 ?side2 A5.out).mono ?_); (case side1 => repeat (first | exact HR0.out | (with_reducible refine Kd.C_alloc ?_ _) | (with_reducible refine Kd.C_drewN ?_ _) | (with_reducible refine Kd.C_drew ?_))); (case side2 => exact HC0.out); rintro e w15 ⟨v128, rfl, ho0, hb⟩; refine ⟨_, rfl, ?_⟩; have n0_ := Aside0.mk (Kd.R_lower ho0 (below_size (by repeat (first | (with_reducible first | exact HB.out | apply below_alloc | apply pw_below_drewN | apply below_drew1) | exact HB.out)))); have n1_ := Aside0.mk (below_step (by repeat (first | (with_reducible first | exact HB.out | apply below_alloc | apply pw_below_drewN | apply below_drew1) | exact HB.out)) hb); clear HB; have HO129 := n0_; have HB := n1_; clear n0_ n1_; (try clear hb); (try clear hb2); (try clear hk); (try clear hi); (try clear ho0)) | ((with_reducible refine gate_callee (f := 33) rfl ?_); refine goesL_ (some 16) rfl rfl Try.func33 (by kernel_rfl) rfl #[.slice A0 l0.length c0, .int .u32 a1, .int .i64 a2] rfl (by (try simp only [List.map_toArray, List.map_cons, List.map_nil]); first | done | rfl | (simp only [List.length_drop, List.length_take]; rfl)) ?_; (with_reducible refine (memory_within.calls _ _ l0 a1 a2 true _ ?side1 ?side2 A6.out).mono ?_); (case side1 => repeat (first | exact (Kd.C_below HR0.out HB.out) | (with_reducible refine Kd.C_alloc ?_ _) | (with_reducible refine Kd.C_drewN ?_ _) | (with_reducible refine Kd.C_drew ?_))); (case side2 => exact HC0.out); rintro e w' ⟨rfl, ⟨nd, rfl⟩⟩; refine ⟨_, rfl, ?_⟩; (try (rw [drewN_self w15]; generalize hq_ : World.drewN w15 _ = w15; have n0_ : Aside0 (Kd.R (Kd.int .u32) 24 w15 w.heap.size (fun _ => True) v128 t127) := ⟨by rw [← hq_]; exact (by (with_reducible repeat (first | apply Kd.R_alloc | apply Kd.R_drewN | apply Kd.R_drew)); exact HO129.out)⟩; have n1_ : Aside0 (Below w.heap.size w w15) := ⟨by rw [← hq_]; exact (by repeat (first | (with_reducible first | exact HB.out | apply below_alloc | apply pw_below_drewN | apply below_drew1) | exact HB.out))⟩; clear HO129 HB hq_; have HO129 := n0_; have HB := n1_; clear n0_ n1_)); have p131 : 0 ≤ ((ji9) : Int) := of_decide_eq_true (by first | (with_reducible assumption) | assumption); have q131 : (ji9) < (l0.length : Int) := of_decide_eq_true (by first | (with_reducible assumption) | assumption); obtain ⟨ad131, e131, hx131_0⟩ := Kd.at_int HR0.out (ji9) p131 q131; cases e131; replace hx131_0 := (HB.out.cell (World.block_lt_of_cell? w _ hx131_0)).trans hx131_0; replace p131 := eq_true p131; replace q131 := eq_true q131) | ((with_reducible refine gate_callee (f := 37) rfl ?_); refine goesL_ (some 31) rfl rfl Try.func37 (by kernel_rfl) rfl #[.int .u32 (rd l0 (ji9)), .int .i64 (wrap64 (8 * (wrap64 (Int.tmod a1 4)))), .int .i64 8, .int .u32 a3] rfl (by (try simp only [List.map_toArray, List.map_cons, List.map_nil]); first | done | (simp only [hji9]; rfl) | rfl | (simp only [List.length_drop, List.length_take]; rfl)) ?_; (with_reducible refine (bits_SetField.calls (rd l0 (ji9)) (wrap64 (8 * (wrap64 (Int.tmod a1 4)))) 8 a3 t132 _ A12.out).mono ?_); rintro e w' ⟨rfl, ⟨nd, rfl⟩⟩; refine ⟨_, rfl, ?_⟩; (try (rw [drewN_self w15]; generalize hq_ : World.drewN w15 _ = w15; have n0_ : Aside0 (Kd.R (Kd.int .u32) 24 w15 w.heap.size (fun _ => True) v128 t127) := ⟨by rw [← hq_]; exact (by (with_reducible repeat (first | apply Kd.R_alloc | apply Kd.R_drewN | apply Kd.R_drew)); exact HO129.out)⟩; have n1_ : Aside0 (Below w.heap.size w w15) := ⟨by rw [← hq_]; exact (by repeat (first | (with_reducible first | exact HB.out | apply below_alloc | apply pw_below_drewN | apply below_drew1) | exact HB.out))⟩; clear HO129 HB hq_; have HO129 := n0_; have HB := n1_; clear n0_ n1_)); have p14 : 0 ≤ ((ji9) : Int) := of_decide_eq_true (by first | (with_reducible assumption) | assumption); have q14 : ((ji9) : Int) < ((t127.length : Int) : Int) := of_decide_eq_true (by first | (with_reducible assumption) | assumption); obtain ⟨go14, co14, eo14, gb14, gl14, cl14, HG14⟩ := Kd.R_form HO129.out (by omega); (first | cases eo14 | (injection eo14 with ea_ en_ ec_; (first | subst ea_ | (injection ea_ with ea_; subst ea_)); subst ec_; clear en_)); have GB14 := Aside0.mk gb14; have GG14 := Aside0.mk HG14; clear gb14 gl14 HG14; obtain ⟨hx14_0, hf14_0⟩ := Kd.R_celln 0 HO129.out ((ji9) : Int) p14 q14; replace p14 := eq_true p14; replace q14 := eq_true q14; obtain ⟨hy16_, hz16_⟩ := Kd.R_celln 0 HO129.out ((ji9) : Int) (of_decide_eq_true (by first | (with_reducible assumption) | assumption)) (of_decide_eq_true (by first | (with_reducible assumption) | assumption)); have HP16 := Kd.R_putg HO129.out ((ji9) : Int) t132) | ((with_reducible refine gate_store (t := 24) (p := 36) rfl ?_); refine store_event (t := 24) (p := 36) (v := ?vo_w17) (w1 := (w15.setCell ⟨go14, ((ji9) : Int).toNat, none⟩ (.int .u32 t132))) ?hg ?ho ?hn ?hr ?_; (case ho => rfl); (case hg => rfl); (case hn => rfl); (case hr => first | (go_simp; done) | (go_simp; rfl)); intro w17 hw; have hg : w15.grownBy w17 (some go14) := (by rw [hw]; exact HP16.2); have hp_ : Kd.R (Kd.int .u32) 24 w17 w.heap.size (fun _ => True) (.slice (some ⟨go14, 0, none⟩) t127.length co14) y133 := (by rw [hw, Ny133.out]; exact HP16.1); clear HP16; have n0_ := Aside0.mk (hp_); have n1_ := Aside0.mk ((by rw [hw]; exact below_set (HB.out) GB14.out : Below w.heap.size w w17)); clear HO129; clear HB; have HO129 := n0_; have HB := n1_; clear n0_ n1_; clear hg hw hp_))
            go_ret2
            exact ⟨_, by first | rfl | (simp [errW_none, errW_some] <;> rfl) | (simp only [← hji9]; first | rfl | (simp [errW_none, errW_some] <;> rfl)) | (simp [*, errW_none, errW_some] <;> rfl), by (with_reducible repeat (first | apply Kd.R_alloc | apply Kd.R_drewN | apply Kd.R_drew)); exact HO129.out, by repeat (first | (with_reducible first | exact HB.out | apply below_alloc | apply pw_below_drewN | apply below_drew1) | exact HB.out)⟩
          · rw [if_neg c13] at H
            exact absurd H (by simp)
        · rw [if_neg c11] at H
          exact absurd H (by simp)
      · rw [if_neg c10] at H
        exact absurd H (by simp)
    · rw [if_neg c8] at H
      have c8b0 : (a2 == 1) = false := beq_eq_false_iff_ne.mpr c8
      have c8b1 : (a2 != 1) = true := bne_iff_ne.mpr c8
      obtain ⟨ji18, hji18⟩ : ∃ j_ : Int, ((Int.tdiv a1 4) % 4294967296) = j_ := ⟨_, rfl⟩
      replace H : (if 0 ≤ (ji18) then (if (ji18) < (t127.length : Int) then (some ((t127.set ((ji18) : Int).toNat a3), true)) else (none)) else (none)) = some (r1, r2) := by first | (rw [hji18] at H; exact H) | (simp only [hji18] at H ⊢; exact H)
      (try rw [hji18] at A5)
      (try rw [hji18] at A6)
      by_cases c19 : 0 ≤ (ji18)
      · rw [if_pos c19] at H
        have c19b0 : decide (0 ≤ (ji18)) = true := decide_eq_true c19
        clear c19
        by_cases c20 : (ji18) < (t127.length : Int)
        · rw [if_pos c20] at H
          have c20b0 : decide ((ji18) < (t127.length : Int)) = true := decide_eq_true c20
          clear c20
          obtain ⟨y134, hy134⟩ : ∃ y_ : List Int, y_ = (t127.set ((ji18) : Int).toNat a3) := ⟨_, rfl⟩
          replace H : (some (y134, true)) = some (r1, r2) := by first | (rw [hy134]; with_reducible exact H) | (have H2_ := (Option.bind_some _ _).symm.trans H; rw [hy134]; with_reducible exact H2_) | (have H2_ := (Option.bind_some _ _).symm.trans H; with_reducible exact H2_) | with_reducible exact H | (rw [hy134]; exact H) | exact H
          have Ny134 := Aside0.mk hy134
          clear hy134
          simp only [Option.some.injEq, Prod.mk.injEq] at H
          obtain ⟨rfl, rfl⟩ := H
          go_enter Try.func14, Try.ntmps14
          go_wp2_with (first | ((with_reducible refine gate_callee (f := 36) rfl ?_); refine goesL_ (some 12) rfl rfl Try.func36 (by kernel_rfl) rfl #[.slice A0 l0.length c0] rfl (by (try simp only [List.map_toArray, List.map_cons, List.map_nil]); first | done | rfl | (simp only [List.length_drop, List.length_take]; rfl)) ?_; (with_reducible refine (memory_clone.calls _ _ l0 t127 _ ?side1 ?side2 A5.out).mono ?_); (case side1 => repeat (first | exact HR0.out | (with_reducible refine Kd.C_alloc ?_ _) | (with_reducible refine Kd.C_drewN ?_ _) | (with_reducible refine Kd.C_drew ?_))); (case side2 => exact HC0.out); rintro e w22 ⟨v128, rfl, ho0, hb⟩; refine ⟨_, rfl, ?_⟩; have n0_ := Aside0.mk (Kd.R_lower ho0 (below_size (by repeat (first | (with_reducible first | exact HB.out | apply below_alloc | apply pw_below_drewN | apply below_drew1) | exact HB.out)))); have n1_ := Aside0.mk (below_step (by repeat (first | (with_reducible first | exact HB.out | apply below_alloc | apply pw_below_drewN | apply below_drew1) | exact HB.out)) hb); clear HB; have HO129 := n0_; have HB := n1_; clear n0_ n1_; (try clear hb); (try clear hb2); (try clear hk); (try clear hi); (try clear ho0)) | ((with_reducible refine gate_callee (f := 33) rfl ?_); refine goesL_ (some 16) rfl rfl Try.func33 (by kernel_rfl) rfl #[.slice A0 l0.length c0, .int .u32 a1, .int .i64 a2] rfl (by (try simp only [List.map_toArray, List.map_cons, List.map_nil]); first | done | rfl | (simp only [List.length_drop, List.length_take]; rfl)) ?_; (with_reducible refine (memory_within.calls _ _ l0 a1 a2 true _ ?side1 ?side2 A6.out).mono ?_); (case side1 => repeat (first | exact (Kd.C_below HR0.out HB.out) | (with_reducible refine Kd.C_alloc ?_ _) | (with_reducible refine Kd.C_drewN ?_ _) | (with_reducible refine Kd.C_drew ?_))); (case side2 => exact HC0.out); rintro e w' ⟨rfl, ⟨nd, rfl⟩⟩; refine ⟨_, rfl, ?_⟩; (try (rw [drewN_self w22]; generalize hq_ : World.drewN w22 _ = w22; have n0_ : Aside0 (Kd.R (Kd.int .u32) 24 w22 w.heap.size (fun _ => True) v128 t127) := ⟨by rw [← hq_]; exact (by (with_reducible repeat (first | apply Kd.R_alloc | apply Kd.R_drewN | apply Kd.R_drew)); exact HO129.out)⟩; have n1_ : Aside0 (Below w.heap.size w w22) := ⟨by rw [← hq_]; exact (by repeat (first | (with_reducible first | exact HB.out | apply below_alloc | apply pw_below_drewN | apply below_drew1) | exact HB.out))⟩; clear HO129 HB hq_; have HO129 := n0_; have HB := n1_; clear n0_ n1_)); have p21 : 0 ≤ ((ji18) : Int) := of_decide_eq_true (by first | (with_reducible assumption) | assumption); have q21 : ((ji18) : Int) < ((t127.length : Int) : Int) := of_decide_eq_true (by first | (with_reducible assumption) | assumption); obtain ⟨go21, co21, eo21, gb21, gl21, cl21, HG21⟩ := Kd.R_form HO129.out (by omega); (first | cases eo21 | (injection eo21 with ea_ en_ ec_; (first | subst ea_ | (injection ea_ with ea_; subst ea_)); subst ec_; clear en_)); have GB21 := Aside0.mk gb21; have GG21 := Aside0.mk HG21; clear gb21 gl21 HG21; obtain ⟨hx21_0, hf21_0⟩ := Kd.R_celln 0 HO129.out ((ji18) : Int) p21 q21; replace p21 := eq_true p21; replace q21 := eq_true q21; obtain ⟨hy23_, hz23_⟩ := Kd.R_celln 0 HO129.out ((ji18) : Int) (of_decide_eq_true (by first | (with_reducible assumption) | assumption)) (of_decide_eq_true (by first | (with_reducible assumption) | assumption)); have HP23 := Kd.R_putg HO129.out ((ji18) : Int) a3) | ((with_reducible refine gate_store (t := 24) (p := 36) rfl ?_); refine store_event (t := 24) (p := 36) (v := ?vo_w24) (w1 := (w22.setCell ⟨go21, ((ji18) : Int).toNat, none⟩ (.int .u32 a3))) ?hg ?ho ?hn ?hr ?_; (case ho => rfl); (case hg => rfl); (case hn => rfl); (case hr => first | (go_simp; done) | (go_simp; rfl)); intro w24 hw; have hg : w22.grownBy w24 (some go21) := (by rw [hw]; exact HP23.2); have hp_ : Kd.R (Kd.int .u32) 24 w24 w.heap.size (fun _ => True) (.slice (some ⟨go21, 0, none⟩) t127.length co21) y134 := (by rw [hw, Ny134.out]; exact HP23.1); clear HP23; have n0_ := Aside0.mk (hp_); have n1_ := Aside0.mk ((by rw [hw]; exact below_set (HB.out) GB21.out : Below w.heap.size w w24)); clear HO129; clear HB; have HO129 := n0_; have HB := n1_; clear n0_ n1_; clear hg hw hp_))
          go_ret2
          exact ⟨_, by first | rfl | (simp [errW_none, errW_some] <;> rfl) | (simp only [← hji18]; first | rfl | (simp [errW_none, errW_some] <;> rfl)) | (simp [*, errW_none, errW_some] <;> rfl), by (with_reducible repeat (first | apply Kd.R_alloc | apply Kd.R_drewN | apply Kd.R_drew)); exact HO129.out, by repeat (first | (with_reducible first | exact HB.out | apply below_alloc | apply pw_below_drewN | apply below_drew1) | exact HB.out)⟩
        · rw [if_neg c20] at H
          exact absurd H (by simp)
      · rw [if_neg c19] at H
        exact absurd H (by simp)
  · replace c7 := Bool.eq_false_iff.mpr c7
    subst c7
    have H1 : (some (t127, false)) = some (r1, r2) := by rw [if_neg (show ¬ (false = true) by decide)] at H; exact H
    clear H
    have H := H1
    clear H1
    simp only [Option.some.injEq, Prod.mk.injEq] at H
    obtain ⟨rfl, rfl⟩ := H
    go_enter Try.func14, Try.ntmps14
    go_wp2_with (first | ((with_reducible refine gate_callee (f := 36) rfl ?_); refine goesL_ (some 12) rfl rfl Try.func36 (by kernel_rfl) rfl #[.slice A0 l0.length c0] rfl (by (try simp only [List.map_toArray, List.map_cons, List.map_nil]); first | done | rfl | (simp only [List.length_drop, List.length_take]; rfl)) ?_; (with_reducible refine (memory_clone.calls _ _ l0 t127 _ ?side1 ?side2 A5.out).mono ?_); (case side1 => repeat (first | exact HR0.out | (with_reducible refine Kd.C_alloc ?_ _) | (with_reducible refine Kd.C_drewN ?_ _) | (with_reducible refine Kd.C_drew ?_))); (case side2 => exact HC0.out); rintro e w25 ⟨v128, rfl, ho0, hb⟩; refine ⟨_, rfl, ?_⟩; have n0_ := Aside0.mk (Kd.R_lower ho0 (below_size (by repeat (first | (with_reducible first | exact HB.out | apply below_alloc | apply pw_below_drewN | apply below_drew1) | exact HB.out)))); have n1_ := Aside0.mk (below_step (by repeat (first | (with_reducible first | exact HB.out | apply below_alloc | apply pw_below_drewN | apply below_drew1) | exact HB.out)) hb); clear HB; have HO129 := n0_; have HB := n1_; clear n0_ n1_; (try clear hb); (try clear hb2); (try clear hk); (try clear hi); (try clear ho0)) | ((with_reducible refine gate_callee (f := 33) rfl ?_); refine goesL_ (some 16) rfl rfl Try.func33 (by kernel_rfl) rfl #[.slice A0 l0.length c0, .int .u32 a1, .int .i64 a2] rfl (by (try simp only [List.map_toArray, List.map_cons, List.map_nil]); first | done | rfl | (simp only [List.length_drop, List.length_take]; rfl)) ?_; (with_reducible refine (memory_within.calls _ _ l0 a1 a2 false _ ?side1 ?side2 A6.out).mono ?_); (case side1 => repeat (first | exact (Kd.C_below HR0.out HB.out) | (with_reducible refine Kd.C_alloc ?_ _) | (with_reducible refine Kd.C_drewN ?_ _) | (with_reducible refine Kd.C_drew ?_))); (case side2 => exact HC0.out); rintro e w' ⟨rfl, ⟨nd, rfl⟩⟩; refine ⟨_, rfl, ?_⟩))
    go_ret2
    exact ⟨_, by first | rfl | (simp [errW_none, errW_some] <;> rfl) | (simp [*, errW_none, errW_some] <;> rfl), by (with_reducible repeat (first | apply Kd.R_alloc | apply Kd.R_drewN | apply Kd.R_drew)); exact HO129.out, by repeat (first | (with_reducible first | exact HB.out | apply below_alloc | apply pw_below_drewN | apply below_drew1) | exact HB.out)⟩

/-! ### memory_New: function 19 -/
def memory_New.f (a0 : Int) : Option (List Int) := if a0 < 1 then (some ([] : List Int)) else (if a0 > 32 then (some ([] : List Int)) else (if 0 ≤ (wrap64 (a0 * 32)) then (if (wrap64 (a0 * 32) : Int).toNat ≤ 70368744177664 then (some (List.replicate (wrap64 (a0 * 32) : Int).toNat 0)) else (none)) else (none)))
set_option maxHeartbeats 8000000 in
set_option maxRecDepth 100000 in
theorem memory_New.calls (a0 : Int) (r : List Int) (w : World) (h : memory_New.f a0 = some r) :
    Calls Try.prog 19 #[.int .i64 a0] w fun e w' => ∃ v0_ : Value, e = .returned (v0_) ∧ Kd.R (Kd.int .u32) 24 w' w.heap.size (fun _ => True) v0_ r ∧ Below w.heap.size w w' := by
  have HB := Aside0.mk (Below.refl w.heap.size w)
  have H : (if a0 < 1 then (some ([] : List Int)) else (if a0 > 32 then (some ([] : List Int)) else (if 0 ≤ (wrap64 (a0 * 32)) then (if (wrap64 (a0 * 32) : Int).toNat ≤ 70368744177664 then (some (List.replicate (wrap64 (a0 * 32) : Int).toNat 0)) else (none)) else (none)))) = some r := h
  clear h
  by_cases c2 : a0 < 1
  · rw [if_pos c2] at H
    have c2b0 : decide (a0 < 1) = true := decide_eq_true c2
    clear c2
    obtain rfl := Option.some.inj H
    go_enter Try.func19, Try.ntmps19
    go_wp2
    go_ret
    exact ⟨_, by first | rfl | (simp [errW_none, errW_some] <;> rfl) | (simp [*, errW_none, errW_some] <;> rfl), by first | exact Kd.R_nil _ _ _ _ _ | exact Kd.N_nil _ _ _ _ _ | exact Kd.V_nil _ _ _ _ _ | exact Kd.Q_nil _ _ _ _ _ | exact Kd.S_nil _ _ _ _ _, by repeat (first | (with_reducible first | exact HB.out | apply below_alloc | apply pw_below_drewN | apply below_drew1) | exact HB.out)⟩
  · rw [if_neg c2] at H
    have c2b0 : decide (a0 < 1) = false := decide_eq_false c2
    clear c2
    by_cases c3 : a0 > 32
    · rw [if_pos c3] at H
      have c3b0 : decide (32 < a0) = true := decide_eq_true c3
      clear c3
      obtain rfl := Option.some.inj H
      go_enter Try.func19, Try.ntmps19
      go_wp2
      go_ret
      exact ⟨_, by first | rfl | (simp [errW_none, errW_some] <;> rfl) | (simp [*, errW_none, errW_some] <;> rfl), by first | exact Kd.R_nil _ _ _ _ _ | exact Kd.N_nil _ _ _ _ _ | exact Kd.V_nil _ _ _ _ _ | exact Kd.Q_nil _ _ _ _ _ | exact Kd.S_nil _ _ _ _ _, by repeat (first | (with_reducible first | exact HB.out | apply below_alloc | apply pw_below_drewN | apply below_drew1) | exact HB.out)⟩
    · rw [if_neg c3] at H
      have c3b0 : decide (32 < a0) = false := decide_eq_false c3
      clear c3
      obtain ⟨ji4, hji4⟩ : ∃ j_ : Int, (wrap64 (a0 * 32)) = j_ := ⟨_, rfl⟩
      replace H : (if 0 ≤ (ji4) then (if (ji4 : Int).toNat ≤ 70368744177664 then (some (List.replicate (ji4 : Int).toNat 0)) else (none)) else (none)) = some r := by first | (rw [hji4] at H; exact H) | (simp only [hji4] at H ⊢; exact H)
      have hji4w : (IntKind.i64.wrap (a0 * 32)) = ji4 := (i64_w _).trans hji4
      by_cases c5 : 0 ≤ (ji4)
      · rw [if_pos c5] at H
        have c5b0 := eq_true c5
        have c5b1 : decide (0 ≤ (ji4)) = true := decide_eq_true c5
        clear c5
        by_cases c6 : (ji4 : Int).toNat ≤ 70368744177664
        · rw [if_pos c6] at H
          have c6b0 := eq_true c6
          have c6b1 : decide ((ji4 : Int).toNat ≤ 70368744177664) = true := decide_eq_true c6
          clear c6
          obtain ⟨y135, hy135⟩ : ∃ y_ : List Int, y_ = (List.replicate (ji4 : Int).toNat 0) := ⟨_, rfl⟩
          replace H : (some y135) = some r := by first | (rw [hy135]; with_reducible exact H) | (have H2_ := (Option.bind_some _ _).symm.trans H; rw [hy135]; with_reducible exact H2_) | (have H2_ := (Option.bind_some _ _).symm.trans H; with_reducible exact H2_) | with_reducible exact H | (rw [hy135]; exact H) | exact H
          have Ny135 := Aside0.mk hy135
          clear hy135
          obtain rfl := Option.some.inj H
          go_enter Try.func19, Try.ntmps19
          go_wp2_with (first | ((with_reducible refine gate_dst (N := 11) rfl ?_); refine Kd.R_make (Kd.int .u32) _ 24 rfl (N := 11) rfl 22 _ _ rfl ji4 rfl rfl Try.underlying22 (.int .u32 0) 4 info24 rfl (by decide) (by omega) 0 (ok := fun _ => True) (okp := fun _ => True) rfl (fun _ hk => hk) trivial (of_decide_eq_true (by first | (with_reducible assumption) | assumption)) (Nat.le_trans (Nat.mul_le_mul_right _ (of_decide_eq_true (by first | (with_reducible assumption) | assumption) : ji4.toNat ≤ 70368744177664)) (by omega)) (Below.refl _ _) (Nat.le_refl _) ?_; intro v136 w7 ho8 hb hg_ hnew_; clear hg_ hnew_; (first | rw [← Ny135.out] at ho8 | (simp only [Int.reduceToNat] at ho8; rw [← Ny135.out] at ho8)); have n0_ := Aside0.mk (Kd.R_lower ho8 (below_size (by repeat (first | (with_reducible first | exact HB.out | apply below_alloc | apply pw_below_drewN | apply below_drew1) | exact HB.out)))); have n1_ := Aside0.mk (below_step (by repeat (first | (with_reducible first | exact HB.out | apply below_alloc | apply pw_below_drewN | apply below_drew1) | exact HB.out)) hb); clear HB; have HO137 := n0_; have HB := n1_; clear n0_ n1_; clear hb ho8))
          go_ret
          exact ⟨_, by first | rfl | (simp [errW_none, errW_some] <;> rfl) | (simp only [← hji4]; first | rfl | (simp [errW_none, errW_some] <;> rfl)) | (simp [*, errW_none, errW_some] <;> rfl), by (with_reducible repeat (first | apply Kd.R_alloc | apply Kd.R_drewN | apply Kd.R_drew)); exact HO137.out, by repeat (first | (with_reducible first | exact HB.out | apply below_alloc | apply pw_below_drewN | apply below_drew1) | exact HB.out)⟩
        · rw [if_neg c6] at H
          exact absurd H (by simp)
      · rw [if_neg c5] at H
        exact absurd H (by simp)

/-! ### vmfleetlaw4_awake: function 21 -/
def vmfleetlaw4_awake.f  : Option (Bool) := (memory_New.f 1).bind fun t138 => ((memory_Store.f t138 5 1 511).bind fun bt141 => ((memory_Load.f bt141.1 4 4).bind fun bt145 => (if bt141.2 = true then (if bt145.2 = true then (if bt145.1 = 65280 then ((memory_Pages.f bt141.1).bind fun t147 => (if t147 = 1 then ((memory_New.f 0).bind fun t148 => (some ((t148.length : Int) == 0))) else (some false))) else (some false)) else (some false)) else (some false))))
set_option maxHeartbeats 8000000 in
set_option maxRecDepth 100000 in
theorem vmfleetlaw4_awake.calls  (r : Bool) (w : World) (h : vmfleetlaw4_awake.f  = some r) :
    Calls Try.prog 21 #[] w fun e w' => e = .returned (.bool r) ∧ Below w.heap.size w w' := by
  have HB := Aside0.mk (Below.refl w.heap.size w)
  have H : ((memory_New.f 1).bind fun t138 => ((memory_Store.f t138 5 1 511).bind fun bt141 => ((memory_Load.f bt141.1 4 4).bind fun bt145 => (if bt141.2 = true then (if bt145.2 = true then (if bt145.1 = 65280 then ((memory_Pages.f bt141.1).bind fun t147 => (if t147 = 1 then ((memory_New.f 0).bind fun t148 => (some ((t148.length : Int) == 0))) else (some false))) else (some false)) else (some false)) else (some false))))) = some r := h
  clear h
  replace H := Option.bind_eq_some_iff.mp H
  obtain ⟨t138, A10, H⟩ := H
  replace H : ((memory_Store.f t138 5 1 511).bind fun bt141 => ((memory_Load.f bt141.1 4 4).bind fun bt145 => (if bt141.2 = true then (if bt145.2 = true then (if bt145.1 = 65280 then ((memory_Pages.f bt141.1).bind fun t147 => (if t147 = 1 then ((memory_New.f 0).bind fun t148 => (some ((t148.length : Int) == 0))) else (some false))) else (some false)) else (some false)) else (some false)))) = some r := H
  have A1 := Aside0.mk A10
  clear A10
  replace H := Option.bind_eq_some_iff.mp H
  obtain ⟨⟨t141, t142⟩, A20, H⟩ := H
  replace H : ((memory_Load.f t141 4 4).bind fun bt145 => (if t142 = true then (if bt145.2 = true then (if bt145.1 = 65280 then ((memory_Pages.f t141).bind fun t147 => (if t147 = 1 then ((memory_New.f 0).bind fun t148 => (some ((t148.length : Int) == 0))) else (some false))) else (some false)) else (some false)) else (some false))) = some r := H
  have A2 := Aside0.mk A20
  clear A20
  replace H := Option.bind_eq_some_iff.mp H
  obtain ⟨⟨t145, t146⟩, A30, H⟩ := H
  replace H : (if t142 = true then (if t146 = true then (if t145 = 65280 then ((memory_Pages.f t141).bind fun t147 => (if t147 = 1 then ((memory_New.f 0).bind fun t148 => (some ((t148.length : Int) == 0))) else (some false))) else (some false)) else (some false)) else (some false)) = some r := H
  have A3 := Aside0.mk A30
  clear A30
  by_cases c4 : t142 = true
  · subst c4
    have H1 : (if t146 = true then (if t145 = 65280 then ((memory_Pages.f t141).bind fun t147 => (if t147 = 1 then ((memory_New.f 0).bind fun t148 => (some ((t148.length : Int) == 0))) else (some false))) else (some false)) else (some false)) = some r := by rw [if_pos rfl] at H; exact H
    clear H
    have H := H1
    clear H1
    by_cases c5 : t146 = true
    · subst c5
      have H1 : (if t145 = 65280 then ((memory_Pages.f t141).bind fun t147 => (if t147 = 1 then ((memory_New.f 0).bind fun t148 => (some ((t148.length : Int) == 0))) else (some false))) else (some false)) = some r := by rw [if_pos rfl] at H; exact H
      clear H
      have H := H1
      clear H1
      by_cases c6 : t145 = 65280
      · rw [if_pos c6] at H
        have c6b0 : (t145 == 65280) = true := beq_iff_eq.mpr c6
        have c6b1 : (t145 != 65280) = false := bne_eq_false_iff_eq.mpr c6
        clear c6
        replace H := Option.bind_eq_some_iff.mp H
        obtain ⟨t147, A70, H⟩ := H
        replace H : (if t147 = 1 then ((memory_New.f 0).bind fun t148 => (some ((t148.length : Int) == 0))) else (some false)) = some r := H
        have A7 := Aside0.mk A70
        clear A70
        by_cases c8 : t147 = 1
        · rw [if_pos c8] at H
          have c8b0 : (t147 == 1) = true := beq_iff_eq.mpr c8
          have c8b1 : (t147 != 1) = false := bne_eq_false_iff_eq.mpr c8
          clear c8
          replace H := Option.bind_eq_some_iff.mp H
          obtain ⟨t148, A90, H⟩ := H
          replace H : (some ((t148.length : Int) == 0)) = some r := H
          have A9 := Aside0.mk A90
          clear A90
          obtain rfl := Option.some.inj H
          go_enter Try.func21, Try.ntmps21
          go_wp2_with (first | ((with_reducible refine gate_callee (f := 19) rfl ?_); refine goesL_ (some 6) rfl rfl Try.func19 (by kernel_rfl) rfl #[.int .i64 1] rfl (by (try simp only [List.map_toArray, List.map_cons, List.map_nil]); first | done | rfl | (simp only [List.length_drop, List.length_take]; rfl)) ?_; (with_reducible refine (memory_New.calls 1 t138 _ A1.out).mono ?_); rintro e w10 ⟨v139, rfl, ho0, hb⟩; refine ⟨_, rfl, ?_⟩; have n0_ := Aside0.mk (Kd.R_lower ho0 (below_size (by repeat (first | (with_reducible first | exact HB.out | apply below_alloc | apply pw_below_drewN | apply below_drew1) | exact HB.out)))); have n1_ := Aside0.mk (below_step (by repeat (first | (with_reducible first | exact HB.out | apply below_alloc | apply pw_below_drewN | apply below_drew1) | exact HB.out)) hb); clear HB; have HO140 := n0_; have HB := n1_; clear n0_ n1_; (try clear hb); (try clear hb2); (try clear hk); (try clear hi); (try clear ho0); obtain ⟨Ao11, co11, eo11⟩ := Kd.R_slice HO140.out; subst eo11) | ((with_reducible refine gate_callee (f := 14) rfl ?_); refine goesL_ (some 7) rfl rfl Try.func14 (by kernel_rfl) rfl #[.slice Ao11 t138.length co11, .int .u32 5, .int .i64 1, .int .u32 511] rfl (by (try simp only [List.map_toArray, List.map_cons, List.map_nil]); first | done | rfl | (simp only [List.length_drop, List.length_take]; rfl)) ?_; (with_reducible refine (memory_Store.calls _ _ t138 5 1 511 t141 true _ ?side1 ?side2 A2.out).mono ?_); (case side1 => repeat (first | exact (Kd.R_reads' HO140.out).2.2 | (with_reducible refine Kd.C_alloc ?_ _) | (with_reducible refine Kd.C_drewN ?_ _) | (with_reducible refine Kd.C_drew ?_))); (case side2 => exact (Kd.R_reads' HO140.out).2.1); rintro e w12 ⟨v143, rfl, ho0, hb⟩; refine ⟨_, rfl, ?_⟩; have n0_ := Aside0.mk (Kd.R_elder' (by (with_reducible repeat (first | apply Kd.R_alloc | apply Kd.R_drewN | apply Kd.R_drew)); exact HO140.out) (Kd.R_base ho0) hb); have n1_ := Aside0.mk (Kd.R_lower (Kd.R_new' ho0 (Kd.R_lt (by (with_reducible repeat (first | apply Kd.R_alloc | apply Kd.R_drewN | apply Kd.R_drew)); exact HO140.out))) (below_size (by repeat (first | (with_reducible first | exact HB.out | apply below_alloc | apply pw_below_drewN | apply below_drew1) | exact HB.out)))); have n2_ := Aside0.mk (below_step (by repeat (first | (with_reducible first | exact HB.out | apply below_alloc | apply pw_below_drewN | apply below_drew1) | exact HB.out)) hb); clear HO140; clear HB; have HO140 := n0_; have HO144 := n1_; have HB := n2_; clear n0_ n1_ n2_; (try clear hb); (try clear hb2); (try clear hk); (try clear hi); (try clear ho0); obtain ⟨Ao13, co13, eo13⟩ := Kd.R_slice HO144.out; subst eo13) | ((with_reducible refine gate_callee (f := 12) rfl ?_); refine goesL_ (some 12) rfl rfl Try.func12 (by kernel_rfl) rfl #[.slice Ao13 t141.length co13, .int .u32 4, .int .i64 4] rfl (by (try simp only [List.map_toArray, List.map_cons, List.map_nil]); first | done | rfl | (simp only [List.length_drop, List.length_take]; rfl)) ?_; (with_reducible refine (memory_Load.calls _ _ t141 4 4 t145 true _ ?side1 ?side2 A3.out).mono ?_); (case side1 => repeat (first | exact (Kd.R_reads' HO144.out).2.2 | (with_reducible refine Kd.C_alloc ?_ _) | (with_reducible refine Kd.C_drewN ?_ _) | (with_reducible refine Kd.C_drew ?_))); (case side2 => exact (Kd.R_reads' HO144.out).2.1); rintro e w' ⟨rfl, ⟨nd, rfl⟩⟩; refine ⟨_, rfl, ?_⟩) | (go_at_call 17; (with_reducible refine (memory_Pages.calls _ _ t141 t147 _ ?side1 ?side2 A7.out).mono ?_); (case side1 => repeat (first | exact (Kd.R_reads' HO144.out).2.2 | (with_reducible refine Kd.C_alloc ?_ _) | (with_reducible refine Kd.C_drewN ?_ _) | (with_reducible refine Kd.C_drew ?_))); (case side2 => exact (Kd.R_reads' HO144.out).2.1); rintro e w' ⟨rfl, ⟨nd, rfl⟩⟩) | (go_at_call 19; (with_reducible refine (memory_New.calls 0 t148 _ A9.out).mono ?_); rintro e w14 ⟨v149, rfl, ho0, hb⟩; have n0_ := Aside0.mk (Kd.R_elder' (by (with_reducible repeat (first | apply Kd.R_alloc | apply Kd.R_drewN | apply Kd.R_drew)); exact HO140.out) (Kd.R_base ho0) hb); have n1_ := Aside0.mk (Kd.R_elder' (by (with_reducible repeat (first | apply Kd.R_alloc | apply Kd.R_drewN | apply Kd.R_drew)); exact HO144.out) (Kd.R_base ho0) hb); have n2_ := Aside0.mk (Kd.R_lower (Kd.R_new' (Kd.R_new' ho0 (Kd.R_lt (by (with_reducible repeat (first | apply Kd.R_alloc | apply Kd.R_drewN | apply Kd.R_drew)); exact HO140.out))) (Kd.R_lt (by (with_reducible repeat (first | apply Kd.R_alloc | apply Kd.R_drewN | apply Kd.R_drew)); exact HO144.out))) (below_size (by repeat (first | (with_reducible first | exact HB.out | apply below_alloc | apply pw_below_drewN | apply below_drew1) | exact HB.out)))); have n3_ := Aside0.mk (below_step (by repeat (first | (with_reducible first | exact HB.out | apply below_alloc | apply pw_below_drewN | apply below_drew1) | exact HB.out)) hb); clear HO140; clear HO144; clear HB; have HO140 := n0_; have HO144 := n1_; have HO150 := n2_; have HB := n3_; clear n0_ n1_ n2_ n3_; (try clear hb); (try clear hb2); (try clear hk); (try clear hi); (try clear ho0); obtain ⟨Ao15, co15, eo15⟩ := Kd.R_slice HO150.out; subst eo15))
          go_ret
          exact ⟨by first | rfl | (simp [errW_none, errW_some] <;> rfl) | (simp [*, errW_none, errW_some] <;> rfl), by repeat (first | (with_reducible first | exact HB.out | apply below_alloc | apply pw_below_drewN | apply below_drew1) | exact HB.out)⟩
        · rw [if_neg c8] at H
          have c8b0 : (t147 == 1) = false := beq_eq_false_iff_ne.mpr c8
          have c8b1 : (t147 != 1) = true := bne_iff_ne.mpr c8
          obtain rfl := Option.some.inj H
          go_enter Try.func21, Try.ntmps21
          go_wp2_with (first | ((with_reducible refine gate_callee (f := 19) rfl ?_); refine goesL_ (some 6) rfl rfl Try.func19 (by kernel_rfl) rfl #[.int .i64 1] rfl (by (try simp only [List.map_toArray, List.map_cons, List.map_nil]); first | done | rfl | (simp only [List.length_drop, List.length_take]; rfl)) ?_; (with_reducible refine (memory_New.calls 1 t138 _ A1.out).mono ?_); rintro e w16 ⟨v139, rfl, ho0, hb⟩; refine ⟨_, rfl, ?_⟩; have n0_ := Aside0.mk (Kd.R_lower ho0 (below_size (by repeat (first | (with_reducible first | exact HB.out | apply below_alloc | apply pw_below_drewN | apply below_drew1) | exact HB.out)))); have n1_ := Aside0.mk (below_step (by repeat (first | (with_reducible first | exact HB.out | apply below_alloc | apply pw_below_drewN | apply below_drew1) | exact HB.out)) hb); clear HB; have HO140 := n0_; have HB := n1_; clear n0_ n1_; (try clear hb); (try clear hb2); (try clear hk); (try clear hi); (try clear ho0); obtain ⟨Ao17, co17, eo17⟩ := Kd.R_slice HO140.out; subst eo17) | ((with_reducible refine gate_callee (f := 14) rfl ?_); refine goesL_ (some 7) rfl rfl Try.func14 (by kernel_rfl) rfl #[.slice Ao17 t138.length co17, .int .u32 5, .int .i64 1, .int .u32 511] rfl (by (try simp only [List.map_toArray, List.map_cons, List.map_nil]); first | done | rfl | (simp only [List.length_drop, List.length_take]; rfl)) ?_; (with_reducible refine (memory_Store.calls _ _ t138 5 1 511 t141 true _ ?side1 ?side2 A2.out).mono ?_); (case side1 => repeat (first | exact (Kd.R_reads' HO140.out).2.2 | (with_reducible refine Kd.C_alloc ?_ _) | (with_reducible refine Kd.C_drewN ?_ _) | (with_reducible refine Kd.C_drew ?_))); (case side2 => exact (Kd.R_reads' HO140.out).2.1); rintro e w18 ⟨v143, rfl, ho0, hb⟩; refine ⟨_, rfl, ?_⟩; have n0_ := Aside0.mk (Kd.R_elder' (by (with_reducible repeat (first | apply Kd.R_alloc | apply Kd.R_drewN | apply Kd.R_drew)); exact HO140.out) (Kd.R_base ho0) hb); have n1_ := Aside0.mk (Kd.R_lower (Kd.R_new' ho0 (Kd.R_lt (by (with_reducible repeat (first | apply Kd.R_alloc | apply Kd.R_drewN | apply Kd.R_drew)); exact HO140.out))) (below_size (by repeat (first | (with_reducible first | exact HB.out | apply below_alloc | apply pw_below_drewN | apply below_drew1) | exact HB.out)))); have n2_ := Aside0.mk (below_step (by repeat (first | (with_reducible first | exact HB.out | apply below_alloc | apply pw_below_drewN | apply below_drew1) | exact HB.out)) hb); clear HO140; clear HB; have HO140 := n0_; have HO144 := n1_; have HB := n2_; clear n0_ n1_ n2_; (try clear hb); (try clear hb2); (try clear hk); (try clear hi); (try clear ho0); obtain ⟨Ao19, co19, eo19⟩ := Kd.R_slice HO144.out; subst eo19) | ((with_reducible refine gate_callee (f := 12) rfl ?_); refine goesL_ (some 12) rfl rfl Try.func12 (by kernel_rfl) rfl #[.slice Ao19 t141.length co19, .int .u32 4, .int .i64 4] rfl (by (try simp only [List.map_toArray, List.map_cons, List.map_nil]); first | done | rfl | (simp only [List.length_drop, List.length_take]; rfl)) ?_; (with_reducible refine (memory_Load.calls _ _ t141 4 4 t145 true _ ?side1 ?side2 A3.out).mono ?_); (case side1 => repeat (first | exact (Kd.R_reads' HO144.out).2.2 | (with_reducible refine Kd.C_alloc ?_ _) | (with_reducible refine Kd.C_drewN ?_ _) | (with_reducible refine Kd.C_drew ?_))); (case side2 => exact (Kd.R_reads' HO144.out).2.1); rintro e w' ⟨rfl, ⟨nd, rfl⟩⟩; refine ⟨_, rfl, ?_⟩) | (go_at_call 17; (with_reducible refine (memory_Pages.calls _ _ t141 t147 _ ?side1 ?side2 A7.out).mono ?_); (case side1 => repeat (first | exact (Kd.R_reads' HO144.out).2.2 | (with_reducible refine Kd.C_alloc ?_ _) | (with_reducible refine Kd.C_drewN ?_ _) | (with_reducible refine Kd.C_drew ?_))); (case side2 => exact (Kd.R_reads' HO144.out).2.1); rintro e w' ⟨rfl, ⟨nd, rfl⟩⟩))
          go_ret
          exact ⟨by first | rfl | (simp [errW_none, errW_some] <;> rfl) | (simp [*, errW_none, errW_some] <;> rfl), by repeat (first | (with_reducible first | exact HB.out | apply below_alloc | apply pw_below_drewN | apply below_drew1) | exact HB.out)⟩
      · rw [if_neg c6] at H
        have c6b0 : (t145 == 65280) = false := beq_eq_false_iff_ne.mpr c6
        have c6b1 : (t145 != 65280) = true := bne_iff_ne.mpr c6
        obtain rfl := Option.some.inj H
        go_enter Try.func21, Try.ntmps21
        go_wp2_with (first | ((with_reducible refine gate_callee (f := 19) rfl ?_); refine goesL_ (some 6) rfl rfl Try.func19 (by kernel_rfl) rfl #[.int .i64 1] rfl (by (try simp only [List.map_toArray, List.map_cons, List.map_nil]); first | done | rfl | (simp only [List.length_drop, List.length_take]; rfl)) ?_; (with_reducible refine (memory_New.calls 1 t138 _ A1.out).mono ?_); rintro e w20 ⟨v139, rfl, ho0, hb⟩; refine ⟨_, rfl, ?_⟩; have n0_ := Aside0.mk (Kd.R_lower ho0 (below_size (by repeat (first | (with_reducible first | exact HB.out | apply below_alloc | apply pw_below_drewN | apply below_drew1) | exact HB.out)))); have n1_ := Aside0.mk (below_step (by repeat (first | (with_reducible first | exact HB.out | apply below_alloc | apply pw_below_drewN | apply below_drew1) | exact HB.out)) hb); clear HB; have HO140 := n0_; have HB := n1_; clear n0_ n1_; (try clear hb); (try clear hb2); (try clear hk); (try clear hi); (try clear ho0); obtain ⟨Ao21, co21, eo21⟩ := Kd.R_slice HO140.out; subst eo21) | ((with_reducible refine gate_callee (f := 14) rfl ?_); refine goesL_ (some 7) rfl rfl Try.func14 (by kernel_rfl) rfl #[.slice Ao21 t138.length co21, .int .u32 5, .int .i64 1, .int .u32 511] rfl (by (try simp only [List.map_toArray, List.map_cons, List.map_nil]); first | done | rfl | (simp only [List.length_drop, List.length_take]; rfl)) ?_; (with_reducible refine (memory_Store.calls _ _ t138 5 1 511 t141 true _ ?side1 ?side2 A2.out).mono ?_); (case side1 => repeat (first | exact (Kd.R_reads' HO140.out).2.2 | (with_reducible refine Kd.C_alloc ?_ _) | (with_reducible refine Kd.C_drewN ?_ _) | (with_reducible refine Kd.C_drew ?_))); (case side2 => exact (Kd.R_reads' HO140.out).2.1); rintro e w22 ⟨v143, rfl, ho0, hb⟩; refine ⟨_, rfl, ?_⟩; have n0_ := Aside0.mk (Kd.R_elder' (by (with_reducible repeat (first | apply Kd.R_alloc | apply Kd.R_drewN | apply Kd.R_drew)); exact HO140.out) (Kd.R_base ho0) hb); have n1_ := Aside0.mk (Kd.R_lower (Kd.R_new' ho0 (Kd.R_lt (by (with_reducible repeat (first | apply Kd.R_alloc | apply Kd.R_drewN | apply Kd.R_drew)); exact HO140.out))) (below_size (by repeat (first | (with_reducible first | exact HB.out | apply below_alloc | apply pw_below_drewN | apply below_drew1) | exact HB.out)))); have n2_ := Aside0.mk (below_step (by repeat (first | (with_reducible first | exact HB.out | apply below_alloc | apply pw_below_drewN | apply below_drew1) | exact HB.out)) hb); clear HO140; clear HB; have HO140 := n0_; have HO144 := n1_; have HB := n2_; clear n0_ n1_ n2_; (try clear hb); (try clear hb2); (try clear hk); (try clear hi); (try clear ho0); obtain ⟨Ao23, co23, eo23⟩ := Kd.R_slice HO144.out; subst eo23) | ((with_reducible refine gate_callee (f := 12) rfl ?_); refine goesL_ (some 12) rfl rfl Try.func12 (by kernel_rfl) rfl #[.slice Ao23 t141.length co23, .int .u32 4, .int .i64 4] rfl (by (try simp only [List.map_toArray, List.map_cons, List.map_nil]); first | done | rfl | (simp only [List.length_drop, List.length_take]; rfl)) ?_; (with_reducible refine (memory_Load.calls _ _ t141 4 4 t145 true _ ?side1 ?side2 A3.out).mono ?_); (case side1 => repeat (first | exact (Kd.R_reads' HO144.out).2.2 | (with_reducible refine Kd.C_alloc ?_ _) | (with_reducible refine Kd.C_drewN ?_ _) | (with_reducible refine Kd.C_drew ?_))); (case side2 => exact (Kd.R_reads' HO144.out).2.1); rintro e w' ⟨rfl, ⟨nd, rfl⟩⟩; refine ⟨_, rfl, ?_⟩))
        go_ret
        exact ⟨by first | rfl | (simp [errW_none, errW_some] <;> rfl) | (simp [*, errW_none, errW_some] <;> rfl), by repeat (first | (with_reducible first | exact HB.out | apply below_alloc | apply pw_below_drewN | apply below_drew1) | exact HB.out)⟩
    · replace c5 := Bool.eq_false_iff.mpr c5
      subst c5
      have H1 : (some false) = some r := by rw [if_neg (show ¬ (false = true) by decide)] at H; exact H
      clear H
      have H := H1
      clear H1
      obtain rfl := Option.some.inj H
      go_enter Try.func21, Try.ntmps21
      go_wp2_with (first | ((with_reducible refine gate_callee (f := 19) rfl ?_); refine goesL_ (some 6) rfl rfl Try.func19 (by kernel_rfl) rfl #[.int .i64 1] rfl (by (try simp only [List.map_toArray, List.map_cons, List.map_nil]); first | done | rfl | (simp only [List.length_drop, List.length_take]; rfl)) ?_; (with_reducible refine (memory_New.calls 1 t138 _ A1.out).mono ?_); rintro e w24 ⟨v139, rfl, ho0, hb⟩; refine ⟨_, rfl, ?_⟩; have n0_ := Aside0.mk (Kd.R_lower ho0 (below_size (by repeat (first | (with_reducible first | exact HB.out | apply below_alloc | apply pw_below_drewN | apply below_drew1) | exact HB.out)))); have n1_ := Aside0.mk (below_step (by repeat (first | (with_reducible first | exact HB.out | apply below_alloc | apply pw_below_drewN | apply below_drew1) | exact HB.out)) hb); clear HB; have HO140 := n0_; have HB := n1_; clear n0_ n1_; (try clear hb); (try clear hb2); (try clear hk); (try clear hi); (try clear ho0); obtain ⟨Ao25, co25, eo25⟩ := Kd.R_slice HO140.out; subst eo25) | ((with_reducible refine gate_callee (f := 14) rfl ?_); refine goesL_ (some 7) rfl rfl Try.func14 (by kernel_rfl) rfl #[.slice Ao25 t138.length co25, .int .u32 5, .int .i64 1, .int .u32 511] rfl (by (try simp only [List.map_toArray, List.map_cons, List.map_nil]); first | done | rfl | (simp only [List.length_drop, List.length_take]; rfl)) ?_; (with_reducible refine (memory_Store.calls _ _ t138 5 1 511 t141 true _ ?side1 ?side2 A2.out).mono ?_); (case side1 => repeat (first | exact (Kd.R_reads' HO140.out).2.2 | (with_reducible refine Kd.C_alloc ?_ _) | (with_reducible refine Kd.C_drewN ?_ _) | (with_reducible refine Kd.C_drew ?_))); (case side2 => exact (Kd.R_reads' HO140.out).2.1); rintro e w26 ⟨v143, rfl, ho0, hb⟩; refine ⟨_, rfl, ?_⟩; have n0_ := Aside0.mk (Kd.R_elder' (by (with_reducible repeat (first | apply Kd.R_alloc | apply Kd.R_drewN | apply Kd.R_drew)); exact HO140.out) (Kd.R_base ho0) hb); have n1_ := Aside0.mk (Kd.R_lower (Kd.R_new' ho0 (Kd.R_lt (by (with_reducible repeat (first | apply Kd.R_alloc | apply Kd.R_drewN | apply Kd.R_drew)); exact HO140.out))) (below_size (by repeat (first | (with_reducible first | exact HB.out | apply below_alloc | apply pw_below_drewN | apply below_drew1) | exact HB.out)))); have n2_ := Aside0.mk (below_step (by repeat (first | (with_reducible first | exact HB.out | apply below_alloc | apply pw_below_drewN | apply below_drew1) | exact HB.out)) hb); clear HO140; clear HB; have HO140 := n0_; have HO144 := n1_; have HB := n2_; clear n0_ n1_ n2_; (try clear hb); (try clear hb2); (try clear hk); (try clear hi); (try clear ho0); obtain ⟨Ao27, co27, eo27⟩ := Kd.R_slice HO144.out; subst eo27) | ((with_reducible refine gate_callee (f := 12) rfl ?_); refine goesL_ (some 12) rfl rfl Try.func12 (by kernel_rfl) rfl #[.slice Ao27 t141.length co27, .int .u32 4, .int .i64 4] rfl (by (try simp only [List.map_toArray, List.map_cons, List.map_nil]); first | done | rfl | (simp only [List.length_drop, List.length_take]; rfl)) ?_; (with_reducible refine (memory_Load.calls _ _ t141 4 4 t145 false _ ?side1 ?side2 A3.out).mono ?_); (case side1 => repeat (first | exact (Kd.R_reads' HO144.out).2.2 | (with_reducible refine Kd.C_alloc ?_ _) | (with_reducible refine Kd.C_drewN ?_ _) | (with_reducible refine Kd.C_drew ?_))); (case side2 => exact (Kd.R_reads' HO144.out).2.1); rintro e w' ⟨rfl, ⟨nd, rfl⟩⟩; refine ⟨_, rfl, ?_⟩))
      go_ret
      exact ⟨by first | rfl | (simp [errW_none, errW_some] <;> rfl) | (simp [*, errW_none, errW_some] <;> rfl), by repeat (first | (with_reducible first | exact HB.out | apply below_alloc | apply pw_below_drewN | apply below_drew1) | exact HB.out)⟩
  · replace c4 := Bool.eq_false_iff.mpr c4
    subst c4
    have H1 : (some false) = some r := by rw [if_neg (show ¬ (false = true) by decide)] at H; exact H
    clear H
    have H := H1
    clear H1
    obtain rfl := Option.some.inj H
    go_enter Try.func21, Try.ntmps21
    go_wp2_with (first | ((with_reducible refine gate_callee (f := 19) rfl ?_); refine goesL_ (some 6) rfl rfl Try.func19 (by kernel_rfl) rfl #[.int .i64 1] rfl (by (try simp only [List.map_toArray, List.map_cons, List.map_nil]); first | done | rfl | (simp only [List.length_drop, List.length_take]; rfl)) ?_; (with_reducible refine (memory_New.calls 1 t138 _ A1.out).mono ?_); rintro e w28 ⟨v139, rfl, ho0, hb⟩; refine ⟨_, rfl, ?_⟩; have n0_ := Aside0.mk (Kd.R_lower ho0 (below_size (by repeat (first | (with_reducible first | exact HB.out | apply below_alloc | apply pw_below_drewN | apply below_drew1) | exact HB.out)))); have n1_ := Aside0.mk (below_step (by repeat (first | (with_reducible first | exact HB.out | apply below_alloc | apply pw_below_drewN | apply below_drew1) | exact HB.out)) hb); clear HB; have HO140 := n0_; have HB := n1_; clear n0_ n1_; (try clear hb); (try clear hb2); (try clear hk); (try clear hi); (try clear ho0); obtain ⟨Ao29, co29, eo29⟩ := Kd.R_slice HO140.out; subst eo29) | ((with_reducible refine gate_callee (f := 14) rfl ?_); refine goesL_ (some 7) rfl rfl Try.func14 (by kernel_rfl) rfl #[.slice Ao29 t138.length co29, .int .u32 5, .int .i64 1, .int .u32 511] rfl (by (try simp only [List.map_toArray, List.map_cons, List.map_nil]); first | done | rfl | (simp only [List.length_drop, List.length_take]; rfl)) ?_; (with_reducible refine (memory_Store.calls _ _ t138 5 1 511 t141 false _ ?side1 ?side2 A2.out).mono ?_); (case side1 => repeat (first | exact (Kd.R_reads' HO140.out).2.2 | (with_reducible refine Kd.C_alloc ?_ _) | (with_reducible refine Kd.C_drewN ?_ _) | (with_reducible refine Kd.C_drew ?_))); (case side2 => exact (Kd.R_reads' HO140.out).2.1); rintro e w30 ⟨v143, rfl, ho0, hb⟩; refine ⟨_, rfl, ?_⟩; have n0_ := Aside0.mk (Kd.R_elder' (by (with_reducible repeat (first | apply Kd.R_alloc | apply Kd.R_drewN | apply Kd.R_drew)); exact HO140.out) (Kd.R_base ho0) hb); have n1_ := Aside0.mk (Kd.R_lower (Kd.R_new' ho0 (Kd.R_lt (by (with_reducible repeat (first | apply Kd.R_alloc | apply Kd.R_drewN | apply Kd.R_drew)); exact HO140.out))) (below_size (by repeat (first | (with_reducible first | exact HB.out | apply below_alloc | apply pw_below_drewN | apply below_drew1) | exact HB.out)))); have n2_ := Aside0.mk (below_step (by repeat (first | (with_reducible first | exact HB.out | apply below_alloc | apply pw_below_drewN | apply below_drew1) | exact HB.out)) hb); clear HO140; clear HB; have HO140 := n0_; have HO144 := n1_; have HB := n2_; clear n0_ n1_ n2_; (try clear hb); (try clear hb2); (try clear hk); (try clear hi); (try clear ho0); obtain ⟨Ao31, co31, eo31⟩ := Kd.R_slice HO144.out; subst eo31) | ((with_reducible refine gate_callee (f := 12) rfl ?_); refine goesL_ (some 12) rfl rfl Try.func12 (by kernel_rfl) rfl #[.slice Ao31 t141.length co31, .int .u32 4, .int .i64 4] rfl (by (try simp only [List.map_toArray, List.map_cons, List.map_nil]); first | done | rfl | (simp only [List.length_drop, List.length_take]; rfl)) ?_; (with_reducible refine (memory_Load.calls _ _ t141 4 4 t145 t146 _ ?side1 ?side2 A3.out).mono ?_); (case side1 => repeat (first | exact (Kd.R_reads' HO144.out).2.2 | (with_reducible refine Kd.C_alloc ?_ _) | (with_reducible refine Kd.C_drewN ?_ _) | (with_reducible refine Kd.C_drew ?_))); (case side2 => exact (Kd.R_reads' HO144.out).2.1); rintro e w' ⟨rfl, ⟨nd, rfl⟩⟩; refine ⟨_, rfl, ?_⟩))
    go_ret
    exact ⟨by first | rfl | (simp [errW_none, errW_some] <;> rfl) | (simp [*, errW_none, errW_some] <;> rfl), by repeat (first | (with_reducible first | exact HB.out | apply below_alloc | apply pw_below_drewN | apply below_drew1) | exact HB.out)⟩

/-! ### memory_has: function 41 -/
def memory_has.f (l0 : List Int) (a1 : Int) : Option (Bool) := if a1 ≥ 0 then ((memory_Pages.f l0).bind fun t151 => (some (decide (a1 < t151)))) else (some false)
set_option maxHeartbeats 8000000 in
set_option maxRecDepth 100000 in
theorem memory_has.calls (A0 : Option Addr) (c0 : Nat) (l0 : List Int) (a1 : Int) (r : Bool) (w : World) (hr0 : Kd.C (Kd.int .u32) w A0 l0.length l0) (hc0 : l0.length ≤ c0) (h : memory_has.f l0 a1 = some r) :
    Calls Try.prog 41 #[.slice A0 l0.length c0, .int .i64 a1] w fun e w' => e = .returned (.bool r) ∧ Drawn0 w w' := by
  have HR0 := Aside0.mk hr0
  have HC0 := Aside0.mk hc0
  clear hr0 hc0
  have H : (if a1 ≥ 0 then ((memory_Pages.f l0).bind fun t151 => (some (decide (a1 < t151)))) else (some false)) = some r := h
  clear h
  by_cases c3 : a1 ≥ 0
  · rw [if_pos c3] at H
    have c3b0 : decide (0 ≤ a1) = true := decide_eq_true c3
    clear c3
    replace H := Option.bind_eq_some_iff.mp H
    obtain ⟨t151, A40, H⟩ := H
    replace H : (some (decide (a1 < t151))) = some r := H
    have A4 := Aside0.mk A40
    clear A40
    obtain rfl := Option.some.inj H
    go_enter Try.func41, Try.ntmps41
    go_wp2_with (first | (go_at_call 17; (with_reducible refine (memory_Pages.calls _ _ l0 t151 _ ?side1 ?side2 A4.out).mono ?_); (case side1 => repeat (first | exact HR0.out | (with_reducible refine Kd.C_alloc ?_ _) | (with_reducible refine Kd.C_drewN ?_ _) | (with_reducible refine Kd.C_drew ?_))); (case side2 => exact HC0.out); rintro e w' ⟨rfl, ⟨nd, rfl⟩⟩))
    go_ret
    exact ⟨by first | rfl | (simp; done) | (simp [*]; done), by repeat (first | exact Drawn0.refl _ | apply Drawn0.step)⟩
  · rw [if_neg c3] at H
    have c3b0 : decide (0 ≤ a1) = false := decide_eq_false c3
    clear c3
    obtain rfl := Option.some.inj H
    go_enter Try.func41, Try.ntmps41
    go_wp2
    go_ret
    exact ⟨by first | rfl | (simp; done) | (simp [*]; done), by repeat (first | exact Drawn0.refl _ | apply Drawn0.step)⟩

/-! ### memory_text: function 42 -/
def memory_text.b4 (x : Int) : List Int := [x % 256, x / 256 % 256, x / 65536 % 256, x / 16777216 % 256]
def memory_text.f (l0 : List Int) : Option (ByteArray) := if l0.length ≤ 17592186044416 then some (strOfNums (l0.flatMap memory_text.b4)) else none
theorem memory_text.b4_len (l : List Int) : (l.flatMap memory_text.b4).length = 4 * l.length := by
  induction l with
  | nil => rfl
  | cons a l ih => simp only [List.flatMap_cons, List.length_append, ih, List.length_cons]; simp [memory_text.b4]; omega
set_option maxHeartbeats 4000000 in
set_option maxRecDepth 100000 in
theorem memory_text.calls (A0 : Option Addr) (c0 : Nat) (l0 : List Int) (r : ByteArray) (w : World) (hr0 : Kd.C (Kd.int .u32) w A0 l0.length l0) (hc0 : l0.length ≤ c0) (h : memory_text.f l0 = some r) :
    Calls Try.prog 42 #[.slice A0 l0.length c0] w fun e w' => e = .returned (.string r) ∧ Below w.heap.size w w' := by
  have HR := Aside0.mk hr0
  clear hr0
  unfold memory_text.f at h
  by_cases hb : l0.length ≤ 17592186044416
  · rw [if_pos hb] at h
    obtain rfl := Option.some.inj h
    clear h
    obtain ⟨i0, hi, hz0, hz1, hz2⟩ := info_parts info5
    go_enter Try.func42, Try.ntmps42
    go_wp2_with (at_make; refine wpList_make_own _ rfl _ _ 37 rfl w.heap.size 5 i0 (.int .u8 0) 1 Try.underlying37 hi hz0 hz1 _ _ _ (4 * l0.length) rfl rfl (by omega) (by rw [hz2]; omega) (by unfold maxLen; omega) (Nat.le_refl _) ?_; intro w1 hown1 hgrow1)
    have HB := Aside0.mk (Below.grown (Below.refl w.heap.size w) hgrow1 (Nat.le_refl _) (by simp))
    have HO := Aside0.mk (show (Kd.int .u8).R 5 w1 w.heap.size (fun _ => True) (.slice (some ⟨w.heap.size, 0, none⟩) 0 (4 * l0.length)) ([] : List Int) from ⟨fun _ _ => trivial, [], hown1, Reps.none _ _⟩)
    clear hown1 hgrow1
    go_loopw [3, 12] (fun v i wr => ∃ j : Nat, j ≤ l0.length ∧ i = .int .i64 j ∧ Aside0 ((Kd.int .u8).R 5 wr w.heap.size (fun _ => True) v ((l0.take j).flatMap memory_text.b4)) ∧ Aside0 (Below w.heap.size w wr)) (fun _ i _ => l0.length - (intOf i).toNat)
    case atStart => exact ⟨0, Nat.zero_le _, rfl, HO, HB⟩
    case round =>
      clear HO HB
      obtain ⟨j, hj, rfl, HO, HB⟩ := hrel
      by_cases hlt : j < l0.length
      · have HC := Kd.C_below HR.out HB.out
        obtain ⟨ad, cs, rfl, _, hK, hcell⟩ := Kd.C_get HC 0 (j : Int) (by omega) (by omega)
        have hK' : cs = [.int .u32 (l0.getD ((j : Int)).toNat 0)] := hK
        subst hK'
        have hc1 := hcell 0 _ rfl
        have hcell1 : wr.cell? (ad.add j) = some (.int .u32 (l0.getD j 0)) := by simpa [Kd.int, Kd.scalar] using hc1
        clear hcell hc1 hK HC
        obtain ⟨x, hx⟩ : ∃ x, l0.getD j 0 = x := ⟨_, rfl⟩
        rw [hx] at hcell1
        have HX := Aside0.mk hx
        clear hx
        have hfl : ((l0.take j).flatMap memory_text.b4).length = 4 * j := by rw [memory_text.b4_len]; simp; omega
        have HFL := Aside0.mk hfl
        clear hfl
        go_wp2_with (at_builtin; refine Kd.R_append_rows (Kd.int .u8) (Rr := fun x cs => cs = [.int .u8 x]) w.heap.size rfl _ _ 37 5 (.int .u8 0) 1 rfl Try.underlying37 info5 rfl (by decide) (by decide) _ _ [x % 256, x / 256 % 256, x / 65536 % 256, x / 16777216 % 256] (some ⟨wr.heap.size, 0, none⟩) 4 4 (fun _ => True) (fun _ => False) rfl rfl (Kd.R_alloc HO.out _) (Go.Proofs.Ytdaeflafdnlceaa.Hand.reads_new wr 5 [x % 256, x / 256 % 256, x / 65536 % 256, x / 16777216 % 256] _ rfl (by simp)) (fun _ _ h => h) (fun _ h => h.elim) (fun _ _ => trivial) (below_alloc HB.out _) (by have := HB.out.size; simp; omega) (by rw [HFL.out]; omega) ?_; intro v2 w2 ho2 hb2 hg2 hat2; clear hg2 hat2; have HO2 := Aside0.mk ho2; have HB2 := Aside0.mk hb2; clear ho2 hb2)
        go_roundw
        case rel => exact ⟨j + 1, by omega, by go_num, ⟨by
          have e : (l0.take (j + 1)).flatMap memory_text.b4 = (l0.take j).flatMap memory_text.b4 ++ [x % 256, x / 256 % 256, x / 65536 % 256, x / 16777216 % 256] := by
            rw [List.take_succ_eq_append_getElem hlt, List.flatMap_append]
            have hx2 : l0[j] = x := by rw [← HX.out]; simp [List.getD, hlt]
            simp [memory_text.b4, hx2]
          rw [e]; exact HO2.out⟩, HB2⟩
        case measure => simp [intOf]; omega
      · obtain rfl : j = l0.length := by omega
        have HO' := HO.out
        clear HO
        rw [List.take_length] at HO'
        obtain ⟨ys, hys⟩ : ∃ ys, ys = l0.flatMap memory_text.b4 := ⟨_, rfl⟩
        rw [← hys] at HO'
        have HY := Aside0.mk hys
        clear hys
        obtain ⟨A1, c1, rfl, _, hC1⟩ := Kd.R_reads HO'
        clear HO'
        have hconv := Kd.C_string (P := Try.prog) (c := c1) Try.underlying37 Try.underlying5 Try.underlying9 hC1
        clear hC1
        go_wp2
        go_ret
        exact ⟨by rw [HY.out]; rfl, HB.out⟩
  · rw [if_neg hb] at h
    exact absurd h (by simp)

/-! ### memory_Page: function 23 -/
def memory_Page.f (l0 : List Int) (a1 : Int) : Option (ByteArray × Bool) := (memory_has.f l0 a1).bind fun t152 => (if t152 = true then (if 0 ≤ (wrap64 (a1 * 32)) then (if (wrap64 (a1 * 32)) ≤ (wrap64 ((wrap64 (a1 + 1)) * 32)) then (if (wrap64 ((wrap64 (a1 + 1)) * 32)) ≤ (l0.length : Int) then ((memory_text.f ((l0.take ((wrap64 ((wrap64 (a1 + 1)) * 32)) : Int).toNat).drop ((wrap64 (a1 * 32)) : Int).toNat)).bind fun t154 => (some (t154, true))) else (none)) else (none)) else (none)) else (some ((⟨#[]⟩ : ByteArray), false)))
set_option maxHeartbeats 8000000 in
set_option maxRecDepth 100000 in
theorem memory_Page.calls (A0 : Option Addr) (c0 : Nat) (l0 : List Int) (a1 : Int) (r1 : ByteArray) (r2 : Bool) (w : World) (hr0 : Kd.C (Kd.int .u32) w A0 l0.length l0) (hc0 : l0.length ≤ c0) (h : memory_Page.f l0 a1 = some (r1, r2)) :
    Calls Try.prog 23 #[.slice A0 l0.length c0, .int .i64 a1] w fun e w' => e = .returned (.tuple #[.string r1, .bool r2]) ∧ Below w.heap.size w w' := by
  have HR0 := Aside0.mk hr0
  have HC0 := Aside0.mk hc0
  clear hr0 hc0
  have HB := Aside0.mk (Below.refl w.heap.size w)
  have H : ((memory_has.f l0 a1).bind fun t152 => (if t152 = true then (if 0 ≤ (wrap64 (a1 * 32)) then (if (wrap64 (a1 * 32)) ≤ (wrap64 ((wrap64 (a1 + 1)) * 32)) then (if (wrap64 ((wrap64 (a1 + 1)) * 32)) ≤ (l0.length : Int) then ((memory_text.f ((l0.take ((wrap64 ((wrap64 (a1 + 1)) * 32)) : Int).toNat).drop ((wrap64 (a1 * 32)) : Int).toNat)).bind fun t154 => (some (t154, true))) else (none)) else (none)) else (none)) else (some ((⟨#[]⟩ : ByteArray), false)))) = some (r1, r2) := h
  clear h
  replace H := Option.bind_eq_some_iff.mp H
  obtain ⟨t152, A30, H⟩ := H
  replace H : (if t152 = true then (if 0 ≤ (wrap64 (a1 * 32)) then (if (wrap64 (a1 * 32)) ≤ (wrap64 ((wrap64 (a1 + 1)) * 32)) then (if (wrap64 ((wrap64 (a1 + 1)) * 32)) ≤ (l0.length : Int) then ((memory_text.f ((l0.take ((wrap64 ((wrap64 (a1 + 1)) * 32)) : Int).toNat).drop ((wrap64 (a1 * 32)) : Int).toNat)).bind fun t154 => (some (t154, true))) else (none)) else (none)) else (none)) else (some ((⟨#[]⟩ : ByteArray), false))) = some (r1, r2) := H
  have A3 := Aside0.mk A30
  clear A30
  by_cases c4 : t152 = true
  · subst c4
    have H1 : (if 0 ≤ (wrap64 (a1 * 32)) then (if (wrap64 (a1 * 32)) ≤ (wrap64 ((wrap64 (a1 + 1)) * 32)) then (if (wrap64 ((wrap64 (a1 + 1)) * 32)) ≤ (l0.length : Int) then ((memory_text.f ((l0.take ((wrap64 ((wrap64 (a1 + 1)) * 32)) : Int).toNat).drop ((wrap64 (a1 * 32)) : Int).toNat)).bind fun t154 => (some (t154, true))) else (none)) else (none)) else (none)) = some (r1, r2) := by rw [if_pos rfl] at H; exact H
    clear H
    have H := H1
    clear H1
    obtain ⟨ji5, hji5⟩ : ∃ j_ : Int, (wrap64 (a1 * 32)) = j_ := ⟨_, rfl⟩
    replace H : (if 0 ≤ (ji5) then (if (ji5) ≤ (wrap64 ((wrap64 (a1 + 1)) * 32)) then (if (wrap64 ((wrap64 (a1 + 1)) * 32)) ≤ (l0.length : Int) then ((memory_text.f ((l0.take ((wrap64 ((wrap64 (a1 + 1)) * 32)) : Int).toNat).drop ((ji5) : Int).toNat)).bind fun t154 => (some (t154, true))) else (none)) else (none)) else (none)) = some (r1, r2) := by first | (rw [hji5] at H; exact H) | (simp only [hji5] at H ⊢; exact H)
    (try rw [hji5] at A3)
    have hji5w : (IntKind.i64.wrap (a1 * 32)) = ji5 := (i64_w _).trans hji5
    by_cases c6 : 0 ≤ (ji5)
    · rw [if_pos c6] at H
      have c6b0 := eq_true c6
      have c6b1 : decide (0 ≤ (ji5)) = true := decide_eq_true c6
      clear c6
      by_cases c7 : (ji5) ≤ (wrap64 ((wrap64 (a1 + 1)) * 32))
      · rw [if_pos c7] at H
        have c7b0 := eq_true c7
        have c7b1 : decide ((ji5) ≤ (wrap64 ((wrap64 (a1 + 1)) * 32))) = true := decide_eq_true c7
        by_cases c8 : (wrap64 ((wrap64 (a1 + 1)) * 32)) ≤ (l0.length : Int)
        · rw [if_pos c8] at H
          have c8b0 := eq_true c8
          have c8b1 : decide ((wrap64 ((wrap64 (a1 + 1)) * 32)) ≤ (l0.length : Int)) = true := decide_eq_true c8
          replace H := Option.bind_eq_some_iff.mp H
          obtain ⟨t154, A90, H⟩ := H
          replace H : (some (t154, true)) = some (r1, r2) := H
          have A9 := Aside0.mk A90
          clear A90
          simp only [Option.some.injEq, Prod.mk.injEq] at H
          obtain ⟨rfl, rfl⟩ := H
          go_enter Try.func23, Try.ntmps23
          go_wp2_with (first | ((with_reducible refine gate_callee (f := 41) rfl ?_); refine goesL_ (some 8) rfl rfl Try.func41 (by kernel_rfl) rfl #[.slice A0 l0.length c0, .int .i64 a1] rfl (by (try simp only [List.map_toArray, List.map_cons, List.map_nil]); first | done | rfl | (simp only [List.length_drop, List.length_take]; rfl)) ?_; (with_reducible refine (memory_has.calls _ _ l0 a1 true _ ?side1 ?side2 A3.out).mono ?_); (case side1 => repeat (first | exact HR0.out | (with_reducible refine Kd.C_alloc ?_ _) | (with_reducible refine Kd.C_drewN ?_ _) | (with_reducible refine Kd.C_drew ?_))); (case side2 => exact HC0.out); rintro e w' ⟨rfl, ⟨nd, rfl⟩⟩; refine ⟨_, rfl, ?_⟩; obtain ⟨i010, hi010, _, hsz10, _⟩ := info_parts info24; obtain ⟨A10, hcut10, hA10, hC10⟩ := print_mid_of (P := Try.prog) (Value.int .u32) 0 22 24 .i64 .i64 Try.underlying22 hi010 hsz10 A0 c0 l0 (ji5) (wrap64 ((wrap64 (a1 + 1)) * 32)) (of_decide_eq_true (by first | (with_reducible assumption) | assumption)) (by first | omega | exact of_decide_eq_true (by first | (with_reducible assumption) | assumption)) (of_decide_eq_true (by first | (with_reducible assumption) | assumption)) HC0.out; have HR153 := Aside0.mk (Kd.C_of_reads (h1 := fun _ => rfl) (hA10 _ (Kd.reads_of_C HR0.out))); have HC153 := Aside0.mk hC10; clear hA10 hC10 hi010 hsz10) | ((with_reducible refine gate_callee (f := 42) rfl ?_); refine goesL_ (some 17) rfl rfl Try.func42 (by kernel_rfl) rfl #[.slice A10 ((l0.take ((wrap64 ((wrap64 (a1 + 1)) * 32)) : Int).toNat).drop ((ji5) : Int).toNat).length (c0 - (ji5).toNat)] rfl (by (try simp only [List.map_toArray, List.map_cons, List.map_nil]); first | done | (rw [show ((l0.take ((wrap64 ((wrap64 (a1 + 1)) * 32)) : Int).toNat).drop ((ji5) : Int).toNat).length = ((wrap64 ((wrap64 (a1 + 1)) * 32)).toNat - (ji5).toNat) from (by rw [List.length_drop, List.length_take]; have h_ : ((wrap64 ((wrap64 (a1 + 1)) * 32)) : Int) ≤ (l0.length : Int) := of_decide_eq_true (by first | (with_reducible assumption) | assumption); omega)] <;> rfl) | (simp only [hji5]; rfl) | rfl | (simp only [List.length_drop, List.length_take]; rfl)) ?_; (with_reducible refine (memory_text.calls _ _ ((l0.take ((wrap64 ((wrap64 (a1 + 1)) * 32)) : Int).toNat).drop ((ji5) : Int).toNat) t154 _ ?side1 ?side2 A9.out).mono ?_); (case side1 => repeat (first | exact HR153.out | (with_reducible refine Kd.C_alloc ?_ _) | (with_reducible refine Kd.C_drewN ?_ _) | (with_reducible refine Kd.C_drew ?_))); (case side2 => exact HC153.out); rintro e w11 ⟨rfl, hb⟩; refine ⟨_, rfl, ?_⟩; have n0_ := Aside0.mk (below_step (by repeat (first | (with_reducible first | exact HB.out | apply below_alloc | apply pw_below_drewN | apply below_drew1) | exact HB.out)) hb); clear HB; have HB := n0_; clear n0_; (try clear hb); (try clear hb2); (try clear hk); (try clear hi)))
          go_ret2
          exact ⟨by first | rfl | (simp [errW_none, errW_some] <;> rfl) | (simp only [← hji5]; first | rfl | (simp [errW_none, errW_some] <;> rfl)) | (simp [*, errW_none, errW_some] <;> rfl), by repeat (first | (with_reducible first | exact HB.out | apply below_alloc | apply pw_below_drewN | apply below_drew1) | exact HB.out)⟩
        · rw [if_neg c8] at H
          exact absurd H (by simp)
      · rw [if_neg c7] at H
        exact absurd H (by simp)
    · rw [if_neg c6] at H
      exact absurd H (by simp)
  · replace c4 := Bool.eq_false_iff.mpr c4
    subst c4
    have H1 : (some ((⟨#[]⟩ : ByteArray), false)) = some (r1, r2) := by rw [if_neg (show ¬ (false = true) by decide)] at H; exact H
    clear H
    have H := H1
    clear H1
    simp only [Option.some.injEq, Prod.mk.injEq] at H
    obtain ⟨rfl, rfl⟩ := H
    go_enter Try.func23, Try.ntmps23
    go_wp2_with (first | ((with_reducible refine gate_callee (f := 41) rfl ?_); refine goesL_ (some 8) rfl rfl Try.func41 (by kernel_rfl) rfl #[.slice A0 l0.length c0, .int .i64 a1] rfl (by (try simp only [List.map_toArray, List.map_cons, List.map_nil]); first | done | rfl | (simp only [List.length_drop, List.length_take]; rfl)) ?_; (with_reducible refine (memory_has.calls _ _ l0 a1 false _ ?side1 ?side2 A3.out).mono ?_); (case side1 => repeat (first | exact HR0.out | (with_reducible refine Kd.C_alloc ?_ _) | (with_reducible refine Kd.C_drewN ?_ _) | (with_reducible refine Kd.C_drew ?_))); (case side2 => exact HC0.out); rintro e w' ⟨rfl, ⟨nd, rfl⟩⟩; refine ⟨_, rfl, ?_⟩))
    go_ret2
    exact ⟨by first | rfl | (simp [errW_none, errW_some] <;> rfl) | (simp [*, errW_none, errW_some] <;> rfl), by repeat (first | (with_reducible first | exact HB.out | apply below_alloc | apply pw_below_drewN | apply below_drew1) | exact HB.out)⟩

end Go.Proofs.Ytdaeflafdnlceaa.HMemoryPages
