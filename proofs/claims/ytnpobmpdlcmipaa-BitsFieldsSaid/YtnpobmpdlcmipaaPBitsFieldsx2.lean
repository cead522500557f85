-- PRINTED BY print.sh 35421559b90ae4d0a3588c463048766b98c2df88dd9212a6774a882060cdf62d: not written by this session
import Derived.Test.YtnpobmpdlcmipaaPBitsFieldsx0
import Derived.Test.YtnpobmpdlcmipaaPBitsFieldsx1
namespace Go.Proofs.Ytnpobmpdlcmipaa.PBitsFields
open Go.RowKit Go.Proofs.YtnpobmpdlcmipaaW.PrintWords Go.Proofs.YtnpobmpdlcmipaaW.PrintLast Go.Proofs.YtnpobmpdlcmipaaW.PrintMore
attribute [local go_sem] max2_int min2_int max_two min_two max_three min_three max_four min_four   -- for this text's walks alone
set_option linter.unusedVariables false
set_option linter.unusedSimpArgs false

/-! ### vmfleetref1_Field: function 27 -/
def vmfleetref1_Field.j0 : Nat → Int → Int → Int → Bool → Option (Int)
  | 0, _, _, _, _ => none
  | k + 1, x0, x1, x2, x16 => if x16 = true then (some 0) else (if 0 ≤ (IntKind.u64.wrap (x1)) then (if x2 < 32 then (if 0 ≤ (IntKind.u64.wrap (x2)) then (some (Go.bits .and .u32 (shr .u32 x0 (IntKind.u64.wrap (x1))) (((shl .u32 1 (IntKind.u64.wrap (x2))) - 1) % 4294967296))) else (none)) else (some (shr .u32 x0 (IntKind.u64.wrap (x1))))) else (none))
def vmfleetref1_Field.f (k : Nat) (a0 : Int) (a1 : Int) (a2 : Int) : Option (Int) := if a1 < 0 then (vmfleetref1_Field.j0 k a0 a1 a2 true) else (if a1 > 31 then (vmfleetref1_Field.j0 k a0 a1 a2 true) else (vmfleetref1_Field.j0 k a0 a1 a2 (decide (a2 < 1))))
theorem vmfleetref1_Field.mono_l : ∀ k, (∀ y0 y1 y2 y3, LeO (vmfleetref1_Field.j0 k y0 y1 y2 y3) (vmfleetref1_Field.j0 (k + 1) y0 y1 y2 y3))
  | 0 => fun _ _ _ _ r h => by simp [vmfleetref1_Field.j0] at h
  | k + 1 => by
    have ih0 := vmfleetref1_Field.mono_l k
    · intro y0 y1 y2 y3
      unfold vmfleetref1_Field.j0
      repeat' first
      | (with_reducible exact ih0 _ _ _ _)
      | (with_reducible exact LeO.refl _)
      | (with_reducible exact LeO.none _)
      | (with_reducible refine LeO.ite ?_ ?_)
      | (with_reducible refine LeO.bind ?_ (fun _ => ?_))
      | exact ih0 _ _ _ _
      | exact LeO.none _
      | refine LeO.ite ?_ ?_
      | refine LeO.bind ?_ (fun _ => ?_)
theorem vmfleetref1_Field.mono : ∀ a0 a1 a2 k, LeO (vmfleetref1_Field.f k a0 a1 a2) (vmfleetref1_Field.f (k + 1) a0 a1 a2) := by
  intro a0 a1 a2 k
  have ih0 := vmfleetref1_Field.mono_l k
  unfold vmfleetref1_Field.f
  repeat' first
      | (with_reducible exact ih0 _ _ _ _)
      | (with_reducible exact LeO.refl _)
      | (with_reducible exact LeO.none _)
      | (with_reducible refine LeO.ite ?_ ?_)
      | (with_reducible refine LeO.bind ?_ (fun _ => ?_))
      | exact ih0 _ _ _ _
      | exact LeO.none _
      | refine LeO.ite ?_ ?_
      | refine LeO.bind ?_ (fun _ => ?_)
set_option maxHeartbeats 8000000 in
set_option maxRecDepth 100000 in
theorem vmfleetref1_Field.calls (k : Nat) (a0 : Int) (a1 : Int) (a2 : Int) (r : Int) (w : World) (h : vmfleetref1_Field.f k a0 a1 a2 = some r) :
    Calls Try.prog 27 #[.int .u32 a0, .int .i64 a1, .int .i64 a2] w fun e w' => e = .returned (.int .u32 r) ∧ Drawn0 w w' := by
  have H : (if a1 < 0 then (vmfleetref1_Field.j0 k a0 a1 a2 true) else (if a1 > 31 then (vmfleetref1_Field.j0 k a0 a1 a2 true) else (vmfleetref1_Field.j0 k a0 a1 a2 (decide (a2 < 1))))) = some r := h
  clear h
  have HC4 := Aside0.mk H
  clear H
  go_enter Try.func27, Try.ntmps27
  go_upto_region 1 with (fail)
  go_cut [16] (fun v16 wc => ∃ (kq : Nat) (x16_3 : Bool), v16 = .bool x16_3 ∧ Aside0 (vmfleetref1_Field.j0 kq a0 a1 a2 x16_3 = some r) ∧ Aside0 (kq ≤ k) ∧ Drawn0 w wc)
  case first =>
    have H := HC4.out
    clear HC4
    by_cases c5 : a1 < 0
    · rw [if_pos c5] at H
      have c5b0 : decide (a1 < 0) = true := decide_eq_true c5
      clear c5
      (first | rw [c5b0] | (simp only [i64_w, i32_w]; rw [c5b0]) | skip)
      have H' := Aside0.mk H
      clear H
      go_wp2
      go_meet
      case rel => exact ⟨_, (true), (by first | rfl | (simp; done) | (simp [*]; done)), H', ⟨by first | omega | exact Nat.le_refl _⟩, by repeat (first | exact Drawn0.refl _ | apply Drawn0.step)⟩
    · rw [if_neg c5] at H
      have c5b0 : decide (a1 < 0) = false := decide_eq_false c5
      clear c5
      (first | rw [c5b0] | (simp only [i64_w, i32_w]; rw [c5b0]) | skip)
      by_cases c6 : a1 > 31
      · rw [if_pos c6] at H
        have c6b0 : decide (31 < a1) = true := decide_eq_true c6
        clear c6
        have H' := Aside0.mk H
        clear H
        go_wp2
        go_meet
        case rel => exact ⟨_, (true), (by first | rfl | (simp; done) | (simp [*]; done)), H', ⟨by first | omega | exact Nat.le_refl _⟩, by repeat (first | exact Drawn0.refl _ | apply Drawn0.step)⟩
      · rw [if_neg c6] at H
        have c6b0 : decide (31 < a1) = false := decide_eq_false c6
        clear c6
        have H' := Aside0.mk H
        clear H
        go_wp2
        go_meet
        case rel => exact ⟨_, (decide (a2 < 1)), (by first | rfl | (simp; done) | (simp [*]; done)), H', ⟨by first | omega | exact Nat.le_refl _⟩, by repeat (first | exact Drawn0.refl _ | apply Drawn0.step)⟩
  case rest =>
    clear HC4
    try clear c2
    try clear p2
    try clear c5
    try clear c5b0
    try clear c6
    try clear c6b0
    obtain ⟨kq, x16_3, rfl, HA, HJ3, ⟨mc3, rfl⟩⟩ := hcut
    cases kq with
    | zero => exact absurd HA.out (by simp [vmfleetref1_Field.j0])
    | succ kj3 =>
      have H := HA.out
      clear HA
      simp only [vmfleetref1_Field.j0] at H
      by_cases c7 : x16_3 = true
      · subst c7
        have H1 : (some 0) = some r := by rw [if_pos rfl] at H; exact H
        clear H
        have H := H1
        clear H1
        obtain rfl := Option.some.inj H
        go_wp2
        go_ret
        exact ⟨by first | rfl | (simp; done) | (simp [*]; done), by repeat (first | exact Drawn0.refl _ | apply Drawn0.step)⟩
      · replace c7 := Bool.eq_false_iff.mpr c7
        subst c7
        have H1 : (if 0 ≤ (IntKind.u64.wrap (a1)) then (if a2 < 32 then (if 0 ≤ (IntKind.u64.wrap (a2)) then (some (Go.bits .and .u32 (shr .u32 a0 (IntKind.u64.wrap (a1))) (((shl .u32 1 (IntKind.u64.wrap (a2))) - 1) % 4294967296))) else (none)) else (some (shr .u32 a0 (IntKind.u64.wrap (a1))))) else (none)) = some r := by rw [if_neg (show ¬ (false = true) by decide)] at H; exact H
        clear H
        have H := H1
        clear H1
        obtain ⟨ji8, hji8⟩ : ∃ j_ : Int, (IntKind.u64.wrap (a1)) = j_ := ⟨_, rfl⟩
        replace H : (if 0 ≤ (ji8) then (if a2 < 32 then (if 0 ≤ (IntKind.u64.wrap (a2)) then (some (Go.bits .and .u32 (shr .u32 a0 (ji8)) (((shl .u32 1 (IntKind.u64.wrap (a2))) - 1) % 4294967296))) else (none)) else (some (shr .u32 a0 (ji8)))) else (none)) = some r := by first | (rw [hji8] at H; exact H) | (simp only [hji8] at H ⊢; exact H)
        by_cases c9 : 0 ≤ (ji8)
        · rw [if_pos c9] at H
          have c9b0 := eq_true c9
          have c9b1 : decide (0 ≤ (ji8)) = true := decide_eq_true c9
          clear c9
          obtain ⟨ji10, hji10⟩ : ∃ j_ : Int, (shr .u32 a0 (ji8)) = j_ := ⟨_, rfl⟩
          replace H : (if a2 < 32 then (if 0 ≤ (IntKind.u64.wrap (a2)) then (some (Go.bits .and .u32 (ji10) (((shl .u32 1 (IntKind.u64.wrap (a2))) - 1) % 4294967296))) else (none)) else (some ji10)) = some r := by first | (rw [hji10] at H; exact H) | (simp only [hji10] at H ⊢; exact H)
          have hji10_ : (a0 / 2 ^ min (ji8).toNat 32) = ji10 := hji10
          have hji10z : (ji8) ≤ 32 → (a0 / 2 ^ (ji8).toNat) = ji10 := shr_small hji10
          by_cases c11 : a2 < 32
          · rw [if_pos c11] at H
            have c11b0 : decide (a2 < 32) = true := decide_eq_true c11
            clear c11
            obtain ⟨ji12, hji12⟩ : ∃ j_ : Int, (IntKind.u64.wrap (a2)) = j_ := ⟨_, rfl⟩
            replace H : (if 0 ≤ (ji12) then (some (Go.bits .and .u32 (ji10) (((shl .u32 1 (ji12)) - 1) % 4294967296))) else (none)) = some r := by first | (rw [hji12] at H; exact H) | (simp only [hji12] at H ⊢; exact H)
            by_cases c13 : 0 ≤ (ji12)
            · rw [if_pos c13] at H
              have c13b0 := eq_true c13
              have c13b1 : decide (0 ≤ (ji12)) = true := decide_eq_true c13
              clear c13
              obtain ⟨ji14, hji14⟩ : ∃ j_ : Int, (shl .u32 1 (ji12)) = j_ := ⟨_, rfl⟩
              replace H : (some (Go.bits .and .u32 (ji10) (((ji14) - 1) % 4294967296))) = some r := by first | (rw [hji14] at H; exact H) | (simp only [hji14] at H ⊢; exact H)
              have hji14_ : (IntKind.u32.wrap (1 * 2 ^ min (ji12).toNat 32)) = ji14 := hji14
              have hji14z : (ji12) ≤ 32 → (IntKind.u32.wrap (1 * 2 ^ (ji12).toNat)) = ji14 := shl_small hji14
              have hji14u : (IntKind.u32.wrap (2 ^ min (ji12).toNat 32)) = ji14 := by have h_ := hji14_; rw [Int.one_mul] at h_; exact h_
              have hji14v : (ji12) ≤ 32 → (IntKind.u32.wrap (2 ^ (ji12).toNat)) = ji14 := fun hle_ => by have h_ := hji14z hle_; rw [Int.one_mul] at h_; exact h_
              obtain rfl := Option.some.inj H
              go_wp2
              go_ret
              exact ⟨by first | rfl | (simp; done) | (simp only [← hji8, ← hji10, ← hji12, ← hji14] <;> (first | rfl | simp)) | (simp [*]; done), by repeat (first | exact Drawn0.refl _ | apply Drawn0.step)⟩
            · rw [if_neg c13] at H
              exact absurd H (by simp)
          · rw [if_neg c11] at H
            have c11b0 : decide (a2 < 32) = false := decide_eq_false c11
            clear c11
            obtain rfl := Option.some.inj H
            go_wp2
            go_ret
            exact ⟨by first | rfl | (simp; done) | (simp only [← hji8, ← hji10] <;> (first | rfl | simp)) | (simp [*]; done), by repeat (first | exact Drawn0.refl _ | apply Drawn0.step)⟩
        · rw [if_neg c9] at H
          exact absurd H (by simp)

/-! ### bits_SetField: function 28 -/
def bits_SetField.f (a0 : Int) (a1 : Int) (a2 : Int) (a3 : Int) : Option (Int) := (bits_outside.f a1 a2).bind fun t113 => (if t113 = true then (some a0) else ((bits_mask.f a2).bind fun t114 => (if 0 ≤ a1 then (some (Go.bits .or .u32 (Go.bits .andNot .u32 a0 (shl .u32 t114 a1)) (Go.bits .and .u32 (shl .u32 a3 a1) (shl .u32 t114 a1)))) else (none))))
set_option maxHeartbeats 8000000 in
set_option maxRecDepth 100000 in
theorem bits_SetField.calls (a0 : Int) (a1 : Int) (a2 : Int) (a3 : Int) (r : Int) (w : World) (h : bits_SetField.f a0 a1 a2 a3 = some r) :
    Calls Try.prog 28 #[.int .u32 a0, .int .i64 a1, .int .i64 a2, .int .u32 a3] w fun e w' => e = .returned (.int .u32 r) ∧ Drawn0 w w' := by
  have H : ((bits_outside.f a1 a2).bind fun t113 => (if t113 = true then (some a0) else ((bits_mask.f a2).bind fun t114 => (if 0 ≤ a1 then (some (Go.bits .or .u32 (Go.bits .andNot .u32 a0 (shl .u32 t114 a1)) (Go.bits .and .u32 (shl .u32 a3 a1) (shl .u32 t114 a1)))) else (none))))) = some r := h
  clear h
  replace H := Option.bind_eq_some_iff.mp H
  obtain ⟨t113, A50, H⟩ := H
  replace H : (if t113 = true then (some a0) else ((bits_mask.f a2).bind fun t114 => (if 0 ≤ a1 then (some (Go.bits .or .u32 (Go.bits .andNot .u32 a0 (shl .u32 t114 a1)) (Go.bits .and .u32 (shl .u32 a3 a1) (shl .u32 t114 a1)))) else (none)))) = some r := H
  have A5 := Aside0.mk A50
  clear A50
  by_cases c6 : t113 = true
  · subst c6
    have H1 : (some a0) = some r := by rw [if_pos rfl] at H; exact H
    clear H
    have H := H1
    clear H1
    obtain rfl := Option.some.inj H
    go_enter Try.func28, Try.ntmps28
    go_wp2_with (first | ((with_reducible refine gate_callee (f := 30) rfl ?_); refine goesL_ (some 12) rfl rfl Try.func30 (by kernel_rfl) rfl #[.int .i64 a1, .int .i64 a2] rfl (by (try simp only [List.map_toArray, List.map_cons, List.map_nil]); first | done | rfl | (simp only [List.length_drop, List.length_take]; rfl)) ?_; (with_reducible refine (bits_outside.calls a1 a2 true _ A5.out).mono ?_); rintro e w' ⟨rfl, ⟨nd, rfl⟩⟩; refine ⟨_, rfl, ?_⟩))
    go_ret
    exact ⟨by first | rfl | (simp; done) | (simp [*]; done), by repeat (first | exact Drawn0.refl _ | apply Drawn0.step)⟩
  · replace c6 := Bool.eq_false_iff.mpr c6
    subst c6
    have H1 : ((bits_mask.f a2).bind fun t114 => (if 0 ≤ a1 then (some (Go.bits .or .u32 (Go.bits .andNot .u32 a0 (shl .u32 t114 a1)) (Go.bits .and .u32 (shl .u32 a3 a1) (shl .u32 t114 a1)))) else (none))) = some r := by rw [if_neg (show ¬ (false = true) by decide)] at H; exact H
    clear H
    have H := H1
    clear H1
    replace H := Option.bind_eq_some_iff.mp H
    obtain ⟨t114, A70, H⟩ := H
    replace H : (if 0 ≤ a1 then (some (Go.bits .or .u32 (Go.bits .andNot .u32 a0 (shl .u32 t114 a1)) (Go.bits .and .u32 (shl .u32 a3 a1) (shl .u32 t114 a1)))) else (none)) = some r := H
    have A7 := Aside0.mk A70
    clear A70
    by_cases c8 : 0 ≤ a1
    · rw [if_pos c8] at H
      have c8b0 := eq_true c8
      have c8b1 : decide (0 ≤ a1) = true := decide_eq_true c8
      clear c8
      obtain ⟨ji9, hji9⟩ : ∃ j_ : Int, (shl .u32 t114 a1) = j_ := ⟨_, rfl⟩
      replace H : (some (Go.bits .or .u32 (Go.bits .andNot .u32 a0 (ji9)) (Go.bits .and .u32 (shl .u32 a3 a1) (ji9)))) = some r := by first | (rw [hji9] at H; exact H) | (simp only [hji9] at H ⊢; exact H)
      (try rw [hji9] at A5)
      (try rw [hji9] at A7)
      have hji9_ : (IntKind.u32.wrap (t114 * 2 ^ min a1.toNat 32)) = ji9 := hji9
      have hji9z : a1 ≤ 32 → (IntKind.u32.wrap (t114 * 2 ^ a1.toNat)) = ji9 := shl_small hji9
      have c10b0 := eq_true (of_decide_eq_true (by first | (with_reducible assumption) | assumption) : 0 ≤ a1)
      obtain ⟨ji11, hji11⟩ : ∃ j_ : Int, (shl .u32 a3 a1) = j_ := ⟨_, rfl⟩
      replace H : (some (Go.bits .or .u32 (Go.bits .andNot .u32 a0 (ji9)) (Go.bits .and .u32 (ji11) (ji9)))) = some r := by first | (rw [hji11] at H; exact H) | (simp only [hji11] at H ⊢; exact H)
      (try rw [hji11] at A5)
      (try rw [hji11] at A7)
      have hji11_ : (IntKind.u32.wrap (a3 * 2 ^ min a1.toNat 32)) = ji11 := hji11
      have hji11z : a1 ≤ 32 → (IntKind.u32.wrap (a3 * 2 ^ a1.toNat)) = ji11 := shl_small hji11
      obtain rfl := Option.some.inj H
      go_enter Try.func28, Try.ntmps28
      go_wp2_with (first | ((with_reducible refine gate_callee (f := 30) rfl ?_); refine goesL_ (some 12) rfl rfl Try.func30 (by kernel_rfl) rfl #[.int .i64 a1, .int .i64 a2] rfl (by (try simp only [List.map_toArray, List.map_cons, List.map_nil]); first | done | rfl | (simp only [List.length_drop, List.length_take]; rfl)) ?_; (with_reducible refine (bits_outside.calls a1 a2 false _ A5.out).mono ?_); rintro e w' ⟨rfl, ⟨nd, rfl⟩⟩; refine ⟨_, rfl, ?_⟩) | ((with_reducible refine gate_callee (f := 31) rfl ?_); refine goesL_ (some 15) rfl rfl Try.func31 (by kernel_rfl) rfl #[.int .i64 a2] rfl (by (try simp only [List.map_toArray, List.map_cons, List.map_nil]); first | done | rfl | (simp only [List.length_drop, List.length_take]; rfl)) ?_; (with_reducible refine (bits_mask.calls a2 t114 _ A7.out).mono ?_); rintro e w' ⟨rfl, ⟨nd, rfl⟩⟩; refine ⟨_, rfl, ?_⟩))
      go_ret
      exact ⟨by first | rfl | (simp; done) | (simp only [← hji9, ← hji11] <;> (first | rfl | simp)) | (simp [*]; done), by repeat (first | exact Drawn0.refl _ | apply Drawn0.step)⟩
    · rw [if_neg c8] at H
      exact absurd H (by simp)

/-! ### vmfleetref1_SetField: function 29 -/
def vmfleetref1_SetField.j0 : Nat → Int → Int → Int → Int → Bool → Option (Int)
  | 0, _, _, _, _, _ => none
  | k + 1, x0, x1, x2, x3, x19 => if x19 = true then (some x0) else (if x2 < 32 then (if 0 ≤ (IntKind.u64.wrap (x2)) then (if 0 ≤ (IntKind.u64.wrap (x1)) then (some (Go.bits .or .u32 (Go.bits .andNot .u32 x0 (shl .u32 (((shl .u32 1 (IntKind.u64.wrap (x2))) - 1) % 4294967296) (IntKind.u64.wrap (x1)))) (Go.bits .and .u32 (shl .u32 x3 (IntKind.u64.wrap (x1))) (shl .u32 (((shl .u32 1 (IntKind.u64.wrap (x2))) - 1) % 4294967296) (IntKind.u64.wrap (x1)))))) else (none)) else (none)) else (if 0 ≤ (IntKind.u64.wrap (x1)) then (some (Go.bits .or .u32 (Go.bits .andNot .u32 x0 (shl .u32 4294967295 (IntKind.u64.wrap (x1)))) (Go.bits .and .u32 (shl .u32 x3 (IntKind.u64.wrap (x1))) (shl .u32 4294967295 (IntKind.u64.wrap (x1)))))) else (none)))
def vmfleetref1_SetField.f (k : Nat) (a0 : Int) (a1 : Int) (a2 : Int) (a3 : Int) : Option (Int) := if a1 < 0 then (vmfleetref1_SetField.j0 k a0 a1 a2 a3 true) else (if a1 > 31 then (vmfleetref1_SetField.j0 k a0 a1 a2 a3 true) else (vmfleetref1_SetField.j0 k a0 a1 a2 a3 (decide (a2 < 1))))
theorem vmfleetref1_SetField.mono_l : ∀ k, (∀ y0 y1 y2 y3 y4, LeO (vmfleetref1_SetField.j0 k y0 y1 y2 y3 y4) (vmfleetref1_SetField.j0 (k + 1) y0 y1 y2 y3 y4))
  | 0 => fun _ _ _ _ _ r h => by simp [vmfleetref1_SetField.j0] at h
  | k + 1 => by
    have ih0 := vmfleetref1_SetField.mono_l k
    · intro y0 y1 y2 y3 y4
      unfold vmfleetref1_SetField.j0
      repeat' first
      | (with_reducible exact ih0 _ _ _ _ _)
      | (with_reducible exact LeO.refl _)
      | (with_reducible exact LeO.none _)
      | (with_reducible refine LeO.ite ?_ ?_)
      | (with_reducible refine LeO.bind ?_ (fun _ => ?_))
      | exact ih0 _ _ _ _ _
      | exact LeO.none _
      | refine LeO.ite ?_ ?_
      | refine LeO.bind ?_ (fun _ => ?_)
theorem vmfleetref1_SetField.mono : ∀ a0 a1 a2 a3 k, LeO (vmfleetref1_SetField.f k a0 a1 a2 a3) (vmfleetref1_SetField.f (k + 1) a0 a1 a2 a3) := by
  intro a0 a1 a2 a3 k
  have ih0 := vmfleetref1_SetField.mono_l k
  unfold vmfleetref1_SetField.f
  repeat' first
      | (with_reducible exact ih0 _ _ _ _ _)
      | (with_reducible exact LeO.refl _)
      | (with_reducible exact LeO.none _)
      | (with_reducible refine LeO.ite ?_ ?_)
      | (with_reducible refine LeO.bind ?_ (fun _ => ?_))
      | exact ih0 _ _ _ _ _
      | exact LeO.none _
      | refine LeO.ite ?_ ?_
      | refine LeO.bind ?_ (fun _ => ?_)
set_option maxHeartbeats 8000000 in
set_option maxRecDepth 100000 in
theorem vmfleetref1_SetField.calls (k : Nat) (a0 : Int) (a1 : Int) (a2 : Int) (a3 : Int) (r : Int) (w : World) (h : vmfleetref1_SetField.f k a0 a1 a2 a3 = some r) :
    Calls Try.prog 29 #[.int .u32 a0, .int .i64 a1, .int .i64 a2, .int .u32 a3] w fun e w' => e = .returned (.int .u32 r) ∧ Drawn0 w w' := by
  have H : (if a1 < 0 then (vmfleetref1_SetField.j0 k a0 a1 a2 a3 true) else (if a1 > 31 then (vmfleetref1_SetField.j0 k a0 a1 a2 a3 true) else (vmfleetref1_SetField.j0 k a0 a1 a2 a3 (decide (a2 < 1))))) = some r := h
  clear h
  have HC5 := Aside0.mk H
  clear H
  go_enter Try.func29, Try.ntmps29
  go_upto_region 1 with (fail)
  go_cut [19] (fun v19 wc => ∃ (kq : Nat) (x19_4 : Bool), v19 = .bool x19_4 ∧ Aside0 (vmfleetref1_SetField.j0 kq a0 a1 a2 a3 x19_4 = some r) ∧ Aside0 (kq ≤ k) ∧ Drawn0 w wc)
  case first =>
    have H := HC5.out
    clear HC5
    by_cases c6 : a1 < 0
    · rw [if_pos c6] at H
      have c6b0 : decide (a1 < 0) = true := decide_eq_true c6
      clear c6
      (first | rw [c6b0] | (simp only [i64_w, i32_w]; rw [c6b0]) | skip)
      have H' := Aside0.mk H
      clear H
      go_wp2
      go_meet
      case rel => exact ⟨_, (true), (by first | rfl | (simp; done) | (simp [*]; done)), H', ⟨by first | omega | exact Nat.le_refl _⟩, by repeat (first | exact Drawn0.refl _ | apply Drawn0.step)⟩
    · rw [if_neg c6] at H
      have c6b0 : decide (a1 < 0) = false := decide_eq_false c6
      clear c6
      (first | rw [c6b0] | (simp only [i64_w, i32_w]; rw [c6b0]) | skip)
      by_cases c7 : a1 > 31
      · rw [if_pos c7] at H
        have c7b0 : decide (31 < a1) = true := decide_eq_true c7
        clear c7
        have H' := Aside0.mk H
        clear H
        go_wp2
        go_meet
        case rel => exact ⟨_, (true), (by first | rfl | (simp; done) | (simp [*]; done)), H', ⟨by first | omega | exact Nat.le_refl _⟩, by repeat (first | exact Drawn0.refl _ | apply Drawn0.step)⟩
      · rw [if_neg c7] at H
        have c7b0 : decide (31 < a1) = false := decide_eq_false c7
        clear c7
        have H' := Aside0.mk H
        clear H
        go_wp2
        go_meet
        case rel => exact ⟨_, (decide (a2 < 1)), (by first | rfl | (simp; done) | (simp [*]; done)), H', ⟨by first | omega | exact Nat.le_refl _⟩, by repeat (first | exact Drawn0.refl _ | apply Drawn0.step)⟩
  case rest =>
    clear HC5
    try clear c2
    try clear p2
    try clear c6
    try clear c6b0
    try clear c7
    try clear c7b0
    obtain ⟨kq, x19_4, rfl, HA, HJ4, ⟨mc4, rfl⟩⟩ := hcut
    cases kq with
    | zero => exact absurd HA.out (by simp [vmfleetref1_SetField.j0])
    | succ kj4 =>
      have H := HA.out
      clear HA
      simp only [vmfleetref1_SetField.j0] at H
      by_cases c8 : x19_4 = true
      · subst c8
        have H1 : (some a0) = some r := by rw [if_pos rfl] at H; exact H
        clear H
        have H := H1
        clear H1
        obtain rfl := Option.some.inj H
        go_wp2
        go_ret
        exact ⟨by first | rfl | (simp; done) | (simp [*]; done), by repeat (first | exact Drawn0.refl _ | apply Drawn0.step)⟩
      · replace c8 := Bool.eq_false_iff.mpr c8
        subst c8
        have H1 : (if a2 < 32 then (if 0 ≤ (IntKind.u64.wrap (a2)) then (if 0 ≤ (IntKind.u64.wrap (a1)) then (some (Go.bits .or .u32 (Go.bits .andNot .u32 a0 (shl .u32 (((shl .u32 1 (IntKind.u64.wrap (a2))) - 1) % 4294967296) (IntKind.u64.wrap (a1)))) (Go.bits .and .u32 (shl .u32 a3 (IntKind.u64.wrap (a1))) (shl .u32 (((shl .u32 1 (IntKind.u64.wrap (a2))) - 1) % 4294967296) (IntKind.u64.wrap (a1)))))) else (none)) else (none)) else (if 0 ≤ (IntKind.u64.wrap (a1)) then (some (Go.bits .or .u32 (Go.bits .andNot .u32 a0 (shl .u32 4294967295 (IntKind.u64.wrap (a1)))) (Go.bits .and .u32 (shl .u32 a3 (IntKind.u64.wrap (a1))) (shl .u32 4294967295 (IntKind.u64.wrap (a1)))))) else (none))) = some r := by rw [if_neg (show ¬ (false = true) by decide)] at H; exact H
        clear H
        have H := H1
        clear H1
        by_cases c9 : a2 < 32
        · rw [if_pos c9] at H
          have c9b0 : decide (a2 < 32) = true := decide_eq_true c9
          clear c9
          obtain ⟨ji10, hji10⟩ : ∃ j_ : Int, (IntKind.u64.wrap (a2)) = j_ := ⟨_, rfl⟩
          replace H : (if 0 ≤ (ji10) then (if 0 ≤ (IntKind.u64.wrap (a1)) then (some (Go.bits .or .u32 (Go.bits .andNot .u32 a0 (shl .u32 (((shl .u32 1 (ji10)) - 1) % 4294967296) (IntKind.u64.wrap (a1)))) (Go.bits .and .u32 (shl .u32 a3 (IntKind.u64.wrap (a1))) (shl .u32 (((shl .u32 1 (ji10)) - 1) % 4294967296) (IntKind.u64.wrap (a1)))))) else (none)) else (none)) = some r := by first | (rw [hji10] at H; exact H) | (simp only [hji10] at H ⊢; exact H)
          by_cases c11 : 0 ≤ (ji10)
          · rw [if_pos c11] at H
            have c11b0 := eq_true c11
            have c11b1 : decide (0 ≤ (ji10)) = true := decide_eq_true c11
            clear c11
            obtain ⟨ji12, hji12⟩ : ∃ j_ : Int, (shl .u32 1 (ji10)) = j_ := ⟨_, rfl⟩
            replace H : (if 0 ≤ (IntKind.u64.wrap (a1)) then (some (Go.bits .or .u32 (Go.bits .andNot .u32 a0 (shl .u32 (((ji12) - 1) % 4294967296) (IntKind.u64.wrap (a1)))) (Go.bits .and .u32 (shl .u32 a3 (IntKind.u64.wrap (a1))) (shl .u32 (((ji12) - 1) % 4294967296) (IntKind.u64.wrap (a1)))))) else (none)) = some r := by first | (rw [hji12] at H; exact H) | (simp only [hji12] at H ⊢; exact H)
            have hji12_ : (IntKind.u32.wrap (1 * 2 ^ min (ji10).toNat 32)) = ji12 := hji12
            have hji12z : (ji10) ≤ 32 → (IntKind.u32.wrap (1 * 2 ^ (ji10).toNat)) = ji12 := shl_small hji12
            have hji12u : (IntKind.u32.wrap (2 ^ min (ji10).toNat 32)) = ji12 := by have h_ := hji12_; rw [Int.one_mul] at h_; exact h_
            have hji12v : (ji10) ≤ 32 → (IntKind.u32.wrap (2 ^ (ji10).toNat)) = ji12 := fun hle_ => by have h_ := hji12z hle_; rw [Int.one_mul] at h_; exact h_
            obtain ⟨ji13, hji13⟩ : ∃ j_ : Int, (IntKind.u64.wrap (a1)) = j_ := ⟨_, rfl⟩
            replace H : (if 0 ≤ (ji13) then (some (Go.bits .or .u32 (Go.bits .andNot .u32 a0 (shl .u32 (((ji12) - 1) % 4294967296) (ji13))) (Go.bits .and .u32 (shl .u32 a3 (ji13)) (shl .u32 (((ji12) - 1) % 4294967296) (ji13))))) else (none)) = some r := by first | (rw [hji13] at H; exact H) | (simp only [hji13] at H ⊢; exact H)
            by_cases c14 : 0 ≤ (ji13)
            · rw [if_pos c14] at H
              have c14b0 := eq_true c14
              have c14b1 : decide (0 ≤ (ji13)) = true := decide_eq_true c14
              clear c14
              obtain ⟨ji15, hji15⟩ : ∃ j_ : Int, (shl .u32 (((ji12) - 1) % 4294967296) (ji13)) = j_ := ⟨_, rfl⟩
              replace H : (some (Go.bits .or .u32 (Go.bits .andNot .u32 a0 (ji15)) (Go.bits .and .u32 (shl .u32 a3 (ji13)) (ji15)))) = some r := by first | (rw [hji15] at H; exact H) | (simp only [hji15] at H ⊢; exact H)
              have hji15_ : (IntKind.u32.wrap ((((ji12) - 1) % 4294967296) * 2 ^ min (ji13).toNat 32)) = ji15 := hji15
              have hji15z : (ji13) ≤ 32 → (IntKind.u32.wrap ((((ji12) - 1) % 4294967296) * 2 ^ (ji13).toNat)) = ji15 := shl_small hji15
              have c16b0 := eq_true (of_decide_eq_true (by first | (with_reducible assumption) | assumption) : 0 ≤ (ji13))
              obtain ⟨ji17, hji17⟩ : ∃ j_ : Int, (shl .u32 a3 (ji13)) = j_ := ⟨_, rfl⟩
              replace H : (some (Go.bits .or .u32 (Go.bits .andNot .u32 a0 (ji15)) (Go.bits .and .u32 (ji17) (ji15)))) = some r := by first | (rw [hji17] at H; exact H) | (simp only [hji17] at H ⊢; exact H)
              have hji17_ : (IntKind.u32.wrap (a3 * 2 ^ min (ji13).toNat 32)) = ji17 := hji17
              have hji17z : (ji13) ≤ 32 → (IntKind.u32.wrap (a3 * 2 ^ (ji13).toNat)) = ji17 := shl_small hji17
              obtain rfl := Option.some.inj H
              go_wp2
              go_ret
              exact ⟨by first | rfl | (simp; done) | (simp only [← hji10, ← hji12, ← hji13, ← hji15, ← hji17] <;> (first | rfl | simp)) | (simp [*]; done), by repeat (first | exact Drawn0.refl _ | apply Drawn0.step)⟩
            · rw [if_neg c14] at H
              exact absurd H (by simp)
          · rw [if_neg c11] at H
            exact absurd H (by simp)
        · rw [if_neg c9] at H
          have c9b0 : decide (a2 < 32) = false := decide_eq_false c9
          clear c9
          obtain ⟨ji18, hji18⟩ : ∃ j_ : Int, (IntKind.u64.wrap (a1)) = j_ := ⟨_, rfl⟩
          replace H : (if 0 ≤ (ji18) then (some (Go.bits .or .u32 (Go.bits .andNot .u32 a0 (shl .u32 4294967295 (ji18))) (Go.bits .and .u32 (shl .u32 a3 (ji18)) (shl .u32 4294967295 (ji18))))) else (none)) = some r := by first | (rw [hji18] at H; exact H) | (simp only [hji18] at H ⊢; exact H)
          by_cases c19 : 0 ≤ (ji18)
          · rw [if_pos c19] at H
            have c19b0 := eq_true c19
            have c19b1 : decide (0 ≤ (ji18)) = true := decide_eq_true c19
            clear c19
            obtain ⟨ji20, hji20⟩ : ∃ j_ : Int, (shl .u32 4294967295 (ji18)) = j_ := ⟨_, rfl⟩
            replace H : (some (Go.bits .or .u32 (Go.bits .andNot .u32 a0 (ji20)) (Go.bits .and .u32 (shl .u32 a3 (ji18)) (ji20)))) = some r := by first | (rw [hji20] at H; exact H) | (simp only [hji20] at H ⊢; exact H)
            have hji20_ : (IntKind.u32.wrap (4294967295 * 2 ^ min (ji18).toNat 32)) = ji20 := hji20
            have hji20z : (ji18) ≤ 32 → (IntKind.u32.wrap (4294967295 * 2 ^ (ji18).toNat)) = ji20 := shl_small hji20
            have c21b0 := eq_true (of_decide_eq_true (by first | (with_reducible assumption) | assumption) : 0 ≤ (ji18))
            obtain ⟨ji22, hji22⟩ : ∃ j_ : Int, (shl .u32 a3 (ji18)) = j_ := ⟨_, rfl⟩
            replace H : (some (Go.bits .or .u32 (Go.bits .andNot .u32 a0 (ji20)) (Go.bits .and .u32 (ji22) (ji20)))) = some r := by first | (rw [hji22] at H; exact H) | (simp only [hji22] at H ⊢; exact H)
            have hji22_ : (IntKind.u32.wrap (a3 * 2 ^ min (ji18).toNat 32)) = ji22 := hji22
            have hji22z : (ji18) ≤ 32 → (IntKind.u32.wrap (a3 * 2 ^ (ji18).toNat)) = ji22 := shl_small hji22
            obtain rfl := Option.some.inj H
            go_wp2
            go_ret
            exact ⟨by first | rfl | (simp; done) | (simp only [← hji18, ← hji20, ← hji22] <;> (first | rfl | simp)) | (simp [*]; done), by repeat (first | exact Drawn0.refl _ | apply Drawn0.step)⟩
          · rw [if_neg c19] at H
            exact absurd H (by simp)

/-! ### vmfleetlaw1_BitsFields: function 11 -/
def vmfleetlaw1_BitsFields.f (k : Nat) (a0 : Int) (a1 : Int) (a2 : Int) (a3 : Int) : Option (Bool) := (bits_SignExtend.f a0 a3).bind fun t115 => ((vmfleetref1_SignExtend.f a0 a3).bind fun t116 => (if t115 = t116 then ((bits_Field.f a0 a2 a3).bind fun t117 => ((vmfleetref1_Field.f k a0 a2 a3).bind fun t118 => (if t117 = t118 then ((bits_SetField.f a0 a2 a3 a1).bind fun t119 => ((vmfleetref1_SetField.f k a0 a2 a3 a1).bind fun t120 => (if t119 = t120 then ((vmfleetlaw1_awake.f k).bind fun t121 => (some t121)) else (some false)))) else (some false)))) else (some false)))
theorem vmfleetlaw1_BitsFields.mono : ∀ a0 a1 a2 a3 k, LeO (vmfleetlaw1_BitsFields.f k a0 a1 a2 a3) (vmfleetlaw1_BitsFields.f (k + 1) a0 a1 a2 a3) := by
  intro a0 a1 a2 a3 k
  unfold vmfleetlaw1_BitsFields.f
  repeat' first
      | (with_reducible exact vmfleetlaw1_awake.mono _)
      | (with_reducible exact vmfleetref1_Field.mono _ _ _ _)
      | (with_reducible exact vmfleetref1_SetField.mono _ _ _ _ _)
      | (with_reducible exact LeO.refl _)
      | (with_reducible exact LeO.none _)
      | (with_reducible refine LeO.ite ?_ ?_)
      | (with_reducible refine LeO.bind ?_ (fun _ => ?_))
      | exact vmfleetlaw1_awake.mono _
      | exact vmfleetref1_Field.mono _ _ _ _
      | exact vmfleetref1_SetField.mono _ _ _ _ _
      | exact LeO.none _
      | refine LeO.ite ?_ ?_
      | refine LeO.bind ?_ (fun _ => ?_)
set_option maxHeartbeats 8000000 in
set_option maxRecDepth 100000 in
theorem vmfleetlaw1_BitsFields.calls (k : Nat) (a0 : Int) (a1 : Int) (a2 : Int) (a3 : Int) (r : Bool) (w : World) (h : vmfleetlaw1_BitsFields.f k a0 a1 a2 a3 = some r) :
    Calls Try.prog 11 #[.int .u32 a0, .int .u32 a1, .int .i64 a2, .int .i64 a3] w fun e w' => e = .returned (.bool r) ∧ Below w.heap.size w w' := by
  have HB := Aside0.mk (Below.refl w.heap.size w)
  have H : ((bits_SignExtend.f a0 a3).bind fun t115 => ((vmfleetref1_SignExtend.f a0 a3).bind fun t116 => (if t115 = t116 then ((bits_Field.f a0 a2 a3).bind fun t117 => ((vmfleetref1_Field.f k a0 a2 a3).bind fun t118 => (if t117 = t118 then ((bits_SetField.f a0 a2 a3 a1).bind fun t119 => ((vmfleetref1_SetField.f k a0 a2 a3 a1).bind fun t120 => (if t119 = t120 then ((vmfleetlaw1_awake.f k).bind fun t121 => (some t121)) else (some false)))) else (some false)))) else (some false)))) = some r := h
  clear h
  replace H := Option.bind_eq_some_iff.mp H
  obtain ⟨t115, A50, H⟩ := H
  replace H : ((vmfleetref1_SignExtend.f a0 a3).bind fun t116 => (if t115 = t116 then ((bits_Field.f a0 a2 a3).bind fun t117 => ((vmfleetref1_Field.f k a0 a2 a3).bind fun t118 => (if t117 = t118 then ((bits_SetField.f a0 a2 a3 a1).bind fun t119 => ((vmfleetref1_SetField.f k a0 a2 a3 a1).bind fun t120 => (if t119 = t120 then ((vmfleetlaw1_awake.f k).bind fun t121 => (some t121)) else (some false)))) else (some false)))) else (some false))) = some r := H
  have A5 := Aside0.mk A50
  clear A50
  replace H := Option.bind_eq_some_iff.mp H
  obtain ⟨t116, A60, H⟩ := H
  replace H : (if t115 = t116 then ((bits_Field.f a0 a2 a3).bind fun t117 => ((vmfleetref1_Field.f k a0 a2 a3).bind fun t118 => (if t117 = t118 then ((bits_SetField.f a0 a2 a3 a1).bind fun t119 => ((vmfleetref1_SetField.f k a0 a2 a3 a1).bind fun t120 => (if t119 = t120 then ((vmfleetlaw1_awake.f k).bind fun t121 => (some t121)) else (some false)))) else (some false)))) else (some false)) = some r := H
  have A6 := Aside0.mk A60
  clear A60
  by_cases c7 : t115 = t116
  · rw [if_pos c7] at H
    have c7b0 : (t115 == t116) = true := beq_iff_eq.mpr c7
    have c7b1 : (t115 != t116) = false := bne_eq_false_iff_eq.mpr c7
    clear c7
    replace H := Option.bind_eq_some_iff.mp H
    obtain ⟨t117, A80, H⟩ := H
    replace H : ((vmfleetref1_Field.f k a0 a2 a3).bind fun t118 => (if t117 = t118 then ((bits_SetField.f a0 a2 a3 a1).bind fun t119 => ((vmfleetref1_SetField.f k a0 a2 a3 a1).bind fun t120 => (if t119 = t120 then ((vmfleetlaw1_awake.f k).bind fun t121 => (some t121)) else (some false)))) else (some false))) = some r := H
    have A8 := Aside0.mk A80
    clear A80
    replace H := Option.bind_eq_some_iff.mp H
    obtain ⟨t118, A90, H⟩ := H
    replace H : (if t117 = t118 then ((bits_SetField.f a0 a2 a3 a1).bind fun t119 => ((vmfleetref1_SetField.f k a0 a2 a3 a1).bind fun t120 => (if t119 = t120 then ((vmfleetlaw1_awake.f k).bind fun t121 => (some t121)) else (some false)))) else (some false)) = some r := H
    have A9 := Aside0.mk A90
    clear A90
    by_cases c10 : t117 = t118
    · rw [if_pos c10] at H
      have c10b0 : (t117 == t118) = true := beq_iff_eq.mpr c10
      have c10b1 : (t117 != t118) = false := bne_eq_false_iff_eq.mpr c10
      clear c10
      replace H := Option.bind_eq_some_iff.mp H
      obtain ⟨t119, A110, H⟩ := H
      replace H : ((vmfleetref1_SetField.f k a0 a2 a3 a1).bind fun t120 => (if t119 = t120 then ((vmfleetlaw1_awake.f k).bind fun t121 => (some t121)) else (some false))) = some r := H
      have A11 := Aside0.mk A110
      clear A110
      replace H := Option.bind_eq_some_iff.mp H
      obtain ⟨t120, A120, H⟩ := H
      replace H : (if t119 = t120 then ((vmfleetlaw1_awake.f k).bind fun t121 => (some t121)) else (some false)) = some r := H
      have A12 := Aside0.mk A120
      clear A120
      by_cases c13 : t119 = t120
      · rw [if_pos c13] at H
        have c13b0 : (t119 == t120) = true := beq_iff_eq.mpr c13
        have c13b1 : (t119 != t120) = false := bne_eq_false_iff_eq.mpr c13
        clear c13
        replace H := Option.bind_eq_some_iff.mp H
        obtain ⟨t121, A140, H⟩ := H
        replace H : (some t121) = some r := H
        have A14 := Aside0.mk A140
        clear A140
        obtain rfl := Option.some.inj H
        go_enter Try.func11, Try.ntmps11
        go_wp2_with (first | ((with_reducible refine gate_callee (f := 24) rfl ?_); refine goesL_ (some 11) rfl rfl Try.func24 (by kernel_rfl) rfl #[.int .u32 a0, .int .i64 a3] rfl (by (try simp only [List.map_toArray, List.map_cons, List.map_nil]); first | done | rfl | (simp only [List.length_drop, List.length_take]; rfl)) ?_; (with_reducible refine (bits_SignExtend.calls a0 a3 t115 _ A5.out).mono ?_); rintro e w' ⟨rfl, ⟨nd, rfl⟩⟩; refine ⟨_, rfl, ?_⟩) | ((with_reducible refine gate_callee (f := 26) rfl ?_); refine goesL_ (some 14) rfl rfl Try.func26 (by kernel_rfl) rfl #[.int .u32 a0, .int .i64 a3] rfl (by (try simp only [List.map_toArray, List.map_cons, List.map_nil]); first | done | rfl | (simp only [List.length_drop, List.length_take]; rfl)) ?_; (with_reducible refine (vmfleetref1_SignExtend.calls a0 a3 t116 _ A6.out).mono ?_); rintro e w' ⟨rfl, ⟨nd, rfl⟩⟩; refine ⟨_, rfl, ?_⟩) | (go_at_call 25; (with_reducible refine (bits_Field.calls a0 a2 a3 t117 _ A8.out).mono ?_); rintro e w' ⟨rfl, ⟨nd, rfl⟩⟩) | (go_at_call 27; (with_reducible refine (vmfleetref1_Field.calls k a0 a2 a3 t118 _ A9.out).mono ?_); rintro e w' ⟨rfl, ⟨nd, rfl⟩⟩) | (go_at_call 28; (with_reducible refine (bits_SetField.calls a0 a2 a3 a1 t119 _ A11.out).mono ?_); rintro e w' ⟨rfl, ⟨nd, rfl⟩⟩) | (go_at_call 29; (with_reducible refine (vmfleetref1_SetField.calls k a0 a2 a3 a1 t120 _ A12.out).mono ?_); rintro e w' ⟨rfl, ⟨nd, rfl⟩⟩) | (go_at_call 15; (with_reducible refine (vmfleetlaw1_awake.calls k  t121 _ A14.out).mono ?_); rintro e w15 ⟨rfl, hb⟩; have n0_ := Aside0.mk (below_step (by repeat (first | (with_reducible first | exact HB.out | apply below_alloc | apply pw_below_drewN | apply below_drew1) | exact HB.out)) hb); clear HB; have HB := n0_; clear n0_; (try clear hb); (try clear hb2); (try clear hk); (try clear hi)))
        go_ret
        exact ⟨by first | rfl | (simp [errW_none, errW_some] <;> rfl) | (simp [*, errW_none, errW_some] <;> rfl), by repeat (first | (with_reducible first | exact HB.out | apply below_alloc | apply pw_below_drewN | apply below_drew1) | exact HB.out)⟩
      · rw [if_neg c13] at H
        have c13b0 : (t119 == t120) = false := beq_eq_false_iff_ne.mpr c13
        have c13b1 : (t119 != t120) = true := bne_iff_ne.mpr c13
        obtain rfl := Option.some.inj H
        go_enter Try.func11, Try.ntmps11
        go_wp2_with (first | ((with_reducible refine gate_callee (f := 24) rfl ?_); refine goesL_ (some 11) rfl rfl Try.func24 (by kernel_rfl) rfl #[.int .u32 a0, .int .i64 a3] rfl (by (try simp only [List.map_toArray, List.map_cons, List.map_nil]); first | done | rfl | (simp only [List.length_drop, List.length_take]; rfl)) ?_; (with_reducible refine (bits_SignExtend.calls a0 a3 t115 _ A5.out).mono ?_); rintro e w' ⟨rfl, ⟨nd, rfl⟩⟩; refine ⟨_, rfl, ?_⟩) | ((with_reducible refine gate_callee (f := 26) rfl ?_); refine goesL_ (some 14) rfl rfl Try.func26 (by kernel_rfl) rfl #[.int .u32 a0, .int .i64 a3] rfl (by (try simp only [List.map_toArray, List.map_cons, List.map_nil]); first | done | rfl | (simp only [List.length_drop, List.length_take]; rfl)) ?_; (with_reducible refine (vmfleetref1_SignExtend.calls a0 a3 t116 _ A6.out).mono ?_); rintro e w' ⟨rfl, ⟨nd, rfl⟩⟩; refine ⟨_, rfl, ?_⟩) | (go_at_call 25; (with_reducible refine (bits_Field.calls a0 a2 a3 t117 _ A8.out).mono ?_); rintro e w' ⟨rfl, ⟨nd, rfl⟩⟩) | (go_at_call 27; (with_reducible refine (vmfleetref1_Field.calls k a0 a2 a3 t118 _ A9.out).mono ?_); rintro e w' ⟨rfl, ⟨nd, rfl⟩⟩) | (go_at_call 28; (with_reducible refine (bits_SetField.calls a0 a2 a3 a1 t119 _ A11.out).mono ?_); rintro e w' ⟨rfl, ⟨nd, rfl⟩⟩) | (go_at_call 29; (with_reducible refine (vmfleetref1_SetField.calls k a0 a2 a3 a1 t120 _ A12.out).mono ?_); rintro e w' ⟨rfl, ⟨nd, rfl⟩⟩))
        go_ret
        exact ⟨by first | rfl | (simp [errW_none, errW_some] <;> rfl) | (simp [*, errW_none, errW_some] <;> rfl), by repeat (first | (with_reducible first | exact HB.out | apply below_alloc | apply pw_below_drewN | apply below_drew1) | exact HB.out)⟩
    · rw [if_neg c10] at H
      have c10b0 : (t117 == t118) = false := beq_eq_false_iff_ne.mpr c10
      have c10b1 : (t117 != t118) = true := bne_iff_ne.mpr c10
      obtain rfl := Option.some.inj H
      go_enter Try.func11, Try.ntmps11
      go_wp2_with (first | ((with_reducible refine gate_callee (f := 24) rfl ?_); refine goesL_ (some 11) rfl rfl Try.func24 (by kernel_rfl) rfl #[.int .u32 a0, .int .i64 a3] rfl (by (try simp only [List.map_toArray, List.map_cons, List.map_nil]); first | done | rfl | (simp only [List.length_drop, List.length_take]; rfl)) ?_; (with_reducible refine (bits_SignExtend.calls a0 a3 t115 _ A5.out).mono ?_); rintro e w' ⟨rfl, ⟨nd, rfl⟩⟩; refine ⟨_, rfl, ?_⟩) | ((with_reducible refine gate_callee (f := 26) rfl ?_); refine goesL_ (some 14) rfl rfl Try.func26 (by kernel_rfl) rfl #[.int .u32 a0, .int .i64 a3] rfl (by (try simp only [List.map_toArray, List.map_cons, List.map_nil]); first | done | rfl | (simp only [List.length_drop, List.length_take]; rfl)) ?_; (with_reducible refine (vmfleetref1_SignExtend.calls a0 a3 t116 _ A6.out).mono ?_); rintro e w' ⟨rfl, ⟨nd, rfl⟩⟩; refine ⟨_, rfl, ?_⟩) | (go_at_call 25; (with_reducible refine (bits_Field.calls a0 a2 a3 t117 _ A8.out).mono ?_); rintro e w' ⟨rfl, ⟨nd, rfl⟩⟩) | (go_at_call 27; (with_reducible refine (vmfleetref1_Field.calls k a0 a2 a3 t118 _ A9.out).mono ?_); rintro e w' ⟨rfl, ⟨nd, rfl⟩⟩))
      go_ret
      exact ⟨by first | rfl | (simp [errW_none, errW_some] <;> rfl) | (simp [*, errW_none, errW_some] <;> rfl), by repeat (first | (with_reducible first | exact HB.out | apply below_alloc | apply pw_below_drewN | apply below_drew1) | exact HB.out)⟩
  · rw [if_neg c7] at H
    have c7b0 : (t115 == t116) = false := beq_eq_false_iff_ne.mpr c7
    have c7b1 : (t115 != t116) = true := bne_iff_ne.mpr c7
    obtain rfl := Option.some.inj H
    go_enter Try.func11, Try.ntmps11
    go_wp2_with (first | ((with_reducible refine gate_callee (f := 24) rfl ?_); refine goesL_ (some 11) rfl rfl Try.func24 (by kernel_rfl) rfl #[.int .u32 a0, .int .i64 a3] rfl (by (try simp only [List.map_toArray, List.map_cons, List.map_nil]); first | done | rfl | (simp only [List.length_drop, List.length_take]; rfl)) ?_; (with_reducible refine (bits_SignExtend.calls a0 a3 t115 _ A5.out).mono ?_); rintro e w' ⟨rfl, ⟨nd, rfl⟩⟩; refine ⟨_, rfl, ?_⟩) | ((with_reducible refine gate_callee (f := 26) rfl ?_); refine goesL_ (some 14) rfl rfl Try.func26 (by kernel_rfl) rfl #[.int .u32 a0, .int .i64 a3] rfl (by (try simp only [List.map_toArray, List.map_cons, List.map_nil]); first | done | rfl | (simp only [List.length_drop, List.length_take]; rfl)) ?_; (with_reducible refine (vmfleetref1_SignExtend.calls a0 a3 t116 _ A6.out).mono ?_); rintro e w' ⟨rfl, ⟨nd, rfl⟩⟩; refine ⟨_, rfl, ?_⟩))
    go_ret
    exact ⟨by first | rfl | (simp [errW_none, errW_some] <;> rfl) | (simp [*, errW_none, errW_some] <;> rfl), by repeat (first | (with_reducible first | exact HB.out | apply below_alloc | apply pw_below_drewN | apply below_drew1) | exact HB.out)⟩

/-- THE ONE PURE STATEMENT of vmfleetlaw1_BitsFields: yours. -/
def vmfleetlaw1_BitsFields.Pure : Prop := ∀ (a0 : Int) (a1 : Int) (a2 : Int) (a3 : Int), (Lit.int .u32 a0).wf = true → (Lit.int .u32 a1).wf = true → (Lit.int .i64 a2).wf = true → (Lit.int .i64 a3).wf = true → ∃ k, vmfleetlaw1_BitsFields.f k a0 a1 a2 a3 = some true
theorem vmfleetlaw1_BitsFields.walk (P : vmfleetlaw1_BitsFields.Pure) (a0 : Int) (a1 : Int) (a2 : Int) (a3 : Int) (w : World) (w0 : (Lit.int .u32 a0).wf = true) (w1 : (Lit.int .u32 a1).wf = true) (w2 : (Lit.int .i64 a2).wf = true) (w3 : (Lit.int .i64 a3).wf = true) :
    Calls Try.prog 11 #[.int .u32 a0, .int .u32 a1, .int .i64 a2, .int .i64 a3] w fun e w' => e = .returned (.bool true) ∧ Below w.heap.size w w' := by
  obtain ⟨k, h⟩ := P a0 a1 a2 a3 w0 w1 w2 w3
  refine (vmfleetlaw1_BitsFields.calls k a0 a1 a2 a3 true w h).mono ?_
  rintro e w' ⟨rfl, hd⟩
  exact ⟨rfl, hd⟩

end Go.Proofs.Ytnpobmpdlcmipaa.PBitsFields
