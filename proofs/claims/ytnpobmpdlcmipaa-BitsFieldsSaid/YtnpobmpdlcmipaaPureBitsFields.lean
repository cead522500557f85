/- Proved: SignExtend, Field and SetField of package bits return what the reference returns, for all arguments. Conditions: none. -/
import Derived.Test.YtnpobmpdlcmipaaPBitsFieldsx2
import Derived.Test.YtnpobmpdlcmipaaBv
namespace Go.Proofs.Ytnpobmpdlcmipaa.Pure
open Go.RowKit Go.Proofs.Ytnpobmpdlcmipaa.PBitsFields Go.Proofs.YtnpobmpdlcmipaaW.PrintWords Go.Proofs.YtnpobmpdlcmipaaW.PrintLast Go.Proofs.Ytnpobmpdlcmipaa.Bv
set_option linter.unusedVariables false
set_option linter.unusedSimpArgs false

theorem awake_ends : vmfleetlaw1_awake.f 20 = some true := by kernel_rfl
theorem awake_more (k : Nat) (h : 20 ≤ k) : vmfleetlaw1_awake.f k = some true := at_rounds vmfleetlaw1_awake.mono h awake_ends
theorem w64 {n : Int} (h0 : -9223372036854775808 ≤ n) (h1 : n ≤ 9223372036854775807) : wrap64 n = n := by unfold wrap64; omega
theorem u64w {n : Int} (h0 : 0 ≤ n) (h1 : n ≤ 9223372036854775807) : IntKind.u64.wrap n = n := by
  have : IntKind.u64.wrap n = n % 18446744073709551616 := by simp [IntKind.wrap, IntKind.bits, IntKind.signed]
  rw [this]; omega
theorem outside_eq (low n : Int) : bits_outside.f low n = some (decide (low < 0 ∨ low > 31 ∨ n < 1)) := by
  unfold bits_outside.f
  by_cases h1 : low < 0
  · rw [if_pos h1]; simp [h1]
  · rw [if_neg h1]
    by_cases h2 : low > 31
    · rw [if_pos h2]; simp [h2]
    · rw [if_neg h2]; simp [h1]; omega
theorem mask_eq (n : Int) (h : 1 ≤ n) : bits_mask.f n = some (B (Mi n)) := by
  unfold bits_mask.f Mi
  split
  · rfl
  · rw [if_pos (by omega), mask_B n (by omega) (by omega)]
theorem Field_eq (x : BitVec 32) (low n : Int) : bits_Field.f (B x) low n = some (B (fieldv x low n)) := by
  unfold bits_Field.f fieldv
  rw [outside_eq]; simp only [Option.bind_some]
  by_cases h : low < 0 ∨ low > 31 ∨ n < 1
  · rw [if_pos (by simpa using h), if_pos h]; rfl
  · rw [if_neg (by simpa using h), if_neg h, if_pos (by omega), mask_eq n (by omega)]; simp only [Option.bind_some]
    rw [shr_B, and_B]
theorem SetField_eq (x : BitVec 32) (low n : Int) (v : BitVec 32) : bits_SetField.f (B x) low n (B v) = some (B (setv x low n v)) := by
  unfold bits_SetField.f setv
  rw [outside_eq]; simp only [Option.bind_some]
  by_cases h : low < 0 ∨ low > 31 ∨ n < 1
  · rw [if_pos (by simpa using h), if_pos h]
  · rw [if_neg (by simpa using h), if_neg h, mask_eq n (by omega)]; simp only [Option.bind_some]
    rw [if_pos (by omega), shl_B, shl_B, andNot_B, and_B, or_B]
theorem SignExtend_eq (x : BitVec 32) (n : Int) : bits_SignExtend.f (B x) n = some (B (sxv x n)) := by
  unfold bits_SignExtend.f sxv
  by_cases h : n < 1
  · rw [if_pos h, if_pos h]; rfl
  · rw [if_neg h, if_neg h]
    by_cases h2 : n ≥ 32
    · rw [if_pos h2, if_pos h2]
    · rw [if_neg h2, if_neg h2]
      have e : wrap64 (32 - n) = 32 - n := w64 (by omega) (by omega)
      rw [e, if_pos (by omega), shl_B, sar_B _ _ (by omega)]
      have : (32 - n).toNat = 32 - n.toNat := by omega
      rw [this]
theorem rSignExtend_eq (x : BitVec 32) (n : Int) : vmfleetref1_SignExtend.f (B x) n = some (B (sxv x n)) := by
  unfold vmfleetref1_SignExtend.f
  by_cases h : n < 1
  · rw [if_pos h]; unfold sxv; rw [if_pos h]; rfl
  · rw [if_neg h]
    by_cases h2 : n ≥ 32
    · rw [if_pos h2]; unfold sxv; rw [if_neg h, if_pos h2]
    · rw [if_neg h2, sx_ref x n (by omega) (by omega)]
      have e1 : IntKind.u64.wrap n = n := u64w (by omega) (by omega)
      have e2 : wrap64 (n - 1) = n - 1 := w64 (by omega) (by omega)
      have e3 : IntKind.u64.wrap (n - 1) = n - 1 := u64w (by omega) (by omega)
      rw [e1, e2, e3, if_pos (by omega), if_pos (by omega), mask_B n (by omega) (by omega), and_B, shr_B, full_B, shl_B, or_B]
      have e4 : (n - 1).toNat = n.toNat - 1 := by omega
      rw [e4]
      have e5 : (1 : Int) = B 1#32 := rfl
      rw [e5]; simp only [B_inj]
      split <;> rfl
theorem rField_eq (k : Nat) (hk : 1 ≤ k) (x : BitVec 32) (low n : Int) (h64 : n ≤ 9223372036854775807) : vmfleetref1_Field.f k (B x) low n = some (B (fieldv x low n)) := by
  obtain ⟨k, rfl⟩ : ∃ m, k = m + 1 := ⟨k - 1, by omega⟩
  have hj : ∀ b : Bool, b = decide (low < 0 ∨ low > 31 ∨ n < 1) → vmfleetref1_Field.j0 (k + 1) (B x) low n b = some (B (fieldv x low n)) := by
    intro b hb
    simp only [vmfleetref1_Field.j0]
    unfold fieldv
    by_cases h : low < 0 ∨ low > 31 ∨ n < 1
    · rw [if_pos (by simpa [hb] using h), if_pos h]; rfl
    · have h' : ¬ b = true := by simpa [hb] using h
      rw [if_neg h', if_neg h]
      have e1 : IntKind.u64.wrap low = low := u64w (by omega) (by omega)
      rw [e1, if_pos (by omega)]
      by_cases h2 : n < 32
      · have e2 : IntKind.u64.wrap n = n := u64w (by omega) (by omega)
        rw [if_pos h2, e2, if_pos (by omega), mask_B n (by omega) (by omega), shr_B, and_B]
        unfold Mi; rw [if_neg (by omega)]
      · rw [if_neg h2, shr_B]
        congr 2; apply ext; intro i hi
        rw [BitVec.getLsbD_and, Mi_bit]
        have : decide (i < 32) = true := by simpa using hi
        have h5 : decide ((i : Int) < n) = true := by simp; omega
        rw [this, h5]; simp
  unfold vmfleetref1_Field.f
  by_cases h1 : low < 0
  · rw [if_pos h1]; exact hj _ (by simp [h1])
  · rw [if_neg h1]
    by_cases h2 : low > 31
    · rw [if_pos h2]; exact hj _ (by simp [h2])
    · rw [if_neg h2]; exact hj _ (by simp [h1]; omega)
theorem rSetField_eq (k : Nat) (hk : 1 ≤ k) (x : BitVec 32) (low n : Int) (v : BitVec 32) (h64 : n ≤ 9223372036854775807) : vmfleetref1_SetField.f k (B x) low n (B v) = some (B (setv x low n v)) := by
  obtain ⟨k, rfl⟩ : ∃ m, k = m + 1 := ⟨k - 1, by omega⟩
  have hj : ∀ b : Bool, b = decide (low < 0 ∨ low > 31 ∨ n < 1) → vmfleetref1_SetField.j0 (k + 1) (B x) low n (B v) b = some (B (setv x low n v)) := by
    intro b hb
    simp only [vmfleetref1_SetField.j0]
    unfold setv
    by_cases h : low < 0 ∨ low > 31 ∨ n < 1
    · rw [if_pos (by simpa [hb] using h), if_pos h]
    · have h' : ¬ b = true := by simpa [hb] using h
      rw [if_neg h', if_neg h]
      have e1 : IntKind.u64.wrap low = low := u64w (by omega) (by omega)
      by_cases h2 : n < 32
      · have e2 : IntKind.u64.wrap n = n := u64w (by omega) (by omega)
        have e3 : Mi n = M n.toNat := by unfold Mi; rw [if_neg (by omega)]
        rw [if_pos h2, e1, e2, if_pos (by omega), if_pos (by omega), e3]
        simp only [mask_B n (by omega) (by omega), shl_B, andNot_B, and_B, or_B]
      · have e3 : Mi n = M 32 := by unfold Mi; rw [if_pos (by omega)]
        rw [if_neg h2, e1, if_pos (by omega), e3]
        simp only [full_B, shl_B, andNot_B, and_B, or_B]
  unfold vmfleetref1_SetField.f
  by_cases h1 : low < 0
  · rw [if_pos h1]; exact hj _ (by simp [h1])
  · rw [if_neg h1]
    by_cases h2 : low > 31
    · rw [if_pos h2]; exact hj _ (by simp [h2])
    · rw [if_neg h2]; exact hj _ (by simp [h1]; omega)

theorem BitsFields : vmfleetlaw1_BitsFields.Pure := by
  intro a0 a1 a2 a3 h0 h1 h2 h3
  obtain ⟨x, rfl⟩ := B_of a0 h0
  obtain ⟨v, rfl⟩ := B_of a1 h1
  have b3 := bounds_i64 h3
  refine ⟨20, ?_⟩
  unfold vmfleetlaw1_BitsFields.f
  rw [SignExtend_eq, rSignExtend_eq, Field_eq, rField_eq 20 (by omega) _ _ _ b3.2, SetField_eq, rSetField_eq 20 (by omega) _ _ _ _ b3.2, awake_ends]
  simp
end Go.Proofs.Ytnpobmpdlcmipaa.Pure
