/- Proved: sign extension keeps the low bits, repeats the sign bit above them, and is idempotent. Conditions: none. -/
import Derived.Test.YtnpobmpdlcmipaaPBitsSignsx2
import Derived.Test.YtnpobmpdlcmipaaBv
namespace Go.Proofs.Ytnpobmpdlcmipaa.Pure
open Go.RowKit Go.Proofs.Ytnpobmpdlcmipaa.PBitsSigns Go.Proofs.YtnpobmpdlcmipaaW.PrintWords Go.Proofs.YtnpobmpdlcmipaaW.PrintLast Go.Proofs.Ytnpobmpdlcmipaa.Bv
set_option linter.unusedVariables false
set_option linter.unusedSimpArgs false

theorem awake_ends : vmfleetlaw1_awake.f 20 = some true := by kernel_rfl
theorem awake_more (k : Nat) (h : 20 ≤ k) : vmfleetlaw1_awake.f k = some true := at_rounds vmfleetlaw1_awake.mono h awake_ends
theorem w64 {n : Int} (h0 : -9223372036854775808 ≤ n) (h1 : n ≤ 9223372036854775807) : wrap64 n = n := by unfold wrap64; omega
theorem u64w {n : Int} (h0 : 0 ≤ n) (h1 : n ≤ 9223372036854775807) : IntKind.u64.wrap n = n := by
  have : IntKind.u64.wrap n = n % 18446744073709551616 := by simp [IntKind.wrap, IntKind.bits, IntKind.signed]
  rw [this]; omega
theorem outside_eq (low n : Int) : bits_outside.f low n = some (decide (low < 0 ∨ low > 31 ∨ n < 1)) := by
  unfold bits_outside.f
  by_cases h1 : low < 0
  · rw [if_pos h1]; simp [h1]
  · rw [if_neg h1]
    by_cases h2 : low > 31
    · rw [if_pos h2]; simp [h2]
    · rw [if_neg h2]; simp [h1]; omega
theorem mask_eq (n : Int) (h : 1 ≤ n) : bits_mask.f n = some (B (Mi n)) := by
  unfold bits_mask.f Mi
  split
  · rfl
  · rw [if_pos (by omega), mask_B n (by omega) (by omega)]
theorem Field_eq (x : BitVec 32) (low n : Int) : bits_Field.f (B x) low n = some (B (fieldv x low n)) := by
  unfold bits_Field.f fieldv
  rw [outside_eq]; simp only [Option.bind_some]
  by_cases h : low < 0 ∨ low > 31 ∨ n < 1
  · rw [if_pos (by simpa using h), if_pos h]; rfl
  · rw [if_neg (by simpa using h), if_neg h, if_pos (by omega), mask_eq n (by omega)]; simp only [Option.bind_some]
    rw [shr_B, and_B]
theorem SignExtend_eq (x : BitVec 32) (n : Int) : bits_SignExtend.f (B x) n = some (B (sxv x n)) := by
  unfold bits_SignExtend.f sxv
  by_cases h : n < 1
  · rw [if_pos h, if_pos h]; rfl
  · rw [if_neg h, if_neg h]
    by_cases h2 : n ≥ 32
    · rw [if_pos h2, if_pos h2]
    · rw [if_neg h2, if_neg h2]
      have e : wrap64 (32 - n) = 32 - n := w64 (by omega) (by omega)
      rw [e, if_pos (by omega), shl_B, sar_B _ _ (by omega)]
      have : (32 - n).toNat = 32 - n.toNat := by omega
      rw [this]

theorem sign_bit (x : BitVec 32) (j : Int) (h0 : 0 ≤ j) (h1 : j ≤ 31) : fieldv x j 1 = if x.getLsbD j.toNat then 1#32 else 0#32 := by
  apply ext; intro i hi
  rw [field_bit _ _ _ h0 h1 (by omega) i hi]
  by_cases hz : i = 0
  · subst hz; simp only [Nat.add_zero]; cases x.getLsbD j.toNat <;> rfl
  · have e : decide ((i : Int) < 1) = false := by simp; omega
    rw [e]; cases x.getLsbD j.toNat
    · simp
    · have : (1#32).getLsbD i = false := by rw [BitVec.getLsbD_one]; simp [hz]
      simp [this]
theorem field_sx (x : BitVec 32) (n : Int) (h0 : 1 ≤ n) (h1 : n ≤ 32) (i : Int) (hi : n ≤ i) (hi2 : i < 32) : fieldv (sxv x n) i 1 = fieldv x (n - 1) 1 := by
  have hb : (sxv x n).getLsbD i.toNat = x.getLsbD (n.toNat - 1) := by rw [sx_bit x n h0 (by omega) i.toNat (by omega), if_neg (by omega)]
  have hn : (n - 1).toNat = n.toNat - 1 := by omega
  rw [sign_bit _ i (by omega) (by omega), sign_bit _ (n - 1) (by omega) (by omega), hb, hn]
theorem low_sx (x : BitVec 32) (n : Int) (h0 : 1 ≤ n) (h1 : n ≤ 32) : fieldv (sxv x n) 0 n = fieldv x 0 n := by
  by_cases h : n = 32
  · unfold sxv; rw [if_neg (by omega), if_pos (by omega)]
  · apply ext; intro i hi
    rw [field_bit _ _ _ (by omega) (by omega) h0 i hi, field_bit _ _ _ (by omega) (by omega) h0 i hi]
    by_cases h2 : (i : Int) < n
    · rw [sx_bit x n h0 (by omega) _ (by simpa using hi), if_pos (by simpa using h2)]
    · have e : decide ((i : Int) < n) = false := by simpa using h2
      rw [e]; rfl
theorem sx_sx (x : BitVec 32) (n : Int) (h0 : 1 ≤ n) (h1 : n ≤ 32) : sxv (sxv x n) n = sxv x n := by
  by_cases h : n = 32
  · unfold sxv; rw [if_neg (by omega), if_pos (by omega)]
  · apply ext; intro i hi
    rw [sx_bit _ n h0 (by omega) i hi]
    split
    · rfl
    · rename_i h2
      rw [sx_bit _ n h0 (by omega) _ (by omega), sx_bit _ n h0 (by omega) _ hi, if_pos (by omega), if_neg h2]
theorem loop_ends (x : BitVec 32) (n : Int) (h0 : 1 ≤ n) (h1 : n ≤ 32) (d : Nat) : ∀ (i : Int) (k : Nat), n ≤ i → i ≤ 32 → 32 - i = d → 21 + d ≤ k → vmfleetlaw1_BitsSigns.l0 k (B x) n (B (sxv x n)) (B (fieldv x (n - 1) 1)) i = some true := by
  induction d with
  | zero =>
    intro i k hi hi2 hd hk
    obtain ⟨k, rfl⟩ : ∃ m, k = m + 1 := ⟨k - 1, by omega⟩
    simp only [vmfleetlaw1_BitsSigns.l0]
    rw [if_neg (by omega), Field_eq]; simp only [Option.bind_some]
    rw [Field_eq]; simp only [Option.bind_some]
    rw [if_pos (by rw [low_sx x n h0 h1]), SignExtend_eq]; simp only [Option.bind_some]
    rw [if_pos (by rw [sx_sx x n h0 h1]), awake_more k (by omega)]; rfl
  | succ d ih =>
    intro i k hi hi2 hd hk
    obtain ⟨k, rfl⟩ : ∃ m, k = m + 1 := ⟨k - 1, by omega⟩
    simp only [vmfleetlaw1_BitsSigns.l0]
    rw [if_pos (by omega), Field_eq]; simp only [Option.bind_some]
    rw [if_pos (by rw [field_sx x n h0 h1 i hi (by omega)])]
    have e : wrap64 (i + 1) = i + 1 := w64 (by omega) (by omega)
    rw [e]; exact ih (i + 1) k (by omega) (by omega) (by omega) (by omega)
theorem BitsSigns : vmfleetlaw1_BitsSigns.Pure := by
  intro a0 a1 h0 h1
  obtain ⟨x, rfl⟩ := B_of a0 h0
  have b1 := bounds_i64 h1
  refine ⟨60, ?_⟩
  have hj : ∀ b : Bool, (b = false → 1 ≤ a1 ∧ a1 ≤ 32) → vmfleetlaw1_BitsSigns.j0 60 (B x) a1 b = some true := by
    intro b hb
    simp only [vmfleetlaw1_BitsSigns.j0]
    cases b with
    | true => rw [if_pos rfl, awake_more 59 (by omega)]; rfl
    | false =>
      obtain ⟨c0, c1⟩ := hb rfl
      have e : wrap64 (a1 - 1) = a1 - 1 := w64 (by omega) (by omega)
      rw [if_neg (by simp), SignExtend_eq]; simp only [Option.bind_some]
      rw [e, Field_eq]; simp only [Option.bind_some]
      exact loop_ends x a1 c0 c1 (32 - a1).toNat a1 59 (by omega) (by omega) (by omega) (by omega)
  unfold vmfleetlaw1_BitsSigns.f
  by_cases e1 : a1 < 1
  · rw [if_pos e1]; exact hj true (by simp)
  · rw [if_neg e1]; exact hj _ (fun h => by simp at h; omega)
end Go.Proofs.Ytnpobmpdlcmipaa.Pure
