/- Proved: successive values and seeds of Next are the reference's, and the seed behind n calls is the seed plus n times the increment. Conditions: none. -/
import Derived.Test.YtnpobmpdlcmipaaPBitsRandomx1
import Derived.Test.YtnpobmpdlcmipaaBv
namespace Go.Proofs.Ytnpobmpdlcmipaa.Pure
open Go.RowKit Go.Proofs.Ytnpobmpdlcmipaa.PBitsRandom Go.Proofs.YtnpobmpdlcmipaaW.PrintWords Go.Proofs.YtnpobmpdlcmipaaW.PrintLast Go.Proofs.Ytnpobmpdlcmipaa.Bv
set_option linter.unusedVariables false
set_option linter.unusedSimpArgs false

theorem awake_ends : vmfleetlaw1_awake.f 20 = some true := by kernel_rfl
theorem awake_more (k : Nat) (h : 20 ≤ k) : vmfleetlaw1_awake.f k = some true := at_rounds vmfleetlaw1_awake.mono h awake_ends
theorem w64 {n : Int} (h0 : -9223372036854775808 ≤ n) (h1 : n ≤ 9223372036854775807) : wrap64 n = n := by unfold wrap64; omega
theorem u64w {n : Int} (h0 : 0 ≤ n) (h1 : n ≤ 9223372036854775807) : IntKind.u64.wrap n = n := by
  have : IntKind.u64.wrap n = n % 18446744073709551616 := by simp [IntKind.wrap, IntKind.bits, IntKind.signed]
  rw [this]; omega

theorem wu64 (n : Int) : IntKind.u64.wrap n = n % 18446744073709551616 := by simp [IntKind.wrap, IntKind.bits, IntKind.signed]
theorem same_next (s : Int) : ∃ v, bits_Next.f s = some (v, IntKind.u64.wrap (s + 11400714819323198485)) ∧ vmfleetref1_Next.f s = some (v, IntKind.u64.wrap (s + 11400714819323198485)) := ⟨_, rfl, rfl⟩
theorem loop_ends (x n : Int) (h0 : 0 ≤ n) (h1 : n ≤ 200) (hx0 : 0 ≤ x) (hx1 : x ≤ 18446744073709551615) (d : Nat) : ∀ (i : Int) (k : Nat), 0 ≤ i → i ≤ n → n - i = d → 21 + d ≤ k →
    vmfleetlaw1_BitsRandom.l0 k x n ((x + i * 11400714819323198485) % 18446744073709551616) ((x + i * 11400714819323198485) % 18446744073709551616) i = some true := by
  induction d with
  | zero =>
    intro i k hi hi2 hd hk
    obtain ⟨k, rfl⟩ : ∃ m, k = m + 1 := ⟨k - 1, by omega⟩
    simp only [vmfleetlaw1_BitsRandom.l0]
    rw [if_neg (by omega), if_pos (by
      obtain rfl : i = n := by omega
      rw [wu64, wu64, wu64]; omega), awake_more k (by omega)]; rfl
  | succ d ih =>
    intro i k hi hi2 hd hk
    obtain ⟨k, rfl⟩ : ∃ m, k = m + 1 := ⟨k - 1, by omega⟩
    simp only [vmfleetlaw1_BitsRandom.l0]
    obtain ⟨v, e1, e2⟩ := same_next ((x + i * 11400714819323198485) % 18446744073709551616)
    rw [if_pos (by omega), e1]; simp only [Option.bind_some]
    rw [e2]; simp only [Option.bind_some, if_true]
    have e : wrap64 (i + 1) = i + 1 := w64 (by omega) (by omega)
    have e3 : IntKind.u64.wrap ((x + i * 11400714819323198485) % 18446744073709551616 + 11400714819323198485) = (x + (i + 1) * 11400714819323198485) % 18446744073709551616 := by rw [wu64]; omega
    rw [e, e3]; exact ih (i + 1) k (by omega) (by omega) (by omega) (by omega)
theorem BitsRandom : vmfleetlaw1_BitsRandom.Pure := by
  intro a0 a1 h0 h1
  have b0 := bounds_u64 h0
  refine ⟨300, ?_⟩
  have hj : ∀ b : Bool, (b = false → 0 ≤ a1 ∧ a1 ≤ 200) → vmfleetlaw1_BitsRandom.j0 300 a0 a1 b = some true := by
    intro b hb
    simp only [vmfleetlaw1_BitsRandom.j0]
    cases b with
    | true => rw [if_pos rfl, awake_more 299 (by omega)]; rfl
    | false =>
      obtain ⟨c0, c1⟩ := hb rfl
      rw [if_neg (by simp)]
      have h := loop_ends a0 a1 c0 c1 b0.1 b0.2 a1.toNat 0 299 (by omega) (by omega) (by omega) (by omega)
      have e : (a0 + 0 * 11400714819323198485) % 18446744073709551616 = a0 := by omega
      rw [e] at h; exact h
  unfold vmfleetlaw1_BitsRandom.f
  by_cases e1 : a1 < 0
  · rw [if_pos e1]; exact hj true (by simp)
  · rw [if_neg e1]; exact hj _ (fun h => by simp at h; omega)
end Go.Proofs.Ytnpobmpdlcmipaa.Pure
