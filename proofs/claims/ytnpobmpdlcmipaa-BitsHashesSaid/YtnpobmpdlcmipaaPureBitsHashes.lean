/- Proved: the hash of a string is the reference's, and hashing two parts in succession is hashing their concatenation. Conditions: none. -/
import Derived.Test.YtnpobmpdlcmipaaPBitsHashesx2
import Derived.Test.YtnpobmpdlcmipaaBv
namespace Go.Proofs.Ytnpobmpdlcmipaa.Pure
open Go.RowKit Go.Proofs.Ytnpobmpdlcmipaa.PBitsHashes Go.Proofs.YtnpobmpdlcmipaaW.PrintWords Go.Proofs.YtnpobmpdlcmipaaW.PrintLast Go.Proofs.Ytnpobmpdlcmipaa.Bv
set_option linter.unusedVariables false
set_option linter.unusedSimpArgs false

theorem awake_ends : vmfleetlaw1_awake.f 20 = some true := by kernel_rfl
theorem awake_more (k : Nat) (h : 20 ≤ k) : vmfleetlaw1_awake.f k = some true := at_rounds vmfleetlaw1_awake.mono h awake_ends
theorem w64 {n : Int} (h0 : -9223372036854775808 ≤ n) (h1 : n ≤ 9223372036854775807) : wrap64 n = n := by unfold wrap64; omega
theorem u64w {n : Int} (h0 : 0 ≤ n) (h1 : n ≤ 9223372036854775807) : IntKind.u64.wrap n = n := by
  have : IntKind.u64.wrap n = n % 18446744073709551616 := by simp [IntKind.wrap, IntKind.bits, IntKind.signed]
  rw [this]; omega

/-- One step of the hash. -/
def hstep (h : Int) (b : UInt8) : Int := IntKind.u64.wrap ((Go.bits .xor .u64 h (IntKind.u64.wrap (b.toNat : Int))) * 1099511628211)
def hash (h : Int) (s : List UInt8) : Int := s.foldl hstep h
theorem bt_eq (s : ByteArray) (i : Nat) (h : i < s.size) : bt s (i : Int) = ((s.data.toList[i]'(by simpa using h)).toNat : Int) := by
  unfold bt; rw [dif_pos (by simpa using h)]; rfl
theorem Hash_from (s : ByteArray) (hs : s.size ≤ 9000000000000000000) (d : Nat) : ∀ (h : Int) (i k : Nat), i ≤ s.size → s.size - i = d → d < k → bits_Hash.l0 k h s (s.size : Int) (i : Int) = some (hash h (s.data.toList.drop i)) := by
  induction d with
  | zero =>
    intro h i k hi hd hk
    obtain ⟨k, rfl⟩ : ∃ m, k = m + 1 := ⟨k - 1, by omega⟩
    simp only [bits_Hash.l0]
    rw [if_neg (by omega), List.drop_of_length_le (by simp; omega)]; rfl
  | succ d ih =>
    intro h i k hi hd hk
    obtain ⟨k, rfl⟩ : ∃ m, k = m + 1 := ⟨k - 1, by omega⟩
    simp only [bits_Hash.l0]
    have e : wrap64 ((i : Int) + 1) = ((i + 1 : Nat) : Int) := by rw [w64 (by omega) (by omega)]; simp
    rw [if_pos (by omega), if_pos (by omega), if_pos (by omega), e, ih _ (i + 1) k (by omega) (by omega) (by omega), bt_eq s i (by omega)]
    rw [List.drop_eq_getElem_cons (i := i) (by simp; omega)]; rfl
theorem Hash_eq (s : ByteArray) (hs : s.size ≤ 9000000000000000000) (h : Int) (k : Nat) (hk : s.size < k) : bits_Hash.f k h s = some (hash h s.data.toList) := by
  have := Hash_from s hs s.size h 0 k (by omega) (by omega) hk
  simpa [bits_Hash.f] using this
theorem rHash_from (s : ByteArray) (hs : s.size ≤ 9000000000000000000) (d : Nat) : ∀ (h : Int) (i k : Nat), i ≤ s.size → s.size - i = d → d < k → vmfleetref1_Hash.l0 k h s (i : Int) = some (hash h (s.data.toList.drop i)) := by
  induction d with
  | zero =>
    intro h i k hi hd hk
    obtain ⟨k, rfl⟩ : ∃ m, k = m + 1 := ⟨k - 1, by omega⟩
    simp only [vmfleetref1_Hash.l0]
    rw [if_neg (by omega), List.drop_of_length_le (by simp; omega)]; rfl
  | succ d ih =>
    intro h i k hi hd hk
    obtain ⟨k, rfl⟩ : ∃ m, k = m + 1 := ⟨k - 1, by omega⟩
    simp only [vmfleetref1_Hash.l0]
    have e : wrap64 ((i : Int) + 1) = ((i + 1 : Nat) : Int) := by rw [w64 (by omega) (by omega)]; simp
    rw [if_pos (by omega), if_pos (by omega), e, ih _ (i + 1) k (by omega) (by omega) (by omega), bt_eq s i (by omega)]
    rw [List.drop_eq_getElem_cons (i := i) (by simp; omega)]; rfl
theorem rHash_eq (s : ByteArray) (hs : s.size ≤ 9000000000000000000) (h : Int) (k : Nat) (hk : s.size < k) : vmfleetref1_Hash.f k h s = some (hash h s.data.toList) := by
  have := rHash_from s hs s.size h 0 k (by omega) (by omega) hk
  simpa [vmfleetref1_Hash.f] using this
theorem BitsHashes : vmfleetlaw1_BitsHashes.Pure := by
  intro h a b w0 w1 w2
  refine ⟨5000, ?_⟩
  have hj : ∀ c : Bool, (c = false → a.size ≤ 2000 ∧ b.size ≤ 2000) → vmfleetlaw1_BitsHashes.j0 5000 h a b c = some true := by
    intro c hc
    simp only [vmfleetlaw1_BitsHashes.j0]
    cases c with
    | true => rw [if_pos rfl, awake_more 4999 (by omega)]; rfl
    | false =>
      obtain ⟨c0, c1⟩ := hc rfl
      rw [if_neg (by simp), Hash_eq a (by omega) h 4999 (by omega)]; simp only [Option.bind_some]
      rw [rHash_eq a (by omega) h 4999 (by omega)]; simp only [Option.bind_some, if_true]
      rw [Hash_eq b (by omega) _ 4999 (by omega)]; simp only [Option.bind_some]
      rw [if_pos (by omega), Hash_eq (a ++ b) (by rw [ByteArray.size_append]; omega) h 4999 (by rw [ByteArray.size_append]; omega)]; simp only [Option.bind_some]
      rw [if_pos (by simp [hash]), Hash_eq ⟨#[]⟩ (by simp [ByteArray.size]) h 4999 (by simp [ByteArray.size])]; simp only [Option.bind_some]
      rw [if_pos (by simp [hash]), awake_more 4999 (by omega)]; rfl
  unfold vmfleetlaw1_BitsHashes.f
  by_cases e1 : (a.size : Int) > 2000
  · rw [if_pos e1]; exact hj true (by simp)
  · rw [if_neg e1]; exact hj _ (fun h => by simp at h; omega)
end Go.Proofs.Ytnpobmpdlcmipaa.Pure
