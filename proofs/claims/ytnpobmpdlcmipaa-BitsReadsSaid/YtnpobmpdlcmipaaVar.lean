import Derived.Test.YtnpobmpdlcmipaaWMore
import Derived.OpenShut
import Derived.Test.YtnpobmpdlcmipaaBv
namespace Go.Proofs.Ytnpobmpdlcmipaa.Var
open Go.RowKit Go.Proofs.YtnpobmpdlcmipaaW.PrintWords Go.Proofs.Ytnpobmpdlcmipaa.Bv
set_option linter.unusedVariables false
set_option linter.unusedSimpArgs false

theorem w64 {n : Int} (h0 : -9223372036854775808 ≤ n) (h1 : n ≤ 9223372036854775807) : wrap64 n = n := by unfold wrap64; omega
theorem wu64 (n : Int) : IntKind.u64.wrap n = n % 18446744073709551616 := by simp [IntKind.wrap, IntKind.bits, IntKind.signed]
/-- The encoding of a number, byte by byte. -/
def enc (x : Nat) : List Nat := if x < 128 then [x] else (x % 128 + 128) :: enc (x / 128)
termination_by x
decreasing_by omega
theorem enc_lt {x : Nat} (h : x < 128) : enc x = [x] := by rw [enc, if_pos h]
theorem enc_ge {x : Nat} (h : ¬ x < 128) : enc x = (x % 128 + 128) :: enc (x / 128) := by rw [enc, if_neg h]
theorem enc_byte (x : Nat) : ∀ b ∈ enc x, b < 256 := by
  induction x using Nat.strongRecOn with
  | _ x ih =>
    by_cases h : x < 128
    · rw [enc_lt h]; intro b hb; simp at hb; omega
    · rw [enc_ge h]; intro b hb
      rcases List.mem_cons.1 hb with rfl | hb
      · omega
      · exact ih (x / 128) (by omega) b hb
theorem enc_len (n : Nat) : ∀ x : Nat, x < 2 ^ (7 * (n + 1)) → (enc x).length ≤ n + 1 := by
  induction n with
  | zero => intro x h; rw [enc_lt (by simpa using h)]; simp
  | succ n ih =>
    intro x h
    by_cases h2 : x < 128
    · rw [enc_lt h2]; simp
    · rw [enc_ge h2]; simp only [List.length_cons]
      have := ih (x / 128) (by
        rw [Nat.div_lt_iff_lt_mul (by decide)]
        have e : 7 * (n + 1 + 1) = 7 * (n + 1) + 7 := by omega
        rw [e, Nat.pow_add] at h; exact h)
      omega
theorem enc_ne (x : Nat) : 1 ≤ (enc x).length := by
  by_cases h : x < 128
  · rw [enc_lt h]; simp
  · rw [enc_ge h]; simp
theorem or128_aux : ∀ y : Fin 256, Go.bits .or .u8 (y.val : Int) 128 = ((y.val % 128 + 128 : Nat) : Int) := by decide +kernel
theorem or128 (x : Nat) : Go.bits .or .u8 ((x : Int) % 256) 128 = ((x % 128 + 128 : Nat) : Int) := by
  have := or128_aux ⟨x % 256, by omega⟩
  simp only at this
  have e : ((x : Int) % 256) = ((x % 256 : Nat) : Int) := by omega
  rw [e, this]; omega
theorem and127_aux : ∀ y : Fin 256, Go.bits .and .u8 (y.val : Int) 127 = ((y.val % 128 : Nat) : Int) := by decide +kernel
theorem and127_u8 (x : Nat) (h : x < 256) : Go.bits .and .u8 (x : Int) 127 = ((x % 128 : Nat) : Int) := and127_aux ⟨x, h⟩
theorem B64_of (x : Nat) (h : x < 2 ^ 64) : (BitVec.ofInt 64 (x : Int)).toNat = x := by simp; omega
theorem and127_u64 (x : Nat) (h : x < 2 ^ 64) : Go.bits .and .u64 (x : Int) 127 = ((x % 128 : Nat) : Int) := by
  show IntKind.u64.wrap ((BitVec.ofInt 64 (x : Int) &&& BitVec.ofInt 64 127).toNat : Int) = _
  rw [BitVec.toNat_and, B64_of x h, wu64]
  have : (BitVec.ofInt 64 127).toNat = 2 ^ 7 - 1 := rfl
  rw [this, Nat.and_two_pow_sub_one_eq_mod]; omega
theorem or_u64 (a b : Nat) (ha : a < 2 ^ 64) (hb : b < 2 ^ 64) : Go.bits .or .u64 (a : Int) (b : Int) = ((a ||| b : Nat) : Int) := by
  show IntKind.u64.wrap ((BitVec.ofInt 64 (a : Int) ||| BitVec.ofInt 64 (b : Int)).toNat : Int) = _
  rw [BitVec.toNat_or, B64_of a ha, B64_of b hb, wu64]
  have := Nat.or_lt_two_pow ha hb
  omega
/-- What a byte adds: its low bits, at its place. -/
theorem add_byte (a b i : Nat) (ha : a < 2 ^ (7 * i)) (hi : i ≤ 9) (hs : b * 2 ^ (7 * i) < 2 ^ 64) : Go.bits .or .u64 (a : Int) (shl .u64 (b : Int) (7 * (i : Int))) = ((a + b * 2 ^ (7 * i) : Nat) : Int) := by
  have e : shl .u64 (b : Int) (7 * (i : Int)) = ((b * 2 ^ (7 * i) : Nat) : Int) := by
    show IntKind.u64.wrap ((b : Int) * 2 ^ min (7 * (i : Int)).toNat 64) = _
    have e1 : (7 * (i : Int)).toNat = 7 * i := by omega
    rw [e1, Nat.min_eq_left (by omega), wu64]
    have e2 : ((b : Int) * 2 ^ (7 * i)) = ((b * 2 ^ (7 * i) : Nat) : Int) := by rw [Int.natCast_mul, Int.natCast_pow]; rfl
    rw [e2]; omega
  have h64 : (2 : Nat) ^ (7 * i) ≤ 2 ^ 64 := Nat.pow_le_pow_right (by decide) (by omega)
  rw [e, or_u64 a _ (by omega) hs]
  congr 1
  rw [Nat.mul_comm b, Nat.or_comm, ← Nat.two_pow_add_eq_or_of_lt ha]; omega
/-- The bytes of a string as numbers. -/
def bys (s : ByteArray) : List Nat := s.data.toList.map UInt8.toNat
theorem bys_length (s : ByteArray) : (bys s).length = s.size := by simp [bys]
theorem bt_bys (s : ByteArray) (i b : Nat) (h : (bys s)[i]? = some b) : bt s (i : Int) = (b : Int) ∧ i < s.size := by
  have hl : i < s.size := by have := (List.getElem?_eq_some_iff.1 h).1; rwa [bys_length] at this
  refine ⟨?_, hl⟩
  unfold bt
  rw [dif_pos (by simpa using hl)]
  simp only [bys, List.getElem?_map, Option.map_eq_some_iff] at h
  obtain ⟨c, hc, rfl⟩ := h
  rw [List.getElem?_eq_some_iff] at hc
  obtain ⟨h1, h2⟩ := hc
  rw [← h2]; rfl
theorem bys_append (s t : ByteArray) : bys (s ++ t) = bys s ++ bys t := by simp [bys, ByteArray.data_append]
theorem bys_lt (s : ByteArray) : ∀ b ∈ bys s, b < 256 := by
  intro b hb; simp only [bys, List.mem_map] at hb; obtain ⟨c, _, rfl⟩ := hb; exact c.toNat_lt
def ints (l : List Nat) : List Int := l.map Int.ofNat
theorem bys_str (l : List Nat) (h : ∀ b ∈ l, b < 256) : bys (strOfNums (ints l)) = l := by
  unfold bys; rw [strOfNums_data]; unfold ints
  rw [List.map_map, List.map_map]
  conv => rhs; rw [← List.map_id l]
  apply List.map_congr_left
  intro b hb
  have := h b hb
  simp only [Function.comp]
  show (UInt8.ofNat (Int.ofNat b).toNat).toNat = b
  rw [UInt8.toNat_ofNat']; simp; omega
theorem bys_inj {s t : ByteArray} (h : bys s = bys t) : s = t := by
  unfold bys at h
  have h2 : s.data.toList = t.data.toList := (List.map_inj_right (fun a b hab => UInt8.toNat_inj.1 hab)).1 h
  have h3 : s.data = t.data := Array.toList_inj.1 h2
  cases s; cases t; simp at h3; rw [h3]
theorem pow7 (i : Nat) : 2 ^ (7 * (i + 1)) = 128 * 2 ^ (7 * i) := by rw [show 7 * (i + 1) = 7 + 7 * i by omega, Nat.pow_add]
theorem low_place (y i : Nat) (hy : 128 ≤ y) (h : y * 2 ^ (7 * i) < 2 ^ 64) : i ≤ 8 := by
  refine Nat.le_of_not_lt fun hi => ?_
  have h1 : (2 : Nat) ^ 63 ≤ 2 ^ (7 * i) := Nat.pow_le_pow_right (by decide) (by omega)
  have h2 := Nat.mul_le_mul hy h1
  omega
theorem top_place (y : Nat) (h : y * 2 ^ (7 * 9) < 2 ^ 64) : y ≤ 1 := by omega
end Go.Proofs.Ytnpobmpdlcmipaa.Var
