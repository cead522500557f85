/- Proved: a number is encoded as the reference encodes it, decoded whatever follows it, and has at most ten bytes. Conditions: none. -/
import Derived.Test.YtnpobmpdlcmipaaPBitsVarintsx1
import Derived.Test.YtnpobmpdlcmipaaBv
import Derived.Test.YtnpobmpdlcmipaaVar
namespace Go.Proofs.Ytnpobmpdlcmipaa.Pure
open Go.RowKit Go.Proofs.Ytnpobmpdlcmipaa.PBitsVarints Go.Proofs.YtnpobmpdlcmipaaW.PrintWords Go.Proofs.YtnpobmpdlcmipaaW.PrintLast Go.Proofs.Ytnpobmpdlcmipaa.Bv Go.Proofs.Ytnpobmpdlcmipaa.Var
set_option linter.unusedVariables false
set_option linter.unusedSimpArgs false

theorem awake_ends : vmfleetlaw1_awake.f 20 = some true := by kernel_rfl
theorem awake_more (k : Nat) (h : 20 ≤ k) : vmfleetlaw1_awake.f k = some true := at_rounds vmfleetlaw1_awake.mono h awake_ends

theorem Put_from (n : Nat) : ∀ (x : Nat) (acc : List Nat) (k : Nat), (enc x).length = n → acc.length + n < 1000 → n < k → bits_PutUvarint.l0 k (x : Int) (ints acc) = some (strOfNums (ints (acc ++ enc x))) := by
  induction n with
  | zero => intro x acc k h; have := enc_ne x; omega
  | succ n ih =>
    intro x acc k hn ha hk
    obtain ⟨k, rfl⟩ : ∃ m, k = m + 1 := ⟨k - 1, by omega⟩
    simp only [bits_PutUvarint.l0]
    have hl : (ints acc).length = acc.length := by simp [ints]
    by_cases h : x < 128
    · rw [if_neg (by omega), if_pos (by rw [hl]; omega), enc_lt h]
      have e : (x : Int) % 256 = (x : Int) := by omega
      rw [e]; simp [ints]
    · have e2 : (x : Int) / 128 = ((x / 128 : Nat) : Int) := by omega
      have hle := enc_len
      rw [if_pos (by omega), if_pos (by rw [hl]; omega), or128, e2]
      rw [enc_ge h] at hn ⊢
      have := ih (x / 128) (acc ++ [x % 128 + 128]) k (by simpa using hn) (by simp; omega) (by omega)
      simpa [ints] using this
theorem Put_eq (x : Nat) (h : x < 2 ^ 64) (k : Nat) (hk : 11 < k) : bits_PutUvarint.f k (x : Int) = some (strOfNums (ints (enc x))) := by
  have hl := enc_len 9 x (by omega)
  have := Put_from (enc x).length x [] k rfl (by simp; omega) (by omega)
  simpa [bits_PutUvarint.f, ints] using this

theorem rPut_from (n : Nat) : ∀ (x : Nat) (_hx : x < 2 ^ 64) (acc : List Nat) (k : Nat), (enc x).length = n → acc.length + n < 1000 → n < k → vmfleetref1_PutUvarint.l0 k (x : Int) (ints acc) = some (strOfNums (ints (acc ++ enc x))) := by
  induction n with
  | zero => intro x _ acc k h; have := enc_ne x; omega
  | succ n ih =>
    intro x hx acc k hn ha hk
    obtain ⟨k, rfl⟩ : ∃ m, k = m + 1 := ⟨k - 1, by omega⟩
    simp only [vmfleetref1_PutUvarint.l0]
    have hl : (ints acc).length = acc.length := by simp [ints]
    by_cases h : x < 128
    · rw [if_neg (by omega), if_pos (by rw [hl]; omega), enc_lt h]
      have e : (x : Int) % 256 = (x : Int) := by omega
      rw [e]; simp [ints]
    · have e2 : (x : Int) / 128 = ((x / 128 : Nat) : Int) := by omega
      have hle := enc_len
      have e3 : Go.bits .or .u8 (Go.bits .and .u64 (x : Int) 127 % 256) 128 = ((x % 128 + 128 : Nat) : Int) := by rw [and127_u64 x hx, or128]; omega
      rw [if_pos (by omega), if_pos (by rw [hl]; omega), e3, e2]
      rw [enc_ge h] at hn ⊢
      have := ih (x / 128) (by omega) (acc ++ [x % 128 + 128]) k (by simpa using hn) (by simp; omega) (by omega)
      simpa [ints] using this
theorem rPut_eq (x : Nat) (h : x < 2 ^ 64) (k : Nat) (hk : 11 < k) : vmfleetref1_PutUvarint.f k (x : Int) = some (strOfNums (ints (enc x))) := by
  have hl := enc_len 9 x (by omega)
  have := rPut_from (enc x).length x h [] k rfl (by simp; omega) (by omega)
  simpa [vmfleetref1_PutUvarint.f, ints] using this

theorem Uv_from (y : Nat) : ∀ (s : ByteArray) (i a k : Nat) (t : List Nat), (bys s).drop i = enc y ++ t → i ≤ 9 → a < 2 ^ (7 * i) → a + y * 2 ^ (7 * i) < 2 ^ 64 → (0 < i → 0 < y) → 2 * (enc y).length < k →
    bits_Uvarint.l0 k s (a : Int) (mn (s.size : Int) 10) (i : Int) = some (((a + y * 2 ^ (7 * i) : Nat) : Int), ((i + (enc y).length : Nat) : Int), true) := by
  induction y using Nat.strongRecOn with
  | _ y ih =>
    intro s i a k t hb hi ha hs h0 hk
    obtain ⟨k, rfl⟩ : ∃ m, k = m + 1 := ⟨k - 1, by omega⟩
    have hne := enc_ne y
    obtain ⟨k, rfl⟩ : ∃ m, k = m + 1 := ⟨k - 1, by omega⟩
    have e7 : wrap64 (7 * (i : Int)) = 7 * (i : Int) := w64 (by omega) (by omega)
    have e1 : wrap64 ((i : Int) + 1) = ((i + 1 : Nat) : Int) := by rw [w64 (by omega) (by omega)]; simp
    have hP := Nat.two_pow_pos (7 * i)
    by_cases h : y < 128
    · rw [enc_lt h] at hb hne hk ⊢
      have hg : (bys s)[i]? = some y := by have := List.getElem?_drop (xs := bys s) (i := i) (j := 0); rw [hb] at this; simpa using this.symm
      obtain ⟨hbt, hsz⟩ := bt_bys s i y hg
      have hlim : (i : Int) < mn (s.size : Int) 10 := by unfold mn; split <;> omega
      have hj : bits_Uvarint.j1 (k + 1) s (a : Int) (i : Int) (y : Int) (mn (s.size : Int) 10) (i : Int) false = some (((a + y * 2 ^ (7 * i) : Nat) : Int), ((i + 1 : Nat) : Int), true) := by
        simp only [bits_Uvarint.j1]
        have e4 : Go.bits .and .u8 (y : Int) 127 = (y : Int) := by rw [and127_u8 y (by omega)]; omega
        have e5 : IntKind.u64.wrap (y : Int) = (y : Int) := by rw [wu64]; omega
        rw [if_neg (by simp), e7, if_pos (by omega), if_pos (by omega), e4, e5, add_byte a y i ha hi (by omega), e1]
        by_cases hz : y = 0
        · rw [if_pos (by omega), if_neg (by omega)]
        · rw [if_neg (by omega)]
      simp only [bits_Uvarint.l0]
      rw [if_pos hlim, if_pos (by omega), if_pos (by omega), hbt]
      by_cases h9 : i = 9
      · subst h9
        have := top_place y (by omega)
        have hd : decide ((y : Int) > 1) = false := by simp; omega
        rw [if_pos (by omega), hd]; exact hj
      · rw [if_neg (by omega)]; exact hj
    · rw [enc_ge h] at hb hne hk ⊢
      have hi8 := low_place y i (by omega) (by omega)
      have hg : (bys s)[i]? = some (y % 128 + 128) := by have := List.getElem?_drop (xs := bys s) (i := i) (j := 0); rw [hb] at this; simpa using this.symm
      obtain ⟨hbt, hsz⟩ := bt_bys s i _ hg
      have hlim : (i : Int) < mn (s.size : Int) 10 := by unfold mn; split <;> omega
      have hd : (bys s).drop (i + 1) = enc (y / 128) ++ t := by rw [← List.drop_drop, hb]; simp
      have hval : a + y % 128 * 2 ^ (7 * i) + y / 128 * 2 ^ (7 * (i + 1)) = a + y * 2 ^ (7 * i) := by
        rw [pow7]
        have : y * 2 ^ (7 * i) = (y % 128 + 128 * (y / 128)) * 2 ^ (7 * i) := by rw [Nat.mod_add_div]
        rw [this, Nat.add_mul]
        have : y / 128 * (128 * 2 ^ (7 * i)) = 128 * (y / 128) * 2 ^ (7 * i) := by rw [← Nat.mul_assoc, Nat.mul_comm (y / 128) 128]
        omega
      have hlow : y % 128 * 2 ^ (7 * i) ≤ 127 * 2 ^ (7 * i) := Nat.mul_le_mul_right _ (by omega)
      simp only [bits_Uvarint.l0]
      rw [if_pos hlim, if_pos (by omega), if_pos (by omega), hbt, if_neg (by omega)]
      simp only [bits_Uvarint.j1]
      have e4 : Go.bits .and .u8 ((y % 128 + 128 : Nat) : Int) 127 = ((y % 128 : Nat) : Int) := by rw [and127_u8 _ (by omega)]; omega
      have e5 : IntKind.u64.wrap ((y % 128 : Nat) : Int) = ((y % 128 : Nat) : Int) := by rw [wu64]; omega
      rw [if_neg (by simp), e7, if_pos (by omega), if_neg (by omega), e4, e5, add_byte a (y % 128) i ha hi (by omega), e1]
      have h1 : a + y % 128 * 2 ^ (7 * i) < 2 ^ (7 * (i + 1)) := by rw [pow7]; omega
      have := ih (y / 128) (by omega) s (i + 1) (a + y % 128 * 2 ^ (7 * i)) k t hd (by omega) h1 (by rw [hval]; exact hs) (fun _ => by omega) (by simp at hk; omega)
      rw [this, hval]; simp; omega
theorem Uv_eq (x : Nat) (h : x < 2 ^ 64) (s : ByteArray) (t : List Nat) (hb : bys s = enc x ++ t) (k : Nat) (hk : 30 < k) : bits_Uvarint.f k s = some ((x : Int), ((enc x).length : Int), true) := by
  have hl := enc_len 9 x (by omega)
  have := Uv_from x s 0 0 k t (by simpa using hb) (by omega) (by simp) (by simpa using h) (by omega) (by omega)
  simpa [bits_Uvarint.f] using this

theorem BitsVarints : vmfleetlaw1_BitsVarints.Pure := by
  intro a0 a1 h0 h1
  have b0 := bounds_u64 h0
  obtain ⟨x, rfl⟩ : ∃ x : Nat, a0 = (x : Int) := ⟨a0.toNat, by omega⟩
  have hx : x < 2 ^ 64 := by omega
  refine ⟨40, ?_⟩
  unfold vmfleetlaw1_BitsVarints.f
  by_cases e1 : (a1.size : Int) > 100
  · rw [if_pos e1, awake_more 40 (by omega)]; rfl
  · have hl := enc_len 9 x (by omega)
    have hbs := bys_str (enc x) (enc_byte x)
    have hsz : (strOfNums (ints (enc x))).size = (enc x).length := by rw [← bys_length, hbs]
    rw [if_neg e1, Put_eq x hx 40 (by omega)]; simp only [Option.bind_some]
    rw [if_pos (by omega), Uv_eq x hx _ (bys a1) (by rw [bys_append, hbs]) 40 (by omega)]; simp only [Option.bind_some]
    rw [rPut_eq x hx 40 (by omega)]; simp only [Option.bind_some, if_true]
    rw [hsz, if_pos (by omega)]; simp only [if_true]
    rw [awake_more 40 (by omega)]; rfl
end Go.Proofs.Ytnpobmpdlcmipaa.Pure
