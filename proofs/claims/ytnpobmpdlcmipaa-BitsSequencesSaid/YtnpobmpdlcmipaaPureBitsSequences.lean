/- Proved: a sequence of numbers, encoded one behind the other, is decoded number by number to the last byte. Conditions: none. -/
import Derived.Test.YtnpobmpdlcmipaaPBitsSequencesx2
import Derived.Test.YtnpobmpdlcmipaaBv
import Derived.Test.YtnpobmpdlcmipaaVar
namespace Go.Proofs.Ytnpobmpdlcmipaa.Pure
open Go.RowKit Go.Proofs.Ytnpobmpdlcmipaa.PBitsSequences Go.Proofs.YtnpobmpdlcmipaaW.PrintWords Go.Proofs.YtnpobmpdlcmipaaW.PrintLast Go.Proofs.Ytnpobmpdlcmipaa.Bv Go.Proofs.Ytnpobmpdlcmipaa.Var
set_option linter.unusedVariables false
set_option linter.unusedSimpArgs false

theorem awake_ends : vmfleetlaw1_awake.f 20 = some true := by kernel_rfl
theorem awake_more (k : Nat) (h : 20 ≤ k) : vmfleetlaw1_awake.f k = some true := at_rounds vmfleetlaw1_awake.mono h awake_ends

theorem Put_from (n : Nat) : ∀ (x : Nat) (acc : List Nat) (k : Nat), (enc x).length = n → acc.length + n < 1000 → n < k → bits_PutUvarint.l0 k (x : Int) (ints acc) = some (strOfNums (ints (acc ++ enc x))) := by
  induction n with
  | zero => intro x acc k h; have := enc_ne x; omega
  | succ n ih =>
    intro x acc k hn ha hk
    obtain ⟨k, rfl⟩ : ∃ m, k = m + 1 := ⟨k - 1, by omega⟩
    simp only [bits_PutUvarint.l0]
    have hl : (ints acc).length = acc.length := by simp [ints]
    by_cases h : x < 128
    · rw [if_neg (by omega), if_pos (by rw [hl]; omega), enc_lt h]
      have e : (x : Int) % 256 = (x : Int) := by omega
      rw [e]; simp [ints]
    · have e2 : (x : Int) / 128 = ((x / 128 : Nat) : Int) := by omega
      have hle := enc_len
      rw [if_pos (by omega), if_pos (by rw [hl]; omega), or128, e2]
      rw [enc_ge h] at hn ⊢
      have := ih (x / 128) (acc ++ [x % 128 + 128]) k (by simpa using hn) (by simp; omega) (by omega)
      simpa [ints] using this
theorem Put_eq (x : Nat) (h : x < 2 ^ 64) (k : Nat) (hk : 11 < k) : bits_PutUvarint.f k (x : Int) = some (strOfNums (ints (enc x))) := by
  have hl := enc_len 9 x (by omega)
  have := Put_from (enc x).length x [] k rfl (by simp; omega) (by omega)
  simpa [bits_PutUvarint.f, ints] using this

theorem Uv_from (y : Nat) : ∀ (s : ByteArray) (i a k : Nat) (t : List Nat), (bys s).drop i = enc y ++ t → i ≤ 9 → a < 2 ^ (7 * i) → a + y * 2 ^ (7 * i) < 2 ^ 64 → (0 < i → 0 < y) → 2 * (enc y).length < k →
    bits_Uvarint.l0 k s (a : Int) (mn (s.size : Int) 10) (i : Int) = some (((a + y * 2 ^ (7 * i) : Nat) : Int), ((i + (enc y).length : Nat) : Int), true) := by
  induction y using Nat.strongRecOn with
  | _ y ih =>
    intro s i a k t hb hi ha hs h0 hk
    obtain ⟨k, rfl⟩ : ∃ m, k = m + 1 := ⟨k - 1, by omega⟩
    have hne := enc_ne y
    obtain ⟨k, rfl⟩ : ∃ m, k = m + 1 := ⟨k - 1, by omega⟩
    have e7 : wrap64 (7 * (i : Int)) = 7 * (i : Int) := w64 (by omega) (by omega)
    have e1 : wrap64 ((i : Int) + 1) = ((i + 1 : Nat) : Int) := by rw [w64 (by omega) (by omega)]; simp
    have hP := Nat.two_pow_pos (7 * i)
    by_cases h : y < 128
    · rw [enc_lt h] at hb hne hk ⊢
      have hg : (bys s)[i]? = some y := by have := List.getElem?_drop (xs := bys s) (i := i) (j := 0); rw [hb] at this; simpa using this.symm
      obtain ⟨hbt, hsz⟩ := bt_bys s i y hg
      have hlim : (i : Int) < mn (s.size : Int) 10 := by unfold mn; split <;> omega
      have hj : bits_Uvarint.j1 (k + 1) s (a : Int) (i : Int) (y : Int) (mn (s.size : Int) 10) (i : Int) false = some (((a + y * 2 ^ (7 * i) : Nat) : Int), ((i + 1 : Nat) : Int), true) := by
        simp only [bits_Uvarint.j1]
        have e4 : Go.bits .and .u8 (y : Int) 127 = (y : Int) := by rw [and127_u8 y (by omega)]; omega
        have e5 : IntKind.u64.wrap (y : Int) = (y : Int) := by rw [wu64]; omega
        rw [if_neg (by simp), e7, if_pos (by omega), if_pos (by omega), e4, e5, add_byte a y i ha hi (by omega), e1]
        by_cases hz : y = 0
        · rw [if_pos (by omega), if_neg (by omega)]
        · rw [if_neg (by omega)]
      simp only [bits_Uvarint.l0]
      rw [if_pos hlim, if_pos (by omega), if_pos (by omega), hbt]
      by_cases h9 : i = 9
      · subst h9
        have := top_place y (by omega)
        have hd : decide ((y : Int) > 1) = false := by simp; omega
        rw [if_pos (by omega), hd]; exact hj
      · rw [if_neg (by omega)]; exact hj
    · rw [enc_ge h] at hb hne hk ⊢
      have hi8 := low_place y i (by omega) (by omega)
      have hg : (bys s)[i]? = some (y % 128 + 128) := by have := List.getElem?_drop (xs := bys s) (i := i) (j := 0); rw [hb] at this; simpa using this.symm
      obtain ⟨hbt, hsz⟩ := bt_bys s i _ hg
      have hlim : (i : Int) < mn (s.size : Int) 10 := by unfold mn; split <;> omega
      have hd : (bys s).drop (i + 1) = enc (y / 128) ++ t := by rw [← List.drop_drop, hb]; simp
      have hval : a + y % 128 * 2 ^ (7 * i) + y / 128 * 2 ^ (7 * (i + 1)) = a + y * 2 ^ (7 * i) := by
        rw [pow7]
        have : y * 2 ^ (7 * i) = (y % 128 + 128 * (y / 128)) * 2 ^ (7 * i) := by rw [Nat.mod_add_div]
        rw [this, Nat.add_mul]
        have : y / 128 * (128 * 2 ^ (7 * i)) = 128 * (y / 128) * 2 ^ (7 * i) := by rw [← Nat.mul_assoc, Nat.mul_comm (y / 128) 128]
        omega
      have hlow : y % 128 * 2 ^ (7 * i) ≤ 127 * 2 ^ (7 * i) := Nat.mul_le_mul_right _ (by omega)
      simp only [bits_Uvarint.l0]
      rw [if_pos hlim, if_pos (by omega), if_pos (by omega), hbt, if_neg (by omega)]
      simp only [bits_Uvarint.j1]
      have e4 : Go.bits .and .u8 ((y % 128 + 128 : Nat) : Int) 127 = ((y % 128 : Nat) : Int) := by rw [and127_u8 _ (by omega)]; omega
      have e5 : IntKind.u64.wrap ((y % 128 : Nat) : Int) = ((y % 128 : Nat) : Int) := by rw [wu64]; omega
      rw [if_neg (by simp), e7, if_pos (by omega), if_neg (by omega), e4, e5, add_byte a (y % 128) i ha hi (by omega), e1]
      have h1 : a + y % 128 * 2 ^ (7 * i) < 2 ^ (7 * (i + 1)) := by rw [pow7]; omega
      have := ih (y / 128) (by omega) s (i + 1) (a + y % 128 * 2 ^ (7 * i)) k t hd (by omega) h1 (by rw [hval]; exact hs) (fun _ => by omega) (by simp at hk; omega)
      rw [this, hval]; simp; omega
theorem Uv_eq (x : Nat) (h : x < 2 ^ 64) (s : ByteArray) (t : List Nat) (hb : bys s = enc x ++ t) (k : Nat) (hk : 30 < k) : bits_Uvarint.f k s = some ((x : Int), ((enc x).length : Int), true) := by
  have hl := enc_len 9 x (by omega)
  have := Uv_from x s 0 0 k t (by simpa using hb) (by omega) (by simp) (by simpa using h) (by omega) (by omega)
  simpa [bits_Uvarint.f] using this

/-- All encodings, one behind the other. -/
def encs (l : List Nat) : List Nat := (l.map enc).flatten
theorem encs_len (l : List Nat) (h : ∀ x ∈ l, x < 2 ^ 64) : (encs l).length ≤ 10 * l.length := by
  induction l with
  | nil => simp [encs]
  | cons x l ih =>
    have h1 := enc_len 9 x (by have := h x (by simp); omega)
    have h2 := ih (fun y hy => h y (by simp [hy]))
    simp only [encs, List.map_cons, List.flatten_cons, List.length_append, List.length_cons] at h2 ⊢; omega
theorem rd_ints (l : List Nat) (i : Nat) (h : i < l.length) : rd (ints l) (i : Int) = (l[i] : Int) := by
  unfold rd ints; simp [h]
theorem encs_cons (x : Nat) (l : List Nat) : encs (x :: l) = enc x ++ encs l := rfl
theorem encs_append (l m : List Nat) : encs (l ++ m) = encs l ++ encs m := by unfold encs; rw [List.map_append, List.flatten_append]
theorem enc_len10 (x : Nat) (h : x < 2 ^ 64) : (enc x).length ≤ 10 := enc_len 9 x (by omega)
theorem empty_of {s : ByteArray} (h : bys s = []) : s.toList = ([] : List UInt8) := by
  have : s = ⟨#[]⟩ := bys_inj (by rw [h]; rfl)
  rw [this]; simp [ByteArray.toList, ByteArray.toList.loop, ByteArray.size]
theorem rest_of (s : ByteArray) (n : Nat) (A C : List Nat) (hs : bys s = A ++ C) (hn : n = A.length) : bys (s.extract n s.size) = C := by
  have hz : s.size = A.length + C.length := by rw [← bys_length, hs]; simp
  unfold bys at hs ⊢
  rw [ByteArray.data_extract]
  simp only [Array.toList_extract, List.extract_eq_take_drop, List.map_take, List.map_drop, hs]
  subst hn
  rw [List.drop_left, List.take_of_length_le (by omega)]
theorem second (l : List Nat) (hl : l.length ≤ 60) (hw : ∀ x ∈ l, x < 2 ^ 64) (d : Nat) : ∀ (i k : Nat) (s : ByteArray), i ≤ l.length → l.length - i = d → bys s = encs (l.drop i) → 41 + d ≤ k → vmfleetlaw1_BitsSequences.l1 k (ints l) s (i : Int) = some true := by
  have hll : ((ints l).length : Int) = (l.length : Int) := by simp [ints]
  induction d with
  | zero =>
    intro i k s hi hd hs hk
    obtain ⟨k, rfl⟩ : ∃ m, k = m + 1 := ⟨k - 1, by omega⟩
    simp only [vmfleetlaw1_BitsSequences.l1]
    have h2 := empty_of (s := s) (by rw [hs, List.drop_of_length_le (by omega)]; rfl)
    rw [if_neg (by omega), if_pos h2, awake_more k (by omega)]; rfl
  | succ d ih =>
    intro i k s hi hd hs hk
    obtain ⟨k, rfl⟩ : ∃ m, k = m + 1 := ⟨k - 1, by omega⟩
    have hlt : i < l.length := by omega
    have hx := hw l[i] (List.getElem_mem hlt)
    have hr := rd_ints l i hlt
    have hs2 : bys s = enc l[i] ++ encs (l.drop (i + 1)) := by rw [hs, List.drop_eq_getElem_cons hlt, encs_cons]
    generalize l[i] = x at hx hs2 hr
    have hz : s.size = (enc x).length + (encs (l.drop (i + 1))).length := by rw [← bys_length, hs2, List.length_append]
    have hn := enc_ne x
    have hr2 := rest_of s ((enc x).length : Int).toNat _ _ hs2 (by omega)
    have e1 : wrap64 ((i : Int) + 1) = ((i + 1 : Nat) : Int) := by rw [w64 (by omega) (by omega)]; simp
    have hu := Uv_eq x hx s _ hs2 k (by omega)
    clear hx hs2
    generalize (enc x).length = n at *
    simp only [vmfleetlaw1_BitsSequences.l1]
    rw [if_pos (by omega), hu]; simp only [Option.bind_some, if_true]
    rw [if_pos (by omega), if_pos hr.symm, if_neg (by omega), if_neg (by omega), if_pos (by omega), if_pos (by omega), e1]
    exact ih (i + 1) k _ (by omega) (by omega) hr2 (by omega)
theorem first (l : List Nat) (hl : l.length ≤ 60) (hw : ∀ x ∈ l, x < 2 ^ 64) (d : Nat) : ∀ (i k : Nat) (s : ByteArray), i ≤ l.length → l.length - i = d → bys s = encs (l.take i) → 110 + d ≤ k → vmfleetlaw1_BitsSequences.l0 k (ints l) s (i : Int) = some true := by
  have hll : ((ints l).length : Int) = (l.length : Int) := by simp [ints]
  induction d with
  | zero =>
    intro i k s hi hd hs hk
    obtain ⟨k, rfl⟩ : ∃ m, k = m + 1 := ⟨k - 1, by omega⟩
    simp only [vmfleetlaw1_BitsSequences.l0]
    rw [if_neg (by omega)]
    have h2 := second l hl hw l.length 0 k s (by omega) (by omega) (by rw [hs, List.take_of_length_le (by omega), List.drop_zero]) (by omega)
    rw [Int.natCast_zero] at h2
    exact h2
  | succ d ih =>
    intro i k s hi hd hs hk
    obtain ⟨k, rfl⟩ : ∃ m, k = m + 1 := ⟨k - 1, by omega⟩
    have hlt : i < l.length := by omega
    have hx := hw l[i] (List.getElem_mem hlt)
    have hr := rd_ints l i hlt
    have ht : encs (l.take (i + 1)) = encs (l.take i) ++ enc l[i] := by rw [List.take_succ_eq_append_getElem hlt, encs_append, encs_cons]; simp [encs]
    have h60 := encs_len (l.take i) (fun x hx => hw x (List.mem_of_mem_take hx))
    have htl : (l.take i).length ≤ 60 := by simp; omega
    have cA : (i : Int) < ((ints l).length : Int) := by rw [hll]; exact Int.ofNat_lt.2 hlt
    have cB : 0 ≤ (i : Int) := Int.natCast_nonneg _
    generalize l[i] = x at hx hr ht
    have hbs := bys_str (enc x) (enc_byte x)
    have hsz : (strOfNums (ints (enc x))).size = (enc x).length := by rw [← bys_length, hbs]
    have h10 := enc_len10 x hx
    have hz : s.size = (encs (l.take i)).length := by rw [← bys_length, hs]
    have e1 : wrap64 ((i : Int) + 1) = ((i + 1 : Nat) : Int) := by rw [w64 (by omega) (by omega)]; simp
    have hp := Put_eq x hx k (by omega)
    have hbs2 : bys (s ++ strOfNums (ints (enc x))) = encs (l.take (i + 1)) := by rw [bys_append, hs, hbs, ht]
    clear hx hbs ht
    generalize strOfNums (ints (enc x)) = z at *
    simp only [vmfleetlaw1_BitsSequences.l0]
    have cC : s.size + z.size ≤ 9223372036854775807 := by omega
    rw [if_pos cA, if_pos cB, hr, hp]; simp only [Option.bind_some]
    rw [if_pos cC, e1]
    clear h60 htl hz hsz h10 cC hr e1
    exact ih (i + 1) k _ (by omega) (by omega) hbs2 (by omega)
theorem BitsSequences : vmfleetlaw1_BitsSequences.Pure := by
  intro l h0 h1 h2
  refine ⟨300, ?_⟩
  unfold vmfleetlaw1_BitsSequences.f
  by_cases e1 : (l.length : Int) > 60
  · rw [if_pos e1, awake_more 300 (by omega)]; rfl
  · rw [if_neg e1]
    have hl : l = ints (l.map Int.toNat) := by
      unfold ints; rw [List.map_map]
      conv => lhs; rw [← List.map_id l]
      apply List.map_congr_left
      intro x hx
      have := bounds_u64 (h2 x hx)
      show x = Int.ofNat x.toNat
      have e : Int.ofNat x.toNat = (x.toNat : Int) := rfl
      rw [e]; omega
    rw [hl]
    have hw : ∀ x ∈ l.map Int.toNat, x < 2 ^ 64 := by
      intro x hx
      simp only [List.mem_map] at hx
      obtain ⟨y, hy, rfl⟩ := hx
      have := bounds_u64 (h2 y hy); omega
    have hlen : (l.map Int.toNat).length ≤ 60 := by simp; omega
    have h3 := first (l.map Int.toNat) hlen hw (l.map Int.toNat).length 0 300 (⟨#[]⟩ : ByteArray) (by omega) (by omega) (by rw [List.take_zero]; rfl) (by omega)
    rw [Int.natCast_zero] at h3
    exact h3
end Go.Proofs.Ytnpobmpdlcmipaa.Pure
