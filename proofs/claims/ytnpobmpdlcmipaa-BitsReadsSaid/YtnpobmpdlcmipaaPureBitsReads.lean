/- Proved: for any bytes Uvarint returns what the reference returns, and what it accepts is the encoding of the number. Conditions: none. -/
import Derived.Test.YtnpobmpdlcmipaaPBitsReadsx3
import Derived.Test.YtnpobmpdlcmipaaBv
import Derived.Test.YtnpobmpdlcmipaaVar
namespace Go.Proofs.Ytnpobmpdlcmipaa.Pure
open Go.RowKit Go.Proofs.Ytnpobmpdlcmipaa.PBitsReads Go.Proofs.YtnpobmpdlcmipaaW.PrintWords Go.Proofs.YtnpobmpdlcmipaaW.PrintLast Go.Proofs.Ytnpobmpdlcmipaa.Bv Go.Proofs.Ytnpobmpdlcmipaa.Var
set_option linter.unusedVariables false
set_option linter.unusedSimpArgs false

theorem awake_ends : vmfleetlaw1_awake.f 20 = some true := by kernel_rfl
theorem awake_more (k : Nat) (h : 20 ≤ k) : vmfleetlaw1_awake.f k = some true := at_rounds vmfleetlaw1_awake.mono h awake_ends

theorem Put_from (n : Nat) : ∀ (x : Nat) (acc : List Nat) (k : Nat), (enc x).length = n → acc.length + n < 1000 → n < k → bits_PutUvarint.l0 k (x : Int) (ints acc) = some (strOfNums (ints (acc ++ enc x))) := by
  induction n with
  | zero => intro x acc k h; have := enc_ne x; omega
  | succ n ih =>
    intro x acc k hn ha hk
    obtain ⟨k, rfl⟩ : ∃ m, k = m + 1 := ⟨k - 1, by omega⟩
    simp only [bits_PutUvarint.l0]
    have hl : (ints acc).length = acc.length := by simp [ints]
    by_cases h : x < 128
    · rw [if_neg (by omega), if_pos (by rw [hl]; omega), enc_lt h]
      have e : (x : Int) % 256 = (x : Int) := by omega
      rw [e]; simp [ints]
    · have e2 : (x : Int) / 128 = ((x / 128 : Nat) : Int) := by omega
      have hle := enc_len
      rw [if_pos (by omega), if_pos (by rw [hl]; omega), or128, e2]
      rw [enc_ge h] at hn ⊢
      have := ih (x / 128) (acc ++ [x % 128 + 128]) k (by simpa using hn) (by simp; omega) (by omega)
      simpa [ints] using this
theorem Put_eq (x : Nat) (h : x < 2 ^ 64) (k : Nat) (hk : 11 < k) : bits_PutUvarint.f k (x : Int) = some (strOfNums (ints (enc x))) := by
  have hl := enc_len 9 x (by omega)
  have := Put_from (enc x).length x [] k rfl (by simp; omega) (by omega)
  simpa [bits_PutUvarint.f, ints] using this

/-- The number that bytes tell, from place i on. -/
def dec : List Nat → Nat → Nat → Nat × Nat × Bool
  | [], _, _ => (0, 0, false)
  | b :: t, i, a => if i ≥ 10 then (0, 0, false) else if i = 9 ∧ b > 1 then (0, 0, false) else
    if b < 128 then (if b = 0 ∧ 0 < i then (0, 0, false) else (a + b % 128 * 2 ^ (7 * i), i + 1, true)) else dec t (i + 1) (a + b % 128 * 2 ^ (7 * i))
def up (r : Nat × Nat × Bool) : Int × Int × Bool := ((r.1 : Int), (r.2.1 : Int), r.2.2)
theorem fits (a b i : Nat) (ha : a < 2 ^ (7 * i)) (hi : i < 10) (hb : ¬ (i = 9 ∧ b > 1)) : b % 128 * 2 ^ (7 * i) < 2 ^ 64 ∧ a + b % 128 * 2 ^ (7 * i) < 2 ^ 64 ∧ a + b % 128 * 2 ^ (7 * i) < 2 ^ (7 * (i + 1)) := by
  have h3 : a + b % 128 * 2 ^ (7 * i) < 2 ^ (7 * (i + 1)) := by
    rw [pow7]
    have : b % 128 * 2 ^ (7 * i) ≤ 127 * 2 ^ (7 * i) := Nat.mul_le_mul_right _ (by omega)
    omega
  by_cases h9 : i = 9
  · subst h9
    have hb1 : b ≤ 1 := by omega
    have hb2 : b % 128 ≤ 1 := by omega
    have : b % 128 * 2 ^ (7 * 9) ≤ 1 * 2 ^ (7 * 9) := Nat.mul_le_mul_right _ hb2
    refine ⟨?_, ?_, h3⟩ <;> omega
  · have : (2 : Nat) ^ (7 * (i + 1)) ≤ 2 ^ 64 := Nat.pow_le_pow_right (by decide) (by omega)
    refine ⟨?_, ?_, h3⟩ <;> omega
theorem Uv_dec (s : ByteArray) (l : List Nat) : ∀ (i a k : Nat), (bys s).drop i = l → i ≤ 10 → Aside0 (a < 2 ^ (7 * i)) → 2 * l.length < k → bits_Uvarint.l0 k s (a : Int) (mn (s.size : Int) 10) (i : Int) = some (up (dec l i a)) := by
  induction l with
  | nil =>
    intro i a k hd hi ha hk
    obtain ⟨k, rfl⟩ : ∃ m, k = m + 1 := ⟨k - 1, by omega⟩
    have hl : s.size ≤ i := by rw [← bys_length]; exact List.drop_eq_nil_iff.1 hd
    simp only [bits_Uvarint.l0]
    rw [if_neg (by unfold mn; split <;> omega)]; rfl
  | cons b t ih =>
    intro i a k hd hi ha hk
    have hk' : 2 * t.length + 2 < k := by simp at hk; omega
    obtain ⟨k, rfl⟩ : ∃ m, k = m + 2 := ⟨k - 2, by omega⟩
    have hg : (bys s)[i]? = some b := by have := List.getElem?_drop (xs := bys s) (i := i) (j := 0); rw [hd] at this; simpa using this.symm
    have hb256 : b < 256 := bys_lt s b (List.mem_of_getElem? hg)
    obtain ⟨hbt, hsz⟩ := bt_bys s i b hg
    have hd2 : (bys s).drop (i + 1) = t := by rw [← List.drop_drop, hd]; simp
    simp only [bits_Uvarint.l0]
    by_cases h10 : i ≥ 10
    · rw [if_neg (by unfold mn; split <;> omega)]; unfold dec; rw [if_pos h10]; rfl
    · have hlim : (i : Int) < mn (s.size : Int) 10 := by unfold mn; split <;> omega
      have e7 : wrap64 (7 * (i : Int)) = 7 * (i : Int) := w64 (by omega) (by omega)
      have e1 : wrap64 ((i : Int) + 1) = ((i + 1 : Nat) : Int) := by rw [w64 (by omega) (by omega)]; simp
      rw [if_pos hlim, if_pos (by omega), if_pos (by omega), hbt]
      have hj : ∀ c : Bool, c = decide (i = 9 ∧ b > 1) → bits_Uvarint.j1 (k + 1) s (a : Int) (i : Int) (b : Int) (mn (s.size : Int) 10) (i : Int) c = some (up (dec (b :: t) i a)) := by
        intro c hc
        simp only [bits_Uvarint.j1]
        unfold dec
        rw [if_neg h10]
        by_cases h9 : i = 9 ∧ b > 1
        · have : c = true := by rw [hc]; exact decide_eq_true h9
          rw [if_pos this, if_pos h9]; rfl
        · have : ¬ c = true := by rw [hc]; simpa using h9
          have F := Aside0.mk (fits a b i ha.out (by omega) h9)
          have e4 : Go.bits .and .u8 (b : Int) 127 = ((b % 128 : Nat) : Int) := and127_u8 b hb256
          have e5 : IntKind.u64.wrap ((b % 128 : Nat) : Int) = ((b % 128 : Nat) : Int) := by rw [wu64]; omega
          rw [if_neg this, if_neg h9, e7, if_pos (by omega), e4, e5, add_byte a (b % 128) i ha.out (by omega) F.out.1, e1]
          by_cases hb1 : b < 128
          · rw [if_pos (by omega), if_pos hb1]
            by_cases hz : b = 0
            · rw [if_pos (by omega)]
              by_cases hi0 : 0 < i
              · rw [if_pos (by omega), if_pos ⟨hz, hi0⟩]; rfl
              · rw [if_neg (by omega), if_neg (by omega)]; rfl
            · rw [if_neg (by omega), if_neg (by omega)]; rfl
          · rw [if_neg (by omega), if_neg hb1]
            exact ih (i + 1) _ k hd2 (by omega) ⟨F.out.2.2⟩ (by omega)
      by_cases h9 : i = 9
      · rw [if_pos (by omega)]; exact hj _ (by rw [decide_eq_decide]; omega)
      · rw [if_neg (by omega)]; exact hj _ (by simp [h9])
theorem rUv_dec (s : ByteArray) (hsz0 : s.size ≤ 140737488351232) (l : List Nat) : ∀ (i a k : Nat), (bys s).drop i = l → i ≤ 10 → Aside0 (a < 2 ^ (7 * i)) → 3 * l.length + 2 < k → vmfleetref1_Uvarint.l0 k s (a : Int) (i : Int) = some (up (dec l i a)) := by
  induction l with
  | nil =>
    intro i a k hd hi ha hk
    obtain ⟨k, rfl⟩ : ∃ m, k = m + 2 := ⟨k - 2, by omega⟩
    have hl : s.size ≤ i := by rw [← bys_length]; exact List.drop_eq_nil_iff.1 hd
    simp only [vmfleetref1_Uvarint.l0]
    rw [if_neg (by omega)]
    simp only [vmfleetref1_Uvarint.j1]
    rw [if_neg (by simp)]; rfl
  | cons b t ih =>
    intro i a k hd hi ha hk
    have hk' : 3 * t.length + 5 < k := by simp at hk; omega
    obtain ⟨k, rfl⟩ : ∃ m, k = m + 3 := ⟨k - 3, by omega⟩
    have hg : (bys s)[i]? = some b := by have := List.getElem?_drop (xs := bys s) (i := i) (j := 0); rw [hd] at this; simpa using this.symm
    have hb256 : b < 256 := bys_lt s b (List.mem_of_getElem? hg)
    obtain ⟨hbt, hsz⟩ := bt_bys s i b hg
    have hd2 : (bys s).drop (i + 1) = t := by rw [← List.drop_drop, hd]; simp
    simp only [vmfleetref1_Uvarint.l0]
    rw [if_pos (by omega)]
    simp only [vmfleetref1_Uvarint.j1]
    by_cases h10 : i ≥ 10
    · have : ¬ decide ((i : Int) < 10) = true := by simp; omega
      rw [if_neg this]; unfold dec; rw [if_pos h10]; rfl
    · have hd10 : decide ((i : Int) < 10) = true := by simp; omega
      have e7 : IntKind.u64.wrap (wrap64 (7 * (i : Int))) = 7 * (i : Int) := by rw [w64 (by omega) (by omega), wu64]; omega
      have e1 : wrap64 ((i : Int) + 1) = ((i + 1 : Nat) : Int) := by rw [w64 (by omega) (by omega)]; simp
      have e6 : IntKind.u64.wrap (b : Int) = (b : Int) := by rw [wu64]; omega
      rw [if_pos hd10, if_pos (by omega), if_pos (by omega), hbt, e6]
      have hj : ∀ c : Bool, c = decide (i = 9 ∧ b > 1) → vmfleetref1_Uvarint.j2 (k + 1) s (a : Int) (i : Int) (b : Int) c = some (up (dec (b :: t) i a)) := by
        intro c hc
        simp only [vmfleetref1_Uvarint.j2]
        unfold dec
        rw [if_neg h10]
        by_cases h9 : i = 9 ∧ b > 1
        · have : c = true := by rw [hc]; exact decide_eq_true h9
          rw [if_pos this, if_pos h9]; rfl
        · have : ¬ c = true := by rw [hc]; simpa using h9
          have F := Aside0.mk (fits a b i ha.out (by omega) h9)
          have e4 : Go.bits .and .u64 (b : Int) 127 = ((b % 128 : Nat) : Int) := and127_u64 b (by omega)
          rw [if_neg this, if_neg h9, e7, if_pos (by omega), e4, add_byte a (b % 128) i ha.out (by omega) F.out.1, e1]
          by_cases hb1 : b < 128
          · rw [if_pos (by omega), if_pos hb1]
            by_cases hi0 : 0 < i
            · rw [if_pos (by omega)]
              by_cases hz : b = 0
              · rw [if_pos (by omega), if_pos ⟨hz, hi0⟩]; rfl
              · rw [if_neg (by omega), if_neg (by omega)]; rfl
            · rw [if_neg (by omega), if_neg (by omega)]; rfl
          · rw [if_neg (by omega), if_neg hb1]
            exact ih (i + 1) _ k hd2 (by omega) ⟨F.out.2.2⟩ (by omega)
      by_cases h9 : i = 9
      · rw [if_pos (by omega)]; exact hj _ (by rw [decide_eq_decide]; omega)
      · rw [if_neg (by omega)]; exact hj _ (by simp [h9])
/-- What is accepted is an encoding. -/
theorem dec_ok (l : List Nat) (hl : ∀ b ∈ l, b < 256) : ∀ (i a x n : Nat), a < 2 ^ (7 * i) → dec l i a = (x, n, true) → ∃ y t, l = enc y ++ t ∧ x = a + y * 2 ^ (7 * i) ∧ n = i + (enc y).length ∧ x < 2 ^ 64 ∧ (0 < i → 0 < y) := by
  induction l with
  | nil => intro i a x n _ h; simp [dec] at h
  | cons b t ih =>
    intro i a x n ha h
    unfold dec at h
    by_cases h10 : i ≥ 10
    · rw [if_pos h10] at h; simp at h
    · rw [if_neg h10] at h
      by_cases h9 : i = 9 ∧ b > 1
      · rw [if_pos h9] at h; simp at h
      · rw [if_neg h9] at h
        obtain ⟨f1, f2, f3⟩ := fits a b i ha (by omega) h9
        by_cases hb : b < 128
        · rw [if_pos hb] at h
          by_cases hz : b = 0 ∧ 0 < i
          · rw [if_pos hz] at h; simp at h
          · rw [if_neg hz] at h
            simp only [Prod.mk.injEq, and_true] at h
            obtain ⟨rfl, rfl⟩ := h
            have e : b % 128 = b := by omega
            rw [e] at f2 ⊢
            exact ⟨b, t, by rw [enc_lt hb]; rfl, rfl, by rw [enc_lt hb]; rfl, f2, fun h => by omega⟩
        · rw [if_neg hb] at h
          obtain ⟨y, t', h1, h2, h3, h4, h5⟩ := ih (fun c hc => hl c (by simp [hc])) (i + 1) _ x n f3 h
          have hy := h5 (by omega)
          have hb256 := hl b (by simp)
          have hge : ¬ (b % 128 + 128 * y) < 128 := by omega
          have he : enc (b % 128 + 128 * y) = b :: enc y := by
            rw [enc_ge hge]
            have e1 : (b % 128 + 128 * y) % 128 + 128 = b := by omega
            have e2 : (b % 128 + 128 * y) / 128 = y := by omega
            rw [e1, e2]
          refine ⟨b % 128 + 128 * y, t', by rw [he, h1]; rfl, ?_, by rw [he, h3]; simp; omega, h4, fun _ => by omega⟩
          rw [h2, pow7, Nat.add_mul, ← Nat.mul_assoc, Nat.mul_comm y 128]; omega
theorem front_of (s : ByteArray) (n : Nat) (A C : List Nat) (hs : bys s = A ++ C) (hn : n = A.length) : bys (s.extract 0 n) = A := by
  unfold bys at hs ⊢
  rw [ByteArray.data_extract]
  simp only [Array.toList_extract, List.extract_eq_take_drop, List.map_take, List.map_drop, hs]
  subst hn
  simp
theorem BitsReads : vmfleetlaw1_BitsReads.Pure := by
  intro s h0
  refine ⟨500, ?_⟩
  unfold vmfleetlaw1_BitsReads.f
  by_cases e1 : (s.size : Int) > 100
  · rw [if_pos e1, awake_more 500 (by omega)]; rfl
  · have hlen : (bys s).length ≤ 100 := by rw [bys_length]; omega
    have u1 : bits_Uvarint.f 500 s = some (up (dec (bys s) 0 0)) := by
      have := Uv_dec s (bys s) 0 0 500 (by simp) (by omega) ⟨by simp⟩ (by omega)
      rw [Int.natCast_zero] at this; exact this
    have u2 : vmfleetref1_Uvarint.f 500 s = some (up (dec (bys s) 0 0)) := by
      have := rUv_dec s h0 (bys s) 0 0 500 (by simp) (by omega) ⟨by simp⟩ (by omega)
      rw [Int.natCast_zero] at this; exact this
    rw [if_neg e1, u1]; simp only [Option.bind_some]
    rw [u2]; simp only [Option.bind_some, if_true]
    generalize hr : dec (bys s) 0 0 = R
    obtain ⟨x, n, ok⟩ := R
    have hne : (ok != ok) = false := by cases ok <;> rfl
    simp only [up, hne]
    simp only [vmfleetlaw1_BitsReads.j0]
    rw [if_neg (by simp)]
    cases ok with
    | false => rw [if_neg (by simp), awake_more 499 (by omega)]; rfl
    | true =>
      obtain ⟨y, t, h1, h2, h3, h4, h5⟩ := dec_ok (bys s) (bys_lt s) 0 0 x n (by simp) hr
      obtain rfl : x = y := by simpa using h2
      have hn : n = (enc x).length := by simpa using h3
      have hsz : n ≤ s.size := by rw [← bys_length, h1, hn]; simp
      rw [if_pos rfl, Put_eq x h4 499 (by omega)]; simp only [Option.bind_some]
      have hfr : strOfNums (ints (enc x)) = s.extract 0 ((n : Int).toNat) := by
        apply bys_inj
        rw [bys_str (enc x) (enc_byte x), front_of s _ _ _ h1 (by rw [← hn]; simp)]
      rw [if_pos (by omega), if_pos (by omega), if_pos (by rw [hfr]), awake_more 499 (by omega)]; rfl
end Go.Proofs.Ytnpobmpdlcmipaa.Pure
