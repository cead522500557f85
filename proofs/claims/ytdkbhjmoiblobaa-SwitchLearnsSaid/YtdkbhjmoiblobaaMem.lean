/- Plain laws on memories (lists of words): the program's and the reference's functions as plain functions. -/
import Derived.Test.YtdkbhjmoiblobaaWMore
import Derived.OpenShut
import Derived.Test.YtdkbhjmoiblobaaBv
namespace Go.Proofs.Ytdkbhjmoiblobaa.Mem
open Go.RowKit Go.Proofs.YtdkbhjmoiblobaaW.PrintWords Go.Proofs.Ytdkbhjmoiblobaa.Bv
set_option linter.unusedVariables false
set_option linter.unusedSimpArgs false

theorem w64 {n : Int} (h0 : -9223372036854775808 ≤ n) (h1 : n ≤ 9223372036854775807) : wrap64 n = n := by unfold wrap64; omega
theorem w64n {a : Int} {n : Nat} (h : a = (n : Int)) (hn : n ≤ 9223372036854775807) : wrap64 a = (n : Int) := by rw [h]; exact w64 (by omega) (by omega)
theorem wu64 (n : Int) : IntKind.u64.wrap n = n % 18446744073709551616 := by simp [IntKind.wrap, IntKind.bits, IntKind.signed]
theorem u64w {n : Int} (h0 : 0 ≤ n) (h1 : n ≤ 18446744073709551615) : IntKind.u64.wrap n = n := by rw [wu64]; omega
/-- Every word is a word. -/
def Ws (l : List Int) : Prop := ∀ x ∈ l, 0 ≤ x ∧ x ≤ 4294967295
theorem Ws.nil : Ws [] := by intro x h; cases h
theorem Ws.set {l : List Int} (h : Ws l) (i : Nat) {v : Int} (hv : 0 ≤ v ∧ v ≤ 4294967295) : Ws (l.set i v) := by
  intro x hx
  rcases List.mem_or_eq_of_mem_set hx with h1 | h1
  · exact h x h1
  · rw [h1]; exact hv
theorem Ws.rep (n : Nat) : Ws (List.replicate n 0) := by intro x h; rw [List.eq_of_mem_replicate h]; omega
theorem Ws.at_ {l : List Int} (h : Ws l) (i : Int) : 0 ≤ rd l i ∧ rd l i ≤ 4294967295 := by
  unfold rd
  rw [List.getD_eq_getElem?_getD]
  rcases Nat.lt_or_ge i.toNat l.length with hi | hi
  · rw [List.getElem?_eq_getElem hi]; exact h _ (List.getElem_mem hi)
  · rw [List.getElem?_eq_none hi]; simp
/-- A number as a word. -/
def W (x : Int) : BitVec 32 := BitVec.ofInt 32 x
theorem B_W {x : Int} (h : 0 ≤ x ∧ x ≤ 4294967295) : B (W x) = x := by unfold W; rw [ofInt_B]; omega
theorem W_B (x : BitVec 32) : W (B x) = x := B_ofInt x
theorem B_word (x : BitVec 32) : 0 ≤ B x ∧ B x ≤ 4294967295 := by have := B_lt x; have := B_ge x; omega
/-- The number of pages. -/
def pagesv (l : List Int) : Int := if l.length % 32 = 0 ∧ l.length ≤ 1024 then ((l.length / 32 : Nat) : Int) else 0
theorem pagesv_le (l : List Int) : 0 ≤ pagesv l ∧ pagesv l ≤ 32 ∧ 32 * pagesv l ≤ l.length := by unfold pagesv; split <;> omega
theorem pagesv_of {l : List Int} {n : Nat} (h : l.length = 32 * n) (hn : n ≤ 32) : pagesv l = n := by unfold pagesv; rw [if_pos (by omega)]; omega
def withinv (l : List Int) (a s : Int) : Prop := (s = 1 ∨ s = 4) ∧ a % s = 0 ∧ a + s ≤ pagesv l * 128
instance (l : List Int) (a s : Int) : Decidable (withinv l a s) := by unfold withinv; infer_instance
/-- What a store puts into its word. -/
def put (l : List Int) (a s v : Int) : Int := if s = 1 then B (setv (W (rd l (a / 4))) (8 * (a % 4)) 8 (W v)) else v
def storev (l : List Int) (a s v : Int) : List Int × Bool := if withinv l a s then (l.set (a / 4).toNat (put l a s v), true) else (l, false)
def getw (l : List Int) (a s : Int) : Int := if s = 1 then B (fieldv (W (rd l (a / 4))) (8 * (a % 4)) 8) else rd l (a / 4)
def loadv (l : List Int) (a s : Int) : Int × Bool := if withinv l a s then (getw l a s, true) else (0, false)
theorem within_idx {l : List Int} {a s : Int} (h : withinv l a s) (h0 : 0 ≤ a) : a / 4 < (l.length : Int) ∧ a < 4096 := by
  obtain ⟨h1, h2, h3⟩ := h
  have := pagesv_le l
  rcases h1 with rfl | rfl <;> omega
theorem put_word (l : List Int) (a s : Int) {v : Int} (hv : 0 ≤ v ∧ v ≤ 4294967295) : 0 ≤ put l a s v ∧ put l a s v ≤ 4294967295 := by
  unfold put; split
  · exact B_word _
  · exact hv
theorem storev_len (l : List Int) (a s v : Int) : (storev l a s v).1.length = l.length := by unfold storev; split <;> simp
theorem storev_ws {l : List Int} (h : Ws l) (a s : Int) {v : Int} (hv : 0 ≤ v ∧ v ≤ 4294967295) : Ws (storev l a s v).1 := by
  unfold storev; split
  · exact h.set _ (put_word l a s hv)
  · exact h
theorem pagesv_congr {l m : List Int} (h : l.length = m.length) : pagesv l = pagesv m := by unfold pagesv; rw [h]
theorem withinv_congr {l m : List Int} (h : l.length = m.length) (a s : Int) : withinv l a s ↔ withinv m a s := by unfold withinv; rw [pagesv_congr h]
/-! ### bytes of words -/
/-- Byte j of a word. -/
def byt (x : Int) (j : Nat) : Int := x / 2 ^ (8 * j) % 256
theorem field_byte (x : BitVec 32) (j : Nat) (hj : j ≤ 3) : B (fieldv x (8 * (j : Int)) 8) = byt (B x) j := by
  unfold fieldv byt
  rw [if_neg (by omega)]
  have e1 : (8 * (j : Int)).toNat = 8 * j := by omega
  have e2 : Mi 8 = M 8 := rfl
  rw [e1, e2]
  unfold B
  rw [BitVec.toNat_and, BitVec.toNat_ushiftRight, Nat.shiftRight_eq_div_pow]
  have e3 : (M 8).toNat = 2 ^ 8 - 1 := rfl
  rw [e3, Nat.and_two_pow_sub_one_eq_mod]
  rw [Int.natCast_emod, Int.natCast_ediv, Int.natCast_pow]; rfl
theorem field_other (x v : BitVec 32) (i j : Nat) (hi : i ≤ 3) (hj : j ≤ 3) (hij : i ≠ j) : fieldv (setv x (8 * (i : Int)) 8 v) (8 * (j : Int)) 8 = fieldv x (8 * (j : Int)) 8 := by
  apply ext; intro b hb
  rw [field_bit _ _ _ (by omega) (by omega) (by omega) b hb, field_bit _ _ _ (by omega) (by omega) (by omega) b hb]
  by_cases h8 : (b : Int) < 8
  · have e1 : (8 * (j : Int)).toNat = 8 * j := by omega
    rw [set_keeps _ _ _ _ (by omega) (by omega) (by omega) _ (by omega) (by omega)]
  · have : decide ((b : Int) < 8) = false := by simpa using h8
    rw [this]; rfl
theorem field0_byte (v : BitVec 32) : B (fieldv v 0 8) = B v % 256 := by have := field_byte v 0 (by omega); simpa [byt] using this
theorem byt_set (x v : BitVec 32) (i j : Nat) (hi : i ≤ 3) (hj : j ≤ 3) : byt (B (setv x (8 * (i : Int)) 8 v)) j = if i = j then B v % 256 else byt (B x) j := by
  rw [← field_byte _ j hj]
  by_cases h : i = j
  · subst h
    rw [if_pos rfl, field_set x v (8 * (i : Int)) 8 (by omega) (by omega) (by omega) (by omega), field0_byte]
  · rw [if_neg h, field_other x v i j hi hj h, field_byte _ j hj]
theorem word_bytes (x : Int) (h : 0 ≤ x ∧ x ≤ 4294967295) : byt x 0 + 256 * byt x 1 + 65536 * byt x 2 + 16777216 * byt x 3 = x := by
  have e0 : (2 : Int) ^ (8 * 0) = 1 := rfl
  have e1 : (2 : Int) ^ (8 * 1) = 256 := rfl
  have e2 : (2 : Int) ^ (8 * 2) = 65536 := rfl
  have e3 : (2 : Int) ^ (8 * 3) = 16777216 := rfl
  unfold byt; rw [e0, e1, e2, e3]; omega
/-- Two words with the same bytes are one. -/
theorem word_ext {x y : Int} (hx : 0 ≤ x ∧ x ≤ 4294967295) (hy : 0 ≤ y ∧ y ≤ 4294967295) (h : ∀ j, j ≤ 3 → byt x j = byt y j) : x = y := by
  rw [← word_bytes x hx, ← word_bytes y hy, h 0 (by omega), h 1 (by omega), h 2 (by omega), h 3 (by omega)]
/-- The four bytes of a word. -/
def b4 (x : Int) : List Int := [x % 256, x / 256 % 256, x / 65536 % 256, x / 16777216 % 256]
theorem b4_at (x : Int) (j : Nat) (h : j ≤ 3) : (b4 x)[j]? = some (byt x j) := by
  have hj : j = 0 ∨ j = 1 ∨ j = 2 ∨ j = 3 := by omega
  rcases hj with rfl | rfl | rfl | rfl
  · show some (x % 256) = some (x / 1 % 256); rw [Int.ediv_one]
  · rfl
  · rfl
  · rfl
theorem b4_len (l : List Int) : (l.flatMap b4).length = 4 * l.length := by
  induction l with
  | nil => rfl
  | cons a l ih => simp only [List.flatMap_cons, List.length_append, ih, List.length_cons]; simp [b4]; omega
theorem flat_at (l : List Int) : ∀ (i j : Nat), i < l.length → j ≤ 3 → (l.flatMap b4)[4 * i + j]? = some (byt (l.getD i 0) j) := by
  induction l with
  | nil => intro i j h; simp at h
  | cons a l ih =>
    intro i j h hj
    rw [List.flatMap_cons]
    cases i with
    | zero => rw [List.getElem?_append_left (by simp [b4]; omega)]; simpa using b4_at a j hj
    | succ i =>
      have hl : (b4 a).length = 4 := rfl
      rw [List.getElem?_append_right (by omega), hl]
      have e : 4 * (i + 1) + j - 4 = 4 * i + j := by omega
      rw [e, ih i j (by simpa using h) hj]; rfl
/-- A table that holds a memory's bytes. -/
def TB (m t : List Int) : Prop := t.length = 4 * m.length ∧ ∀ i j, i < m.length → j ≤ 3 → t[4 * i + j]? = some (byt (m.getD i 0) j)
theorem TB.flat {m t : List Int} (h : TB m t) : t = m.flatMap b4 := by
  apply List.ext_getElem?
  intro k
  rcases Nat.lt_or_ge k (4 * m.length) with hk | hk
  · have e : k = 4 * (k / 4) + k % 4 := by omega
    rw [e, h.2 _ _ (by omega) (by omega), flat_at m _ _ (by omega) (by omega)]
  · rw [List.getElem?_eq_none (by rw [h.1]; omega), List.getElem?_eq_none (by rw [b4_len]; omega)]
theorem TB.of (m : List Int) : TB m (m.flatMap b4) := ⟨b4_len m, fun i j hi hj => flat_at m i j hi hj⟩
theorem flat_take (l : List Int) (k : Nat) : (l.take k).flatMap b4 = (l.flatMap b4).take (4 * k) := by
  induction l generalizing k with
  | nil => simp
  | cons a l ih =>
    cases k with
    | zero => simp
    | succ k =>
      have hl : (b4 a).length = 4 := rfl
      rw [List.take_succ_cons, List.flatMap_cons, List.flatMap_cons, ih, List.take_append, hl, List.take_of_length_le (l := b4 a) (by omega)]
      have e : 4 * (k + 1) - 4 = 4 * k := by omega
      rw [e]
theorem flat_drop (l : List Int) (k : Nat) : (l.drop k).flatMap b4 = (l.flatMap b4).drop (4 * k) := by
  induction l generalizing k with
  | nil => simp
  | cons a l ih =>
    cases k with
    | zero => simp
    | succ k =>
      have hl : (b4 a).length = 4 := rfl
      rw [List.drop_succ_cons, ih, List.flatMap_cons, List.drop_append, hl, List.drop_of_length_le (l := b4 a) (by omega)]
      have e : 4 * (k + 1) - 4 = 4 * k := by omega
      rw [e]; rfl
/-- One byte stored. -/
theorem TB.one {m t : List Int} (h : TB m t) (a v : Int) (h0 : 0 ≤ a) (h1 : a < 4 * m.length) (hv : 0 ≤ v ∧ v ≤ 4294967295) :
    TB (m.set (a / 4).toNat (put m a 1 v)) (t.set a.toNat (v % 256)) := by
  refine ⟨by simp [h.1], fun i j hi hj => ?_⟩
  rw [List.length_set] at hi
  unfold put
  rw [if_pos rfl]
  have hq : (8 * (a % 4) : Int) = 8 * ((a % 4).toNat : Int) := by omega
  by_cases hia : i = (a / 4).toNat
  · have e1 : (m.set (a / 4).toNat (B (setv (W (rd m (a / 4))) (8 * (a % 4)) 8 (W v)))).getD i 0 = B (setv (W (rd m (a / 4))) (8 * (a % 4)) 8 (W v)) := by
      rw [← hia, List.getD_eq_getElem?_getD, List.getElem?_set_self hi]; rfl
    rw [e1, hq, byt_set _ _ _ _ (by omega) hj, B_W hv]
    by_cases hj2 : (a % 4).toNat = j
    · have e2 : 4 * i + j = a.toNat := by omega
      rw [if_pos hj2, e2, List.getElem?_set_self (by rw [h.1]; omega)]
    · have e2 : a.toNat ≠ 4 * i + j := by omega
      rw [if_neg hj2, List.getElem?_set_ne e2, h.2 i j hi hj]
      have hr : rd m (a / 4) = m.getD i 0 := by unfold rd; rw [hia]
      rw [hr]
      congr 1
      unfold W; rw [ofInt_B]
      unfold byt
      have hj4 : j = 0 ∨ j = 1 ∨ j = 2 ∨ j = 3 := by omega
      have p0 : (2 : Int) ^ (8 * 0) = 1 := rfl
      have p1 : (2 : Int) ^ (8 * 1) = 256 := rfl
      have p2 : (2 : Int) ^ (8 * 2) = 65536 := rfl
      have p3 : (2 : Int) ^ (8 * 3) = 16777216 := rfl
      rcases hj4 with rfl | rfl | rfl | rfl
      · rw [p0]; omega
      · rw [p1]; omega
      · rw [p2]; omega
      · rw [p3]; omega
  · have e1 : (m.set (a / 4).toNat (B (setv (W (rd m (a / 4))) (8 * (a % 4)) 8 (W v)))).getD i 0 = m.getD i 0 := by
      rw [List.getD_eq_getElem?_getD, List.getElem?_set_ne (Ne.symm hia), ← List.getD_eq_getElem?_getD]
    have e2 : a.toNat ≠ 4 * i + j := by omega
    rw [e1, List.getElem?_set_ne e2, h.2 i j hi hj]
/-- A word stored. -/
theorem TB.word {m t : List Int} (h : TB m t) (q : Nat) (v : Int) (h1 : q < m.length) :
    TB (m.set q v) ((((t.set (4 * q) (byt v 0)).set (4 * q + 1) (byt v 1)).set (4 * q + 2) (byt v 2)).set (4 * q + 3) (byt v 3)) := by
  refine ⟨by simp [h.1], fun i j hi hj => ?_⟩
  rw [List.length_set] at hi
  have hl := h.1
  by_cases hia : i = q
  · subst hia
    have e1 : (m.set i v).getD i 0 = v := by rw [List.getD_eq_getElem?_getD, List.getElem?_set_self hi]; rfl
    rw [e1]
    have hj4 : j = 0 ∨ j = 1 ∨ j = 2 ∨ j = 3 := by omega
    rcases hj4 with rfl | rfl | rfl | rfl
    · rw [List.getElem?_set_ne (by omega), List.getElem?_set_ne (by omega), List.getElem?_set_ne (by omega), Nat.add_zero, List.getElem?_set_self (by omega)]
    · rw [List.getElem?_set_ne (by omega), List.getElem?_set_ne (by omega), List.getElem?_set_self (by simp; omega)]
    · rw [List.getElem?_set_ne (by omega), List.getElem?_set_self (by simp; omega)]
    · rw [List.getElem?_set_self (by simp; omega)]
  · have e1 : (m.set q v).getD i 0 = m.getD i 0 := by rw [List.getD_eq_getElem?_getD, List.getElem?_set_ne (Ne.symm hia), ← List.getD_eq_getElem?_getD]
    rw [e1, List.getElem?_set_ne (by omega), List.getElem?_set_ne (by omega), List.getElem?_set_ne (by omega), List.getElem?_set_ne (by omega), h.2 i j hi hj]
/-! ### pages out of bytes -/
theorem bt_str (l : List Int) (i : Nat) (x : Int) (h : l[i]? = some x) (hx : 0 ≤ x ∧ x ≤ 255) : bt (strOfNums l) (i : Int) = x := by
  have hi : i < l.length := (List.getElem?_eq_some_iff.1 h).1
  have he : l[i] = x := (List.getElem?_eq_some_iff.1 h).2
  unfold bt
  rw [dif_pos (by rw [strOfNums_size]; simpa using hi)]
  have : (strOfNums l)[(i : Int).toNat]'(by rw [strOfNums_size]; simpa using hi) = UInt8.ofNat x.toNat := by
    show (strOfNums l).data[(i : Int).toNat]'_ = _
    simp only [strOfNums]
    rw [List.getElem_toArray, List.getElem_map]
    simp only [Int.toNat_natCast, he]
  rw [this, UInt8.toNat_ofNat']; omega
/-- Word i of the bytes of a string. -/
def wd (s : ByteArray) (i : Nat) : Int := bt s ((4 * i : Nat) : Int) + 256 * bt s ((4 * i + 1 : Nat) : Int) + 65536 * bt s ((4 * i + 2 : Nat) : Int) + 16777216 * bt s ((4 * i + 3 : Nat) : Int)
theorem wd_word (s : ByteArray) (i : Nat) : 0 ≤ wd s i ∧ wd s i ≤ 4294967295 := by
  unfold wd
  have h0 := bt_range s ((4 * i : Nat) : Int)
  have h1 := bt_range s ((4 * i + 1 : Nat) : Int)
  have h2 := bt_range s ((4 * i + 2 : Nat) : Int)
  have h3 := bt_range s ((4 * i + 3 : Nat) : Int)
  omega
/-- A page laid word by word: d words from word i on. -/
def sp (f : Nat) (s : ByteArray) : Nat → Nat → List Int → List Int
  | _, 0, m => m
  | i, d + 1, m => sp f s (i + 1) d (m.set (32 * f + i) (wd s i))
theorem sp_len (f : Nat) (s : ByteArray) (d : Nat) : ∀ (i : Nat) (m : List Int), (sp f s i d m).length = m.length := by
  induction d with
  | zero => intro i m; rfl
  | succ d ih => intro i m; unfold sp; rw [ih]; simp
theorem sp_ws (f : Nat) (s : ByteArray) (d : Nat) : ∀ (i : Nat) (m : List Int), Ws m → Ws (sp f s i d m) := by
  induction d with
  | zero => intro i m h; exact h
  | succ d ih => intro i m h; unfold sp; exact ih _ _ (h.set _ (wd_word s i))
theorem sp_at (f : Nat) (s : ByteArray) (d : Nat) : ∀ (i : Nat) (m : List Int) (q : Nat), q < m.length → (sp f s i d m)[q]? = if 32 * f + i ≤ q ∧ q < 32 * f + i + d then some (wd s (q - 32 * f)) else m[q]? := by
  induction d with
  | zero => intro i m q h; unfold sp; rw [if_neg (by omega)]
  | succ d ih =>
    intro i m q h
    unfold sp
    rw [ih (i + 1) _ q (by simpa using h)]
    by_cases h1 : q = 32 * f + i
    · subst h1
      rw [if_neg (by omega), if_pos (by omega), List.getElem?_set_self h]
      have : 32 * f + i - 32 * f = i := by omega
      rw [this]
    · rw [List.getElem?_set_ne (Ne.symm h1)]
      by_cases h2 : 32 * f + (i + 1) ≤ q ∧ q < 32 * f + (i + 1) + d
      · rw [if_pos h2, if_pos (by omega)]
      · rw [if_neg h2, if_neg (by omega)]
theorem or_u32 (a b i : Nat) (ha : a < 2 ^ i) (hb : b * 2 ^ i < 2 ^ 32) (hi : i ≤ 32) : Go.bits .or .u32 (a : Int) ((b * 2 ^ i : Nat) : Int) = ((a + b * 2 ^ i : Nat) : Int) := by
  have h32 : (2 : Nat) ^ i ≤ 2 ^ 32 := Nat.pow_le_pow_right (by decide) hi
  have ha2 : a < 2 ^ 32 := by omega
  show IntKind.u32.wrap ((BitVec.ofInt 32 (a : Int) ||| BitVec.ofInt 32 ((b * 2 ^ i : Nat) : Int)).toNat : Int) = _
  have e : ∀ n : Nat, n < 2 ^ 32 → (BitVec.ofInt 32 (n : Int)).toNat = n := fun n hn => by simp; omega
  rw [BitVec.toNat_or, e a ha2, e _ hb, Nat.or_comm, Nat.mul_comm, ← Nat.two_pow_add_eq_or_of_lt ha, wrap_u32]
  have h5 : 2 ^ i * b + a < 2 ^ 32 := by
    have := Nat.two_pow_add_eq_or_of_lt ha b
    rw [this]
    exact Nat.or_lt_two_pow (by rw [Nat.mul_comm]; exact hb) ha2
  omega
/-- Four bytes, laid side by side as the program lays them. -/
theorem four (b0 b1 b2 b3 : Int) (h0 : 0 ≤ b0 ∧ b0 ≤ 255) (h1 : 0 ≤ b1 ∧ b1 ≤ 255) (h2 : 0 ≤ b2 ∧ b2 ≤ 255) (h3 : 0 ≤ b3 ∧ b3 ≤ 255) :
    Go.bits .or .u32 (Go.bits .or .u32 (Go.bits .or .u32 (b0 % 4294967296) ((b1 % 4294967296 * 256) % 4294967296)) ((b2 % 4294967296 * 65536) % 4294967296)) ((b3 % 4294967296 * 16777216) % 4294967296) = b0 + 256 * b1 + 65536 * b2 + 16777216 * b3 := by
  obtain ⟨n0, rfl⟩ : ∃ n : Nat, b0 = (n : Int) := ⟨b0.toNat, by omega⟩
  obtain ⟨n1, rfl⟩ : ∃ n : Nat, b1 = (n : Int) := ⟨b1.toNat, by omega⟩
  obtain ⟨n2, rfl⟩ : ∃ n : Nat, b2 = (n : Int) := ⟨b2.toNat, by omega⟩
  obtain ⟨n3, rfl⟩ : ∃ n : Nat, b3 = (n : Int) := ⟨b3.toNat, by omega⟩
  have e0 : (n0 : Int) % 4294967296 = (n0 : Int) := by omega
  have e1 : ((n1 : Int) % 4294967296 * 256) % 4294967296 = ((n1 * 2 ^ 8 : Nat) : Int) := by omega
  have e2 : ((n2 : Int) % 4294967296 * 65536) % 4294967296 = ((n2 * 2 ^ 16 : Nat) : Int) := by omega
  have e3 : ((n3 : Int) % 4294967296 * 16777216) % 4294967296 = ((n3 * 2 ^ 24 : Nat) : Int) := by omega
  rw [e0, e1, e2, e3, or_u32 n0 n1 8 (by omega) (by omega) (by omega), or_u32 _ n2 16 (by omega) (by omega) (by omega), or_u32 _ n3 24 (by omega) (by omega) (by omega)]
  omega
/-- The page that was read out of a memory, read again word by word. -/
theorem wd_page (a : List Int) (hw : Ws a) (p i : Nat) (hi : i < 32) (hp : 32 * (p + 1) ≤ a.length) : wd (strOfNums (((a.take (32 * (p + 1))).drop (32 * p)).flatMap b4)) i = a.getD (32 * p + i) 0 := by
  have hm : ((a.take (32 * (p + 1))).drop (32 * p)).length = 32 := by simp; omega
  have hg : ((a.take (32 * (p + 1))).drop (32 * p)).getD i 0 = a.getD (32 * p + i) 0 := by
    rw [List.getD_eq_getElem?_getD, List.getD_eq_getElem?_getD, List.getElem?_drop, List.getElem?_take_of_lt (by omega)]
  have hb : ∀ j, j ≤ 3 → bt (strOfNums (((a.take (32 * (p + 1))).drop (32 * p)).flatMap b4)) ((4 * i + j : Nat) : Int) = byt (a.getD (32 * p + i) 0) j := by
    intro j hj
    refine bt_str _ _ _ ?_ ?_
    · rw [flat_at _ i j (by omega) hj, hg]
    · unfold byt; omega
  unfold wd
  have h0 : bt (strOfNums (((a.take (32 * (p + 1))).drop (32 * p)).flatMap b4)) ((4 * i : Nat) : Int) = byt (a.getD (32 * p + i) 0) 0 := hb 0 (by omega)
  rw [h0, hb 1 (by omega), hb 2 (by omega), hb 3 (by omega)]
  refine word_bytes _ ?_
  rw [List.getD_eq_getElem?_getD]
  rw [List.getElem?_eq_getElem (by omega)]
  exact hw _ (List.getElem_mem _)
theorem or_word (a b : Int) (ha : 0 ≤ a ∧ a ≤ 4294967295) (hb : 0 ≤ b ∧ b ≤ 4294967295) : 0 ≤ Go.bits .or .u32 a b ∧ Go.bits .or .u32 a b ≤ 4294967295 := by
  rw [← B_W ha, ← B_W hb, or_B]; exact B_word _
theorem mod_word (x : Int) : 0 ≤ x % 4294967296 ∧ x % 4294967296 ≤ 4294967295 := by omega
theorem rd_set_ne (m : List Int) (i j v : Int) (hi : 0 ≤ i) (hj : 0 ≤ j) (h : i ≠ j) : rd (m.set i.toNat v) j = rd m j := by
  unfold rd
  rw [List.getD_eq_getElem?_getD, List.getElem?_set_ne (by omega), ← List.getD_eq_getElem?_getD]
theorem rd_set_eq (m : List Int) (i v : Int) (hi : 0 ≤ i) (hl : i < m.length) : rd (m.set i.toNat v) i = v := by
  unfold rd
  rw [List.getD_eq_getElem?_getD, List.getElem?_set_self (by omega)]; rfl
end Go.Proofs.Ytdkbhjmoiblobaa.Mem
