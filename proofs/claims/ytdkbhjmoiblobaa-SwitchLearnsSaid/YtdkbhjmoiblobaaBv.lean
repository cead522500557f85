import Derived.Test.YtdkbhjmoiblobaaWMore
import Derived.OpenShut
namespace Go.Proofs.Ytdkbhjmoiblobaa.Bv
open Go.RowKit Go.Proofs.YtdkbhjmoiblobaaW.PrintWords
set_option linter.unusedVariables false
set_option linter.unusedSimpArgs false

/-- A word as a number. -/
def B (x : BitVec 32) : Int := (x.toNat : Int)
theorem B_lt (x : BitVec 32) : B x < 4294967296 := by unfold B; have := x.isLt; omega
theorem B_ge (x : BitVec 32) : 0 ≤ B x := by unfold B; omega
theorem B_inj {x y : BitVec 32} : B x = B y ↔ x = y := by
  unfold B
  constructor
  · intro h; exact BitVec.eq_of_toNat_eq (by omega)
  · intro h; rw [h]
theorem wrap_u32 (n : Int) : IntKind.u32.wrap n = n % 4294967296 := by simp [IntKind.wrap, IntKind.bits, IntKind.signed]
theorem B_ofInt (x : BitVec 32) : BitVec.ofInt 32 (B x) = x := by unfold B; simp
theorem ofInt_B (n : Int) : B (BitVec.ofInt 32 n) = n % 4294967296 := by
  unfold B; rw [BitVec.toNat_ofInt]; omega
theorem wf_u32 {a : Int} (h : (Lit.int .u32 a).wf = true) : 0 ≤ a ∧ a < 4294967296 := by
  have := bounds_u32 h; omega
theorem B_of (a : Int) (h : (Lit.int .u32 a).wf = true) : ∃ x : BitVec 32, a = B x := by
  refine ⟨BitVec.ofInt 32 a, ?_⟩
  rw [ofInt_B]
  have : 0 ≤ a ∧ a < 4294967296 := wf_u32 h
  omega
theorem wrap_B (x : BitVec 32) : IntKind.u32.wrap (B x) = B x := by
  rw [wrap_u32]; have := B_lt x; have := B_ge x; omega
theorem and_B (x y : BitVec 32) : Go.bits .and .u32 (B x) (B y) = B (x &&& y) := by
  show IntKind.u32.wrap ((BitVec.ofInt 32 (B x) &&& BitVec.ofInt 32 (B y)).toNat : Int) = _
  rw [B_ofInt, B_ofInt]; exact wrap_B _
theorem or_B (x y : BitVec 32) : Go.bits .or .u32 (B x) (B y) = B (x ||| y) := by
  show IntKind.u32.wrap ((BitVec.ofInt 32 (B x) ||| BitVec.ofInt 32 (B y)).toNat : Int) = _
  rw [B_ofInt, B_ofInt]; exact wrap_B _
theorem xor_B (x y : BitVec 32) : Go.bits .xor .u32 (B x) (B y) = B (x ^^^ y) := by
  show IntKind.u32.wrap ((BitVec.ofInt 32 (B x) ^^^ BitVec.ofInt 32 (B y)).toNat : Int) = _
  rw [B_ofInt, B_ofInt]; exact wrap_B _
theorem andNot_B (x y : BitVec 32) : Go.bits .andNot .u32 (B x) (B y) = B (x &&& ~~~y) := by
  show IntKind.u32.wrap ((BitVec.ofInt 32 (B x) &&& ~~~BitVec.ofInt 32 (B y)).toNat : Int) = _
  rw [B_ofInt, B_ofInt]; exact wrap_B _
theorem shl_B (x : BitVec 32) (n : Int) : shl .u32 (B x) n = B (x <<< n.toNat) := by
  show IntKind.u32.wrap (B x * 2 ^ min n.toNat 32) = _
  rw [wrap_u32]; unfold B
  rw [BitVec.toNat_shiftLeft, Nat.shiftLeft_eq]
  rcases Nat.le_total n.toNat 32 with h | h
  · rw [Nat.min_eq_left h, Int.natCast_emod, Int.natCast_mul, Int.natCast_pow]; rfl
  · rw [Nat.min_eq_right h]
    have : x.toNat * 2 ^ n.toNat % 2 ^ 32 = 0 := by
      obtain ⟨k, hk⟩ := Nat.exists_eq_add_of_le h
      rw [hk, Nat.pow_add, ← Nat.mul_assoc, Nat.mul_right_comm]; exact Nat.mul_mod_left _ _
    rw [this]; omega
theorem shr_B (x : BitVec 32) (n : Int) : shr .u32 (B x) n = B (x >>> n.toNat) := by
  show B x / 2 ^ min n.toNat 32 = _
  unfold B
  rw [BitVec.toNat_ushiftRight, Nat.shiftRight_eq_div_pow]
  rcases Nat.le_total n.toNat 32 with h | h
  · rw [Nat.min_eq_left h]; norm_cast
  · rw [Nat.min_eq_right h]
    have h2 : x.toNat / 2 ^ n.toNat = 0 := Nat.div_eq_of_lt (Nat.lt_of_lt_of_le x.isLt (Nat.pow_le_pow_right (by decide) h))
    rw [h2]; have := x.isLt; omega
/-- The word whose low n bits are set. -/
def M (n : Nat) : BitVec 32 := BitVec.ofNat 32 (2 ^ n - 1)
theorem M_bit (n i : Nat) : (M n).getLsbD i = (decide (i < 32) && decide (i < n)) := by
  unfold M; rw [BitVec.getLsbD_ofNat]; simp
theorem mask_B (n : Int) (_h : 0 ≤ n) (_h2 : n < 32) : ((shl .u32 1 n) - 1) % 4294967296 = B (M n.toNat) := by
  have e1 : (1 : Int) = B 1#32 := rfl
  have : shl .u32 1 n = B (1#32 <<< n.toNat) := by rw [e1, shl_B]
  rw [this]; unfold B M
  rw [BitVec.toNat_shiftLeft, Nat.shiftLeft_eq, BitVec.toNat_ofNat]
  have hp : 2 ^ n.toNat < 2 ^ 32 := Nat.pow_lt_pow_right (by decide) (by omega)
  have hq : 0 < 2 ^ n.toNat := Nat.two_pow_pos _
  show ((1 * 2 ^ n.toNat % 2 ^ 32 : Nat) - 1 : Int) % 4294967296 = ((2 ^ n.toNat - 1) % 2 ^ 32 : Nat)
  rw [Nat.one_mul, Nat.mod_eq_of_lt hp]; omega
theorem full_B : (4294967295 : Int) = B (M 32) := rfl
theorem zero_B : (0 : Int) = B 0#32 := rfl
theorem toInt_B (x : BitVec 32) : wrap32 (B x) = x.toInt := by
  unfold B wrap32; rw [BitVec.toInt_eq_toNat_cond]; have := x.isLt; split <;> omega
theorem ofInt_toInt (x : BitVec 32) : x.toInt % 4294967296 = B x := by
  unfold B; rw [BitVec.toInt_eq_toNat_cond]; have := x.isLt; split <;> omega
theorem sar_B (x : BitVec 32) (s : Int) (hs : s.toNat ≤ 32) : (shr .i32 (wrap32 (B x)) s) % 4294967296 = B (x.sshiftRight s.toNat) := by
  rw [← ofInt_toInt (x.sshiftRight s.toNat), BitVec.toInt_sshiftRight, toInt_B]
  show x.toInt / 2 ^ min s.toNat 32 % 4294967296 = _
  rw [Nat.min_eq_left hs, Int.shiftRight_eq_div_pow, Int.natCast_pow]; rfl
theorem ext {x y : BitVec 32} (h : ∀ i, i < 32 → x.getLsbD i = y.getLsbD i) : x = y := BitVec.eq_of_getLsbD_eq h
/-- The mask of a field's width, as the program reckons it. -/
def Mi (n : Int) : BitVec 32 := if n ≥ 32 then M 32 else M n.toNat
theorem Mi_bit (n : Int) (i : Nat) : (Mi n).getLsbD i = (decide (i < 32) && decide ((i : Int) < n)) := by
  unfold Mi; split
  · rw [M_bit]; by_cases h : i < 32 <;> simp [h]; omega
  · rw [M_bit]; by_cases h : i < 32 <;> simp [h]; try omega
theorem allOnes_bit (i : Nat) : (M 32).getLsbD i = decide (i < 32) := by rw [M_bit]; simp
/-- A field of a word. -/
def fieldv (x : BitVec 32) (low n : Int) : BitVec 32 := if low < 0 ∨ low > 31 ∨ n < 1 then 0#32 else (x >>> low.toNat) &&& Mi n
def setv (x : BitVec 32) (low n : Int) (v : BitVec 32) : BitVec 32 := if low < 0 ∨ low > 31 ∨ n < 1 then x else (x &&& ~~~(Mi n <<< low.toNat)) ||| ((v <<< low.toNat) &&& (Mi n <<< low.toNat))
def sxv (x : BitVec 32) (n : Int) : BitVec 32 := if n < 1 then 0#32 else if n ≥ 32 then x else (x <<< (32 - n.toNat)).sshiftRight (32 - n.toNat)
theorem sx_bit (x : BitVec 32) (n : Int) (h0 : 1 ≤ n) (h1 : n < 32) (i : Nat) (hi : i < 32) : (sxv x n).getLsbD i = if (i : Int) < n then x.getLsbD i else x.getLsbD (n.toNat - 1) := by
  unfold sxv
  rw [if_neg (by omega), if_neg (by omega), BitVec.getLsbD_sshiftRight]
  have e1 : decide (32 ≤ i) = false := by simp; omega
  rw [e1]
  simp only [Bool.not_false, Bool.true_and]
  split
  · rw [if_pos (by omega), BitVec.getLsbD_shiftLeft]
    have : decide (32 - n.toNat + i < 32) = true := by simp; omega
    have h2 : decide (32 - n.toNat + i < 32 - n.toNat) = false := by simp
    rw [this, h2]; simp only [Bool.not_false, Bool.true_and]; congr 1; omega
  · rw [if_neg (by omega), BitVec.msb_eq_getLsbD_last, BitVec.getLsbD_shiftLeft]
    have h2 : decide (32 - 1 < 32 - n.toNat) = false := by simp; omega
    rw [h2]; simp only [Bool.not_false]
    show (true && true && _) = _
    simp only [Bool.true_and]; congr 1; omega
theorem field_bit (x : BitVec 32) (low n : Int) (h0 : 0 ≤ low) (h1 : low ≤ 31) (hn : 1 ≤ n) (i : Nat) (_hi : i < 32) : (fieldv x low n).getLsbD i = (decide ((i : Int) < n) && x.getLsbD (low.toNat + i)) := by
  unfold fieldv
  rw [if_neg (by omega), BitVec.getLsbD_and, BitVec.getLsbD_ushiftRight, Mi_bit]
  have : decide (i < 32) = true := by simpa using _hi
  rw [this]; simp only [Bool.true_and]; rw [Bool.and_comm]
theorem set_bit (x : BitVec 32) (low n : Int) (v : BitVec 32) (h0 : 0 ≤ low) (h1 : low ≤ 31) (hn : 1 ≤ n) (i : Nat) (hi : i < 32) : (setv x low n v).getLsbD i = if low ≤ i ∧ (i : Int) < low + n then v.getLsbD (i - low.toNat) else x.getLsbD i := by
  unfold setv
  rw [if_neg (by omega), BitVec.getLsbD_or, BitVec.getLsbD_and, BitVec.getLsbD_and, BitVec.getLsbD_not, BitVec.getLsbD_shiftLeft, BitVec.getLsbD_shiftLeft, Mi_bit]
  have : decide (i < 32) = true := by simpa using hi
  rw [this]; simp only [Bool.true_and]
  have h3 : decide (i - low.toNat < 32) = true := by simp; omega
  rw [h3]; simp only [Bool.true_and]
  by_cases h : low ≤ i
  · have e1 : decide (i < low.toNat) = false := by simp; omega
    rw [e1]; simp only [Bool.not_false, Bool.true_and]
    by_cases h2 : (i : Int) < low + n
    · have e2 : decide (((i - low.toNat : Nat) : Int) < n) = true := by simp; omega
      rw [e2, if_pos ⟨h, h2⟩]; simp
    · have e2 : decide (((i - low.toNat : Nat) : Int) < n) = false := by simp; omega
      rw [e2, if_neg (by omega)]; simp
  · have e1 : decide (i < low.toNat) = true := by simp; omega
    rw [e1, if_neg (by omega)]; simp
/-- Sign extension, as the reference says it. -/
theorem sx_ref (x : BitVec 32) (n : Int) (h0 : 1 ≤ n) (h1 : n < 32) : sxv x n = (if (x &&& M n.toNat) >>> (n.toNat - 1) = 1#32 then (x &&& M n.toNat) ||| (M 32 <<< n.toNat) else x &&& M n.toNat) := by
  have hb : ((x &&& M n.toNat) >>> (n.toNat - 1) = 1#32) ↔ x.getLsbD (n.toNat - 1) = true := by
    constructor
    · intro h
      have h := congrArg (fun y : BitVec 32 => y.getLsbD 0) h
      simp only [BitVec.getLsbD_ushiftRight, BitVec.getLsbD_and, M_bit] at h
      simp at h; exact h.1
    · intro h
      apply ext
      intro i hi
      rw [BitVec.getLsbD_ushiftRight, BitVec.getLsbD_and, M_bit]
      by_cases hz : i = 0
      · subst hz
        have : decide (n.toNat - 1 + 0 < 32) = true := by simp; omega
        have h4 : decide (n.toNat - 1 + 0 < n.toNat) = true := by simp; omega
        rw [this, h4]; simp [h]
      · have h4 : decide (n.toNat - 1 + i < n.toNat) = false := by simp; omega
        rw [h4]
        have : (1#32).getLsbD i = false := by rw [BitVec.getLsbD_one]; simp [hz]
        rw [this]; simp
  apply ext
  intro i hi
  rw [sx_bit x n h0 h1 i hi]
  have e32 : decide (i < 32) = true := by simpa using hi
  by_cases hc : x.getLsbD (n.toNat - 1) = true
  · rw [if_pos (hb.2 hc), BitVec.getLsbD_or, BitVec.getLsbD_and, M_bit, BitVec.getLsbD_shiftLeft, allOnes_bit, e32]
    have : decide (i - n.toNat < 32) = true := by simp; omega
    rw [this]
    by_cases h2 : (i : Int) < n
    · have e1 : decide (i < n.toNat) = true := by simp; omega
      rw [if_pos h2, e1]; simp
    · have e1 : decide (i < n.toNat) = false := by simp; omega
      rw [if_neg h2, e1, hc]; simp
  · rw [if_neg (fun h => hc (hb.1 h)), BitVec.getLsbD_and, M_bit, e32]
    by_cases h2 : (i : Int) < n
    · have e1 : decide (i < n.toNat) = true := by simp; omega
      rw [if_pos h2, e1]; simp
    · have e1 : decide (i < n.toNat) = false := by simp; omega
      rw [if_neg h2, e1]; simp at hc; simp [hc]
/-- A field that is set can be read back. -/
theorem field_set (x v : BitVec 32) (low n : Int) (h0 : 0 ≤ low) (h1 : low ≤ 31) (hn : 1 ≤ n) (hl : n ≤ 32 - low) : fieldv (setv x low n v) low n = fieldv v 0 n := by
  apply ext; intro i hi
  rw [field_bit _ _ _ h0 h1 hn i hi, field_bit _ _ _ (by omega) (by omega) hn i hi]
  by_cases h : (i : Int) < n
  · have e1 : decide ((i : Int) < n) = true := by simpa using h
    rw [e1, set_bit _ _ _ _ h0 h1 hn _ (by omega), if_pos (by omega)]; simp only [Bool.true_and]; congr 1; simp
  · have e1 : decide ((i : Int) < n) = false := by simpa using h
    rw [e1]; rfl
theorem set_field (x y : BitVec 32) (low n : Int) (h0 : 0 ≤ low) (h1 : low ≤ 31) (hn : 1 ≤ n) (hl : n ≤ 32 - low) (hxy : ∀ i : Nat, i < 32 → ¬ (low ≤ i ∧ (i : Int) < low + n) → x.getLsbD i = y.getLsbD i) : setv x low n (fieldv y low n) = y := by
  apply ext; intro i hi
  rw [set_bit _ _ _ _ h0 h1 hn _ hi]
  split
  · rename_i h
    rw [field_bit _ _ _ h0 h1 hn _ (by omega)]
    have e1 : decide (((i - low.toNat : Nat) : Int) < n) = true := by simp; omega
    rw [e1]; simp only [Bool.true_and]; congr 1; omega
  · rename_i h; exact hxy i hi h
theorem set_keeps (x v : BitVec 32) (low n : Int) (h0 : 0 ≤ low) (h1 : low ≤ 31) (hn : 1 ≤ n) (i : Nat) (hi : i < 32) (h : ¬ (low ≤ i ∧ (i : Int) < low + n)) : (setv x low n v).getLsbD i = x.getLsbD i := by
  rw [set_bit _ _ _ _ h0 h1 hn _ hi, if_neg h]
end Go.Proofs.Ytdkbhjmoiblobaa.Bv
