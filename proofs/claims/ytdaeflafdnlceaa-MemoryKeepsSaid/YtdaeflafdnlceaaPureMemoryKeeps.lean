/- Proved: any sequence of stores behaves like a table of bytes: each byte has the value that was stored last, all others are zero. Conditions: none. -/
import Derived.Test.YtdaeflafdnlceaaHMemoryKeepsx1
import Derived.Test.YtdaeflafdnlceaaHMemoryKeepsx2
import Derived.Test.YtdaeflafdnlceaaBv
import Derived.Test.YtdaeflafdnlceaaMem
namespace Go.Proofs.Ytdaeflafdnlceaa.Pure
open Go.RowKit Go.Proofs.Ytdaeflafdnlceaa.HMemoryKeeps Go.Proofs.YtdaeflafdnlceaaW.PrintWords Go.Proofs.YtdaeflafdnlceaaW.PrintLast Go.Proofs.Ytdaeflafdnlceaa.Bv Go.Proofs.Ytdaeflafdnlceaa.Mem
set_option linter.unusedVariables false
set_option linter.unusedSimpArgs false

/-- A bind of what is there. -/
theorem bs {α β : Type} (a : α) (f : α → Option β) : (some a).bind f = f a := rfl

theorem Round_eq (a n : Int) (hn : 0 < n) (hn2 : n ≤ 4611686018427387904) : vmfleetmake_Round.f a n = some (a % n) := by
  unfold vmfleetmake_Round.f
  rw [if_neg (by omega)]
  have h1 := Int.emod_nonneg a (show n ≠ 0 by omega)
  have h2 := Int.emod_lt_of_pos a hn
  have h3 := Int.tmod_lt_of_pos a hn
  have h4 := Int.lt_tmod_of_pos a hn
  have h5 : Int.tmod a n = a % n ∨ Int.tmod a n = a % n - n := by
    rw [Int.tmod_eq_emod]; split <;> simp <;> omega
  by_cases h : Int.tmod a n < 0
  · rw [if_pos h, w64 (by omega) (by omega)]; congr 1; omega
  · rw [if_neg h]; congr 1; omega

theorem Pages_eq (l : List Int) : memory_Pages.f l = some (pagesv l) := by
  unfold memory_Pages.f pagesv
  by_cases h : (l.length : Int) % 32 = 0
  · rw [if_pos h]
    by_cases h2 : (l.length : Int) > 1024
    · rw [if_pos h2, if_neg (by omega)]
    · rw [if_neg h2, if_pos (by omega), w64 (by omega) (by omega)]; simp
  · rw [if_neg h, if_neg (by omega)]

theorem within_eq (l : List Int) (a s : Int) (ha : 0 ≤ a ∧ a ≤ 4294967295) : memory_within.f l a s = some (decide (withinv l a s)) := by
  have hp := pagesv_le l
  have ea : IntKind.u64.wrap a = a := u64w (by omega) (by omega)
  have ep : IntKind.u64.wrap (wrap64 (pagesv l * 128)) = pagesv l * 128 := by rw [w64 (by omega) (by omega), u64w (by omega) (by omega)]
  unfold memory_within.f
  rw [Pages_eq]; rw [bs]; try dsimp only
  rw [ep, ea]
  by_cases h1 : s = 1
  · subst h1
    have e1 : Int.tmod a (1 % 4294967296) = a % 1 := Int.tmod_eq_emod_of_nonneg ha.1
    have e2 : IntKind.u64.wrap 1 = 1 := u64w (by omega) (by omega)
    have e3 : IntKind.u64.wrap (a + 1) = a + 1 := u64w (by omega) (by omega)
    rw [if_pos rfl, if_neg (by omega), e1, if_pos (by omega), e2, e3]
    exact congrArg some (decide_eq_decide.2 (by unfold withinv; omega))
  · rw [if_neg h1]
    by_cases h4 : s = 4
    · subst h4
      have e1 : Int.tmod a (4 % 4294967296) = a % 4 := Int.tmod_eq_emod_of_nonneg ha.1
      have e2 : IntKind.u64.wrap 4 = 4 := u64w (by omega) (by omega)
      have e3 : IntKind.u64.wrap (a + 4) = a + 4 := u64w (by omega) (by omega)
      rw [if_pos rfl, if_neg (by omega), e1]
      by_cases hm : a % 4 = 0
      · rw [if_pos hm, e2, e3]
        exact congrArg some (decide_eq_decide.2 (by unfold withinv; omega))
      · rw [if_neg hm]; exact congrArg some (decide_eq_false (by unfold withinv; omega)).symm
    · rw [if_neg h4]; exact congrArg some (decide_eq_false (by unfold withinv; omega)).symm

theorem clone_eq (l : List Int) (h : l.length ≤ 70368744177664) : memory_clone.f l = some l := by unfold memory_clone.f; rw [if_pos h]

theorem outside_eq (low n : Int) : bits_outside.f low n = some (decide (low < 0 ∨ low > 31 ∨ n < 1)) := by
  unfold bits_outside.f
  by_cases h1 : low < 0
  · rw [if_pos h1]; simp [h1]
  · rw [if_neg h1]
    by_cases h2 : low > 31
    · rw [if_pos h2]; simp [h2]
    · rw [if_neg h2]; simp [h1]; omega

theorem mask_eq (n : Int) (h : 1 ≤ n) : bits_mask.f n = some (B (Mi n)) := by
  unfold bits_mask.f Mi
  split
  · rfl
  · rw [if_pos (by omega), mask_B n (by omega) (by omega)]

theorem SetField_eq (x : BitVec 32) (low n : Int) (v : BitVec 32) : bits_SetField.f (B x) low n (B v) = some (B (setv x low n v)) := by
  unfold bits_SetField.f setv
  rw [outside_eq]; rw [bs]; try dsimp only
  by_cases h : low < 0 ∨ low > 31 ∨ n < 1
  · rw [if_pos (by simpa using h), if_pos h]
  · rw [if_neg (by simpa using h), if_neg h, mask_eq n (by omega)]; rw [bs]; try dsimp only
    rw [if_pos (by omega), shl_B, shl_B, andNot_B, and_B, or_B]

theorem Store_eq (l : List Int) (hl : l.length ≤ 70368744177664) (hw : Ws l) (a s v : Int) (ha : 0 ≤ a ∧ a ≤ 4294967295) (hv : 0 ≤ v ∧ v ≤ 4294967295) : memory_Store.f l a s v = some (storev l a s v) := by
  unfold memory_Store.f storev
  rw [clone_eq l hl]; rw [bs]; try dsimp only
  rw [within_eq l a s ha]; rw [bs]; try dsimp only
  by_cases h : withinv l a s
  · have hi := within_idx h ha.1
    have e1 : Int.tdiv a 4 % 4294967296 = a / 4 := by rw [Int.tdiv_eq_ediv_of_nonneg ha.1]; omega
    have e2a : wrap64 (Int.tmod a 4) = a % 4 := by rw [Int.tmod_eq_emod_of_nonneg ha.1]; exact w64 (by omega) (by omega)
    have e2 : wrap64 (8 * wrap64 (Int.tmod a 4)) = 8 * (a % 4) := by rw [e2a]; exact w64 (by omega) (by omega)
    rw [if_pos (decide_eq_true h), if_pos h, e1, e2]
    unfold put
    by_cases hs : s = 1
    · rw [if_pos hs, if_pos (by omega), if_pos hi.1, if_pos hs, ← B_W (hw.at_ (a / 4))]
      conv => lhs; rw [← B_W hv]
      rw [SetField_eq]; rw [bs]; try dsimp only
      rw [if_pos hi.1, W_B]
    · rw [if_neg hs, if_pos (by omega), if_pos hi.1, if_neg hs]
  · have : ¬ decide (withinv l a s) = true := by simpa using h
    rw [if_neg this, if_neg h]

theorem New_eq (n : Int) : memory_New.f n = some (if 1 ≤ n ∧ n ≤ 32 then List.replicate (32 * n.toNat) 0 else []) := by
  unfold memory_New.f
  by_cases h1 : n < 1
  · rw [if_pos h1, if_neg (by omega)]
  · rw [if_neg h1]
    by_cases h2 : n > 32
    · rw [if_pos h2, if_neg (by omega)]
    · have e : wrap64 (n * 32) = n * 32 := w64 (by omega) (by omega)
      have e2 : (n * 32).toNat = 32 * n.toNat := by omega
      rw [if_neg h2, e, if_pos (by omega), if_pos (by omega), if_pos (by omega), e2]

theorem Field_eq (x : BitVec 32) (low n : Int) : bits_Field.f (B x) low n = some (B (fieldv x low n)) := by
  unfold bits_Field.f fieldv
  rw [outside_eq]; rw [bs]; try dsimp only
  by_cases h : low < 0 ∨ low > 31 ∨ n < 1
  · rw [if_pos (by simpa using h), if_pos h]; rfl
  · rw [if_neg (by simpa using h), if_neg h, if_pos (by omega), mask_eq n (by omega)]; rw [bs]; try dsimp only
    rw [shr_B, and_B]

theorem Load_eq (l : List Int) (hw : Ws l) (a s : Int) (ha : 0 ≤ a ∧ a ≤ 4294967295) : memory_Load.f l a s = some (loadv l a s) := by
  unfold memory_Load.f loadv
  rw [within_eq l a s ha]; rw [bs]; try dsimp only
  by_cases h : withinv l a s
  · have hi := within_idx h ha.1
    have e1 : Int.tdiv a 4 % 4294967296 = a / 4 := by rw [Int.tdiv_eq_ediv_of_nonneg ha.1]; omega
    have e2a : wrap64 (Int.tmod a 4) = a % 4 := by rw [Int.tmod_eq_emod_of_nonneg ha.1]; exact w64 (by omega) (by omega)
    have e2 : wrap64 (8 * wrap64 (Int.tmod a 4)) = 8 * (a % 4) := by rw [e2a]; exact w64 (by omega) (by omega)
    rw [if_pos (decide_eq_true h), if_pos h, e1, e2, if_pos (by omega), if_pos hi.1]
    unfold getw
    by_cases hs : s = 1
    · rw [if_pos hs, if_pos hs, ← B_W (hw.at_ (a / 4)), Field_eq, W_B]; rfl
    · rw [if_neg hs, if_neg hs]
  · have : ¬ decide (withinv l a s) = true := by simpa using h
    rw [if_neg this, if_neg h]

theorem awake_ends : vmfleetlaw4_awake.f = some true := by kernel_rfl

theorem Mix_ends (a b : Int) : ∃ r, vmfleetmake_Mix.f a b = some r ∧ 0 ≤ r ∧ r ≤ 9223372036854775807 := by
  unfold vmfleetmake_Mix.f
  obtain ⟨p, q, hp, h0, h1⟩ : ∃ p q, vmfleetref1_Next.f (Go.bits .xor .u64 (IntKind.u64.wrap (a)) (IntKind.u64.wrap ((IntKind.u64.wrap (b)) * 11400714819323198485))) = some (p, q) ∧ 0 ≤ p ∧ p ≤ 18446744073709551615 := by
    refine ⟨_, _, rfl, ?_⟩
    show 0 ≤ IntKind.u64.wrap _ ∧ IntKind.u64.wrap _ ≤ _
    rw [wu64]; omega
  rw [hp]; rw [bs]; try dsimp only
  exact ⟨_, rfl, by rw [w64 (by omega) (by omega)]; omega, by rw [w64 (by omega) (by omega)]; omega⟩

theorem has_eq (l : List Int) (f : Int) : memory_has.f l f = some (decide (0 ≤ f ∧ f < pagesv l)) := by
  unfold memory_has.f
  rw [Pages_eq]; rw [bs]; try dsimp only
  by_cases h : f ≥ 0
  · rw [if_pos h]; congr 1; rw [decide_eq_decide]; omega
  · rw [if_neg h]; congr 1; symm; rw [decide_eq_false_iff_not]; omega

theorem text_eq (l : List Int) (h : l.length ≤ 17592186044416) : memory_text.f l = some (strOfNums (l.flatMap b4)) := by
  unfold memory_text.f; rw [if_pos h]; rfl

theorem Page_eq (l : List Int) (f : Int) : memory_Page.f l f = some (if 0 ≤ f ∧ f < pagesv l then (strOfNums (((l.take (32 * (f.toNat + 1))).drop (32 * f.toNat)).flatMap b4), true) else ((⟨#[]⟩ : ByteArray), false)) := by
  have hp := pagesv_le l
  unfold memory_Page.f
  rw [has_eq]; rw [bs]; try dsimp only
  by_cases h : 0 ≤ f ∧ f < pagesv l
  · have e1 : wrap64 (f * 32) = f * 32 := w64 (by omega) (by omega)
    have e2 : wrap64 (f + 1) = f + 1 := w64 (by omega) (by omega)
    have e3 : wrap64 ((f + 1) * 32) = (f + 1) * 32 := w64 (by omega) (by omega)
    have e4 : (f * 32).toNat = 32 * f.toNat := by omega
    have e5 : ((f + 1) * 32).toNat = 32 * (f.toNat + 1) := by omega
    rw [if_pos (decide_eq_true h), if_pos h, e1, e2, e3, if_pos (by omega), if_pos (by omega), if_pos (by omega), e4, e5, text_eq _ (by simp; omega)]; rfl
  · have : ¬ decide (0 ≤ f ∧ f < pagesv l) = true := by simpa using h
    rw [if_neg this, if_neg h]

theorem and_low (x : Int) (h : 0 ≤ x ∧ x ≤ 9223372036854775807) : Go.bits .and .i64 x 4294967295 % 4294967296 = x % 4294967296 := by
  obtain ⟨n, rfl⟩ : ∃ n : Nat, x = (n : Int) := ⟨x.toNat, by omega⟩
  show IntKind.i64.wrap ((BitVec.ofInt 64 (n : Int) &&& BitVec.ofInt 64 4294967295).toNat : Int) % 4294967296 = _
  have e1 : (BitVec.ofInt 64 4294967295).toNat = 2 ^ 32 - 1 := rfl
  have e2 : (BitVec.ofInt 64 (n : Int)).toNat = n := by simp; omega
  rw [BitVec.toNat_and, e1, e2, Nat.and_two_pow_sub_one_eq_mod]
  have e3 : IntKind.i64.wrap ((n % 2 ^ 32 : Nat) : Int) = ((n % 2 ^ 32 : Nat) : Int) := by rw [IntKind.wrap_i64]; omega
  rw [e3]; omega
theorem shr_byte (v : Int) (hv : 0 ≤ v ∧ v ≤ 4294967295) (k : Nat) (hk : k ≤ 3) : shr .u32 v (IntKind.u64.wrap (wrap64 (8 * (k : Int)))) % 256 = byt v k := by
  rw [w64 (by omega) (by omega), u64w (by omega) (by omega)]
  show v / 2 ^ min (8 * (k : Int)).toNat 32 % 256 = _
  have e : (8 * (k : Int)).toNat = 8 * k := by omega
  rw [e, Nat.min_eq_left (by omega)]; rfl
/-- One byte of the inner loop. -/
theorem l1_step (k : Nat) (x1 : List Int) (n : Int) (m t : List Int) (i v a s : Int) (j : Nat) (hv : 0 ≤ v ∧ v ≤ 4294967295) (hj : (j : Int) < s) (hs : s ≤ 4) (ha : 0 ≤ a) (hat : a + s ≤ t.length) (ht : t.length ≤ 4096) :
    vmfleetlaw4_MemoryKeeps.l1 (k + 1) x1 n m t i v a s (j : Int) = vmfleetlaw4_MemoryKeeps.l1 k x1 n m (t.set (a.toNat + j) (byt v j)) i v a s ((j + 1 : Nat) : Int) := by
  have e1 : wrap64 (a + (j : Int)) = a + j := w64 (by omega) (by omega)
  have e2 : wrap64 ((j : Int) + 1) = ((j + 1 : Nat) : Int) := by rw [w64 (by omega) (by omega)]; simp
  have e3 : (a + (j : Int)).toNat = a.toNat + j := by omega
  have e4 : IntKind.u64.wrap (wrap64 (8 * (j : Int))) = 8 * (j : Int) := by rw [w64 (by omega) (by omega), u64w (by omega) (by omega)]
  have e5 := shr_byte v hv j (by omega)
  rw [e4] at e5
  simp only [vmfleetlaw4_MemoryKeeps.l1]
  rw [if_pos hj, e4, e1, if_pos (by omega), if_pos (by omega), if_pos (by omega), e2, e3, e5]
theorem l1_end (k : Nat) (x1 : List Int) (n : Int) (m t : List Int) (i v a s : Int) (hi : wrap64 (i + 1) = i + 1) : vmfleetlaw4_MemoryKeeps.l1 (k + 1) x1 n m t i v a s s = vmfleetlaw4_MemoryKeeps.l0 k x1 n m t (i + 1) := by
  simp only [vmfleetlaw4_MemoryKeeps.l1]
  rw [if_neg (by omega), hi]
theorem last (n : Nat) (hn : n ≤ 4) (h1 : 1 ≤ n) (m t : List Int) (hm : m.length = 32 * n) (hT : TB m t) (d : Nat) : ∀ (p k : Nat), p ≤ n → n - p = d → d < k → vmfleetlaw4_MemoryKeeps.l2 k (n : Int) m t (p : Int) = some true := by
  have hp := pagesv_of hm (by omega)
  have hl := hT.1
  induction d with
  | zero =>
    intro p k h2 h3 h4
    obtain ⟨k, rfl⟩ : ∃ q, k = q + 1 := ⟨k - 1, by omega⟩
    simp only [vmfleetlaw4_MemoryKeeps.l2]
    rw [if_neg (by omega), Pages_eq]; rw [bs]; try dsimp only
    rw [hp, if_pos rfl, awake_ends]; rfl
  | succ d ih =>
    intro p k h2 h3 h4
    obtain ⟨k, rfl⟩ : ∃ q, k = q + 1 := ⟨k - 1, by omega⟩
    simp only [vmfleetlaw4_MemoryKeeps.l2]
    have e1 : wrap64 ((p : Int) * 128) = (p : Int) * 128 := w64 (by omega) (by omega)
    have e2 : wrap64 ((p : Int) + 1) = ((p + 1 : Nat) : Int) := by rw [w64 (by omega) (by omega)]; simp
    have e3 : wrap64 (((p + 1 : Nat) : Int) * 128) = ((p + 1 : Nat) : Int) * 128 := w64 (by omega) (by omega)
    have e4 : ((p : Int) * 128).toNat = 4 * (32 * p) := by omega
    have e5 : (((p + 1 : Nat) : Int) * 128).toNat = 4 * (32 * (p + 1)) := by omega
    have e6 : ((p : Int)).toNat = p := by omega
    have hpg : memory_Page.f m (p : Int) = some (strOfNums (((m.take (32 * (p + 1))).drop (32 * p)).flatMap b4), true) := by rw [Page_eq, if_pos (by rw [hp]; omega), e6]
    rw [if_pos (by omega), hpg]; rw [bs]; try dsimp only
    rw [e1, e2, e3]
    rw [if_pos rfl, if_pos (by omega), if_pos (by omega), if_pos (by omega), e4, e5]
    have hx : ((m.take (32 * (p + 1))).drop (32 * p)).flatMap b4 = (t.take (4 * (32 * (p + 1)))).drop (4 * (32 * p)) := by rw [flat_drop, flat_take, ← hT.flat]
    rw [hx, if_pos rfl]
    exact ih (p + 1) k (by omega) (by omega) (by omega)
theorem rounds (n : Nat) (hn : n ≤ 4) (h1 : 1 ≤ n) (x1 : List Int) (hx : x1.length ≤ 60) (d : Nat) : ∀ (i k : Nat) (m t : List Int), m.length = 32 * n → Ws m → TB m t → i ≤ x1.length → x1.length - i = d → 10 * d + 10 < k → vmfleetlaw4_MemoryKeeps.l0 k x1 (n : Int) m t (i : Int) = some true := by
  induction d with
  | zero =>
    intro i k m t hm hw hT h2 h3 h4
    obtain ⟨k, rfl⟩ : ∃ q, k = q + 1 := ⟨k - 1, by omega⟩
    simp only [vmfleetlaw4_MemoryKeeps.l0]
    rw [if_neg (by omega)]
    have := last n hn h1 m t hm hT n 0 k (by omega) (by omega) (by omega)
    rw [Int.natCast_zero] at this; exact this
  | succ d ih =>
    intro i k m t hm hw hT h2 h3 h4
    obtain ⟨k, rfl⟩ : ∃ q, k = q + 7 := ⟨k - 7, by omega⟩
    have hl := hT.1
    have hp := pagesv_of hm (by omega)
    have hi1 : wrap64 ((i : Int) + 1) = (i : Int) + 1 := w64 (by omega) (by omega)
    have hi2 : (i : Int) + 1 = ((i + 1 : Nat) : Int) := by simp
    obtain ⟨p, e1, p0, p1⟩ := Mix_ends (rd x1 (i : Int)) 7
    obtain ⟨q, e2, q0, q1⟩ := Mix_ends (rd x1 (i : Int)) 8
    have e3 := Round_eq q (t.length : Int) (by omega) (by omega)
    have hq0 := Int.emod_nonneg q (show (t.length : Int) ≠ 0 by omega)
    have hq1 := Int.emod_lt_of_pos q (show 0 < (t.length : Int) by omega)
    have hv := and_low p ⟨p0, p1⟩
    have hvb : 0 ≤ p % 4294967296 ∧ p % 4294967296 ≤ 4294967295 := by omega
    generalize hadr : q % (t.length : Int) = adr at e3 hq0 hq1
    generalize hvv : p % 4294967296 = v at hv hvb
    simp only [vmfleetlaw4_MemoryKeeps.l0]
    rw [if_pos (by omega), if_pos (by omega), e1]; rw [bs]; try dsimp only
    rw [e2]; rw [bs]; try dsimp only
    rw [e3]; rw [bs]; try dsimp only
    rw [hv]
    by_cases hb : Go.bits .and .i64 (rd x1 (i : Int)) 1 = 1
    · rw [if_pos hb]
      have ea : wrap64 (Int.tdiv adr 4) = adr / 4 := by rw [Int.tdiv_eq_ediv_of_nonneg hq0]; exact w64 (by omega) (by omega)
      have eb : wrap64 (adr / 4 * 4) = adr / 4 * 4 := w64 (by omega) (by omega)
      rw [ea, eb]
      obtain ⟨w, hw4⟩ : ∃ w : Nat, adr / 4 = (w : Int) := ⟨(adr / 4).toNat, by omega⟩
      rw [hw4]
      have hwl : w < m.length := by omega
      have ec : (w : Int) * 4 % 4294967296 = (w : Int) * 4 := by omega
      have hin : withinv m ((w : Int) * 4) 4 := by unfold withinv; rw [hp]; omega
      simp only [vmfleetlaw4_MemoryKeeps.j1]
      rw [ec, Store_eq m (by omega) hw _ 4 v (by omega) hvb]; rw [bs]; try dsimp only
      unfold storev
      rw [if_pos hin]
      simp only [if_true]
      have z0 : (0 : Int) = ((0 : Nat) : Int) := rfl
      have ht0 : ((w : Int) * 4).toNat = 4 * w := by omega
      have hput : put m ((w : Int) * 4) 4 v = v := by unfold put; rw [if_neg (by omega)]
      have hidx : ((w : Int) * 4 / 4).toNat = w := by omega
      rw [hput, hidx]
      conv => lhs; rw [z0]
      rw [l1_step _ _ _ _ _ _ _ _ 4 0 hvb (by omega) (by omega) (by omega) (by omega) (by omega),
        l1_step _ _ _ _ _ _ _ _ 4 1 hvb (by omega) (by omega) (by omega) (by simp; omega) (by simp; omega),
        l1_step _ _ _ _ _ _ _ _ 4 2 hvb (by omega) (by omega) (by omega) (by simp; omega) (by simp; omega),
        l1_step _ _ _ _ _ _ _ _ 4 3 hvb (by omega) (by omega) (by omega) (by simp; omega) (by simp; omega), ht0]
      have z4 : ((3 + 1 : Nat) : Int) = 4 := rfl
      rw [z4, l1_end _ _ _ _ _ _ _ _ _ hi1, hi2]
      exact ih (i + 1) _ _ _ (by simp; omega) (hw.set _ hvb) (hT.word w v hwl) (by omega) (by omega) (by omega)
    · rw [if_neg hb]
      have ec : adr % 4294967296 = adr := by omega
      have hin : withinv m adr 1 := by unfold withinv; rw [hp]; omega
      simp only [vmfleetlaw4_MemoryKeeps.j1]
      rw [ec, Store_eq m (by omega) hw _ 1 v (by omega) hvb]; rw [bs]; try dsimp only
      unfold storev
      rw [if_pos hin]
      simp only [if_true]
      have z0 : (0 : Int) = ((0 : Nat) : Int) := rfl
      conv => lhs; rw [z0]
      rw [l1_step _ _ _ _ _ _ _ _ 1 0 hvb (by omega) (by omega) (by omega) (by omega) (by omega)]
      have z1 : ((0 + 1 : Nat) : Int) = 1 := rfl
      have hb0 : byt v 0 = v % 256 := by unfold byt; rw [Nat.mul_zero]; show v / 1 % 256 = _; rw [Int.ediv_one]
      rw [z1, l1_end _ _ _ _ _ _ _ _ _ hi1, hi2, Nat.add_zero, hb0]
      exact ih (i + 1) _ _ _ (by simp; omega) (hw.set _ (put_word m adr 1 hvb)) (hT.one adr v hq0 (by omega) hvb) (by omega) (by omega) (by omega)
theorem MemoryKeeps : vmfleetlaw4_MemoryKeeps.Pure := by
  intro a0 l h0 h1 h2 h3
  refine ⟨700, ?_⟩
  unfold vmfleetlaw4_MemoryKeeps.f
  by_cases e1 : (l.length : Int) > 60
  · rw [if_pos e1, awake_ends]; rfl
  · rw [if_neg e1, Round_eq a0 4 (by omega) (by omega)]; rw [bs]; try dsimp only
    obtain ⟨n, hn⟩ : ∃ n : Nat, 1 + a0 % 4 = (n : Int) := ⟨(1 + a0 % 4).toNat, by omega⟩
    have hn1 : 1 ≤ n := by omega
    have hn4 : n ≤ 4 := by omega
    have ea : wrap64 (1 + a0 % 4) = (n : Int) := by rw [hn]; exact w64 (by omega) (by omega)
    have eb : wrap64 ((n : Int) * 128) = (n : Int) * 128 := w64 (by omega) (by omega)
    rw [ea, New_eq]; rw [bs]; try dsimp only
    rw [if_pos (by omega), eb, if_pos (by omega), if_pos (by omega)]
    have en : ((n : Int)).toNat = n := by omega
    have et : ((n : Int) * 128).toNat = 4 * (32 * n) := by omega
    rw [en, et]
    have hTB : TB (List.replicate (32 * n) 0) (List.replicate (4 * (32 * n)) 0) := by
      have hf : (List.replicate (32 * n) (0 : Int)).flatMap b4 = List.replicate (4 * (32 * n)) 0 := by
        generalize 32 * n = q
        induction q with
        | zero => rfl
        | succ q ih =>
          rw [List.replicate_succ, List.flatMap_cons, ih, show 4 * (q + 1) = 4 * q + 1 + 1 + 1 + 1 by omega]
          simp only [List.replicate_succ]; rfl
      rw [← hf]; exact TB.of _
    have := rounds n hn4 hn1 l (by omega) l.length 0 700 _ _ (by simp) (Ws.rep _) hTB (by omega) (by omega) (by omega)
    rw [Int.natCast_zero] at this; exact this

end Go.Proofs.Ytdaeflafdnlceaa.Pure
