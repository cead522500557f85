/- Proved: for any words, page and bytes, reading and replacing a page returns what the chapter specifies, and a page that was replaced is read as it was written. Conditions: none. -/
import Derived.Test.YtdaeflafdnlceaaHMemoryPagesx1
import Derived.Test.YtdaeflafdnlceaaHMemoryPagesx2
import Derived.Test.YtdaeflafdnlceaaHMemoryPagesx3
import Derived.Test.YtdaeflafdnlceaaHMemoryPagesx4
import Derived.Test.YtdaeflafdnlceaaHMemoryPagesx5
import Derived.Test.YtdaeflafdnlceaaBv
import Derived.Test.YtdaeflafdnlceaaMem
namespace Go.Proofs.Ytdaeflafdnlceaa.Pure
open Go.RowKit Go.Proofs.Ytdaeflafdnlceaa.HMemoryPages Go.Proofs.YtdaeflafdnlceaaW.PrintWords Go.Proofs.YtdaeflafdnlceaaW.PrintLast Go.Proofs.Ytdaeflafdnlceaa.Bv Go.Proofs.Ytdaeflafdnlceaa.Mem
set_option linter.unusedVariables false
set_option linter.unusedSimpArgs false

/-- A bind of what is there. -/
theorem bs {α β : Type} (a : α) (f : α → Option β) : (some a).bind f = f a := rfl

theorem Round_eq (a n : Int) (hn : 0 < n) (hn2 : n ≤ 4611686018427387904) : vmfleetmake_Round.f a n = some (a % n) := by
  unfold vmfleetmake_Round.f
  rw [if_neg (by omega)]
  have h1 := Int.emod_nonneg a (show n ≠ 0 by omega)
  have h2 := Int.emod_lt_of_pos a hn
  have h3 := Int.tmod_lt_of_pos a hn
  have h4 := Int.lt_tmod_of_pos a hn
  have h5 : Int.tmod a n = a % n ∨ Int.tmod a n = a % n - n := by
    rw [Int.tmod_eq_emod]; split <;> simp <;> omega
  by_cases h : Int.tmod a n < 0
  · rw [if_pos h, w64 (by omega) (by omega)]; congr 1; omega
  · rw [if_neg h]; congr 1; omega

theorem rNew_eq (n : Int) : vmfleetref1_New.f n = some (if 1 ≤ n ∧ n ≤ 32 then List.replicate (32 * n.toNat) 0 else []) := by
  unfold vmfleetref1_New.f
  by_cases h1 : n < 1
  · rw [if_pos h1, if_neg (by omega)]
  · rw [if_neg h1]
    by_cases h2 : n > 32
    · rw [if_pos h2, if_neg (by omega)]
    · have e : wrap64 (n * 32) = n * 32 := w64 (by omega) (by omega)
      have e2 : (n * 32).toNat = 32 * n.toNat := by omega
      rw [if_neg h2, e, if_pos (by omega), if_pos (by omega), if_pos (by omega), e2]

theorem Mix_ends (a b : Int) : ∃ r, vmfleetmake_Mix.f a b = some r ∧ 0 ≤ r ∧ r ≤ 9223372036854775807 := by
  unfold vmfleetmake_Mix.f
  obtain ⟨p, q, hp, h0, h1⟩ : ∃ p q, vmfleetref1_Next.f (Go.bits .xor .u64 (IntKind.u64.wrap (a)) (IntKind.u64.wrap ((IntKind.u64.wrap (b)) * 11400714819323198485))) = some (p, q) ∧ 0 ≤ p ∧ p ≤ 18446744073709551615 := by
    refine ⟨_, _, rfl, ?_⟩
    show 0 ≤ IntKind.u64.wrap _ ∧ IntKind.u64.wrap _ ≤ _
    rw [wu64]; omega
  rw [hp]; rw [bs]; try dsimp only
  exact ⟨_, rfl, by rw [w64 (by omega) (by omega)]; omega, by rw [w64 (by omega) (by omega)]; omega⟩

theorem and_low (x : Int) (h : 0 ≤ x ∧ x ≤ 9223372036854775807) : Go.bits .and .i64 x 4294967295 % 4294967296 = x % 4294967296 := by
  obtain ⟨n, rfl⟩ : ∃ n : Nat, x = (n : Int) := ⟨x.toNat, by omega⟩
  show IntKind.i64.wrap ((BitVec.ofInt 64 (n : Int) &&& BitVec.ofInt 64 4294967295).toNat : Int) % 4294967296 = _
  have e1 : (BitVec.ofInt 64 4294967295).toNat = 2 ^ 32 - 1 := rfl
  have e2 : (BitVec.ofInt 64 (n : Int)).toNat = n := by simp; omega
  rw [BitVec.toNat_and, e1, e2, Nat.and_two_pow_sub_one_eq_mod]
  have e3 : IntKind.i64.wrap ((n % 2 ^ 32 : Nat) : Int) = ((n % 2 ^ 32 : Nat) : Int) := by rw [IntKind.wrap_i64]; omega
  rw [e3]; omega
theorem shaped_from (l : List Int) (hl : l.length ≤ 9000000000000000000) (d : Nat) : ∀ (i k : Nat) (m : List Int), i ≤ l.length → i ≤ 40 → 40 - i = d → 2 * d + 1 < k → Ws m → 1 ≤ m.length → m.length ≤ 1024 → ∃ m', vmfleetlaw4_shaped.l0 k l m (i : Int) = some m' ∧ m'.length = m.length ∧ Ws m' := by
  induction d with
  | zero =>
    intro i k m h1 h2 h3 h4 hw hm hm2
    obtain ⟨k, rfl⟩ : ∃ q, k = q + 2 := ⟨k - 2, by omega⟩
    refine ⟨m, ?_, rfl, hw⟩
    simp only [vmfleetlaw4_shaped.l0]
    by_cases hi : (i : Int) < (l.length : Int)
    · rw [if_pos hi]
      simp only [vmfleetlaw4_shaped.j2]
      have : ¬ decide ((i : Int) < 40) = true := by simp; omega
      rw [if_neg this]
    · rw [if_neg hi]
      simp only [vmfleetlaw4_shaped.j2]
      rw [if_neg (by simp)]
  | succ d ih =>
    intro i k m h1 h2 h3 h4 hw hm hm2
    obtain ⟨k, rfl⟩ : ∃ q, k = q + 2 := ⟨k - 2, by omega⟩
    simp only [vmfleetlaw4_shaped.l0]
    by_cases hi : (i : Int) < (l.length : Int)
    · rw [if_pos hi]
      simp only [vmfleetlaw4_shaped.j2]
      have hdec : decide ((i : Int) < 40) = true := by simp; omega
      obtain ⟨p, e1, p0, p1⟩ := Mix_ends (rd l (i : Int)) 5
      obtain ⟨q, e2, q0, q1⟩ := Mix_ends (rd l (i : Int)) 6
      have e3 := Round_eq p (m.length : Int) (by omega) (by omega)
      have hr0 := Int.emod_nonneg p (show (m.length : Int) ≠ 0 by omega)
      have hr1 := Int.emod_lt_of_pos p (show 0 < (m.length : Int) by omega)
      have ew : wrap64 ((i : Int) + 1) = ((i + 1 : Nat) : Int) := by rw [w64 (by omega) (by omega)]; simp
      rw [if_pos hdec, if_pos (by omega), if_pos hi, e1, bs, e3, bs, e2, bs, if_pos hr0, if_pos hr1, and_low q ⟨q0, q1⟩, ew]
      have hq : 0 ≤ q % 4294967296 ∧ q % 4294967296 ≤ 4294967295 := by omega
      obtain ⟨m', h5, h6, h7⟩ := ih (i + 1) k (m.set (p % (m.length : Int)).toNat (q % 4294967296)) (by omega) (by omega) (by omega) (by omega) (hw.set _ hq) (by simpa using hm) (by simpa using hm2)
      exact ⟨m', h5, by rw [h6]; simp, h7⟩
    · refine ⟨m, ?_, rfl, hw⟩
      rw [if_neg hi]
      simp only [vmfleetlaw4_shaped.j2]
      rw [if_neg (by simp)]
/-- The memory made of numbers: its size, and that its words are words. -/
theorem shaped_ends (x0 : List Int) (raw : Bool) (l : List Int) (p : Int) (hl : l.length ≤ 140737488355328) (hraw : raw = false ∨ 200 < x0.length) : ∃ m, (∀ k, 200 ≤ k → vmfleetlaw4_shaped.f k x0 raw l p = some m) ∧ m.length = 32 * (1 + (p % 6).toNat) ∧ Ws m := by
  have hp0 := Int.emod_nonneg p (show (6 : Int) ≠ 0 by decide)
  have hp1 := Int.emod_lt_of_pos p (show (0 : Int) < 6 by decide)
  have e1 : wrap64 (1 + p % 6) = 1 + p % 6 := w64 (by omega) (by omega)
  have hlen : (List.replicate (32 * (1 + p % 6).toNat) (0 : Int)).length = 32 * (1 + p % 6).toNat := by simp
  obtain ⟨m, h1, h2, h3⟩ := shaped_from l (by omega) 40 0 198 (List.replicate (32 * (1 + p % 6).toNat) 0) (by omega) (by omega) (by omega) (by omega) (Ws.rep _) (by omega) (by omega)
  have hj : ∀ b : Bool, b = false → vmfleetlaw4_shaped.j0 200 x0 l p b = some m := by
    intro b hb
    simp only [vmfleetlaw4_shaped.j0]
    rw [hb, if_neg (by simp), Round_eq p 6 (by omega) (by omega), bs, e1, rNew_eq, bs, if_pos (by omega)]
    rw [Int.natCast_zero] at h1
    exact at_rounds (g := fun k => vmfleetlaw4_shaped.l0 k l (List.replicate (32 * (1 + p % 6).toNat) 0) 0) (fun k => (vmfleetlaw4_shaped.mono_l k).2.1 _ _ _) (by omega : 198 ≤ 199) h1
  refine ⟨m, fun k hk => at_rounds (g := fun k => vmfleetlaw4_shaped.f k x0 raw l p) (fun k => vmfleetlaw4_shaped.mono _ _ _ _ k) hk ?_, by rw [h2, hlen]; omega, h3⟩
  show vmfleetlaw4_shaped.f 200 x0 raw l p = some m
  unfold vmfleetlaw4_shaped.f
  by_cases hr : raw = true
  · rw [if_pos hr]
    refine hj _ ?_
    rcases hraw with h | h
    · rw [h] at hr; cases hr
    · simp; omega
  · rw [if_neg hr]; exact hj _ rfl
/-- The memory, whichever it is: its words are words, and they are few. -/
theorem shaped_any (x0 : List Int) (raw : Bool) (l : List Int) (p : Int) (hl : l.length ≤ 140737488355328) (hw : Ws x0) : ∃ m, (∀ k, 200 ≤ k → vmfleetlaw4_shaped.f k x0 raw l p = some m) ∧ m.length ≤ 1024 ∧ Ws m := by
  by_cases h : raw = false ∨ 200 < x0.length
  · obtain ⟨m, h1, h2, h3⟩ := shaped_ends x0 raw l p hl h
    have hp1 := Int.emod_lt_of_pos p (show (0 : Int) < 6 by decide)
    exact ⟨m, h1, by omega, h3⟩
  · have hr : raw = true := by cases raw; exact absurd (.inl rfl) h; rfl
    have hx : ¬ 200 < x0.length := fun hx => h (.inr hx)
    refine ⟨x0, fun k hk => at_rounds (g := fun k => vmfleetlaw4_shaped.f k x0 raw l p) (fun k => vmfleetlaw4_shaped.mono _ _ _ _ k) hk ?_, by omega, hw⟩
    show vmfleetlaw4_shaped.f 200 x0 raw l p = some x0
    unfold vmfleetlaw4_shaped.f
    rw [if_pos hr]
    simp only [vmfleetlaw4_shaped.j0]
    rw [if_pos (by simp; omega)]
theorem new_len (n : Int) : (if 1 ≤ n ∧ n ≤ 32 then List.replicate (32 * n.toNat) (0 : Int) else []).length ≤ 1024 := by
  split
  · simp; omega
  · simp
theorem ws_of {l : List Int} (h : ∀ x ∈ l, (Lit.int .u32 x).wf = true) : Ws l := fun x hx => bounds_u32 (h x hx)

theorem Same_from (a b : List Int) (hl : a.length = b.length) (hb : a.length ≤ 140737488355328) (d : Nat) : ∀ (i k : Nat), i ≤ a.length → a.length - i = d → d < k → vmfleetref1_SameWords.l0 k a b (i : Int) = some (decide (a.drop i = b.drop i)) := by
  induction d with
  | zero =>
    intro i k h1 h2 h3
    obtain ⟨k, rfl⟩ : ∃ q, k = q + 1 := ⟨k - 1, by omega⟩
    simp only [vmfleetref1_SameWords.l0]
    rw [if_neg (by omega), List.drop_of_length_le (by omega), List.drop_of_length_le (by omega)]; rfl
  | succ d ih =>
    intro i k h1 h2 h3
    obtain ⟨k, rfl⟩ : ∃ q, k = q + 1 := ⟨k - 1, by omega⟩
    simp only [vmfleetref1_SameWords.l0]
    have e1 : wrap64 ((i : Int) + 1) = ((i + 1 : Nat) : Int) := by rw [w64 (by omega) (by omega)]; simp
    have ha : rd a (i : Int) = a[i]'(by omega) := by unfold rd; rw [Int.toNat_natCast, List.getD_eq_getElem?_getD, List.getElem?_eq_getElem (by omega)]; rfl
    have hb2 : rd b (i : Int) = b[i]'(by omega) := by unfold rd; rw [Int.toNat_natCast, List.getD_eq_getElem?_getD, List.getElem?_eq_getElem (by omega)]; rfl
    rw [if_pos (by omega), if_pos (by omega), if_pos (by omega), e1, ih (i + 1) k (by omega) (by omega) (by omega), ha, hb2,
      List.drop_eq_getElem_cons (show i < a.length by omega), List.drop_eq_getElem_cons (show i < b.length by omega)]
    by_cases h : a[i]'(by omega) = b[i]'(by omega)
    · rw [if_pos h, h]; exact congrArg some (decide_eq_decide.2 ⟨fun e => by rw [e], fun e => (List.cons.inj e).2⟩)
    · rw [if_neg h]; exact congrArg some (decide_eq_false (fun e => h (List.cons.inj e).1)).symm
theorem Same_eq (a b : List Int) (hb : a.length ≤ 140737488355328) (k : Nat) (hk : a.length < k) : vmfleetref1_SameWords.f k a b = some (decide (a = b)) := by
  unfold vmfleetref1_SameWords.f
  by_cases h : (a.length : Int) = (b.length : Int)
  · have := Same_from a b (by omega) hb a.length 0 k (by omega) (by omega) hk
    rw [Int.natCast_zero, List.drop_zero, List.drop_zero] at this
    rw [if_pos h, this]
  · rw [if_neg h]; exact congrArg some (decide_eq_false (fun e => h (by rw [e]))).symm

theorem Pages_eq (l : List Int) : memory_Pages.f l = some (pagesv l) := by
  unfold memory_Pages.f pagesv
  by_cases h : (l.length : Int) % 32 = 0
  · rw [if_pos h]
    by_cases h2 : (l.length : Int) > 1024
    · rw [if_pos h2, if_neg (by omega)]
    · rw [if_neg h2, if_pos (by omega), w64 (by omega) (by omega)]; simp
  · rw [if_neg h, if_neg (by omega)]

theorem within_eq (l : List Int) (a s : Int) (ha : 0 ≤ a ∧ a ≤ 4294967295) : memory_within.f l a s = some (decide (withinv l a s)) := by
  have hp := pagesv_le l
  have ea : IntKind.u64.wrap a = a := u64w (by omega) (by omega)
  have ep : IntKind.u64.wrap (wrap64 (pagesv l * 128)) = pagesv l * 128 := by rw [w64 (by omega) (by omega), u64w (by omega) (by omega)]
  unfold memory_within.f
  rw [Pages_eq]; rw [bs]; try dsimp only
  rw [ep, ea]
  by_cases h1 : s = 1
  · subst h1
    have e1 : Int.tmod a (1 % 4294967296) = a % 1 := Int.tmod_eq_emod_of_nonneg ha.1
    have e2 : IntKind.u64.wrap 1 = 1 := u64w (by omega) (by omega)
    have e3 : IntKind.u64.wrap (a + 1) = a + 1 := u64w (by omega) (by omega)
    rw [if_pos rfl, if_neg (by omega), e1, if_pos (by omega), e2, e3]
    exact congrArg some (decide_eq_decide.2 (by unfold withinv; omega))
  · rw [if_neg h1]
    by_cases h4 : s = 4
    · subst h4
      have e1 : Int.tmod a (4 % 4294967296) = a % 4 := Int.tmod_eq_emod_of_nonneg ha.1
      have e2 : IntKind.u64.wrap 4 = 4 := u64w (by omega) (by omega)
      have e3 : IntKind.u64.wrap (a + 4) = a + 4 := u64w (by omega) (by omega)
      rw [if_pos rfl, if_neg (by omega), e1]
      by_cases hm : a % 4 = 0
      · rw [if_pos hm, e2, e3]
        exact congrArg some (decide_eq_decide.2 (by unfold withinv; omega))
      · rw [if_neg hm]; exact congrArg some (decide_eq_false (by unfold withinv; omega)).symm
    · rw [if_neg h4]; exact congrArg some (decide_eq_false (by unfold withinv; omega)).symm

theorem outside_eq (low n : Int) : bits_outside.f low n = some (decide (low < 0 ∨ low > 31 ∨ n < 1)) := by
  unfold bits_outside.f
  by_cases h1 : low < 0
  · rw [if_pos h1]; simp [h1]
  · rw [if_neg h1]
    by_cases h2 : low > 31
    · rw [if_pos h2]; simp [h2]
    · rw [if_neg h2]; simp [h1]; omega

theorem mask_eq (n : Int) (h : 1 ≤ n) : bits_mask.f n = some (B (Mi n)) := by
  unfold bits_mask.f Mi
  split
  · rfl
  · rw [if_pos (by omega), mask_B n (by omega) (by omega)]

theorem Field_eq (x : BitVec 32) (low n : Int) : bits_Field.f (B x) low n = some (B (fieldv x low n)) := by
  unfold bits_Field.f fieldv
  rw [outside_eq]; rw [bs]; try dsimp only
  by_cases h : low < 0 ∨ low > 31 ∨ n < 1
  · rw [if_pos (by simpa using h), if_pos h]; rfl
  · rw [if_neg (by simpa using h), if_neg h, if_pos (by omega), mask_eq n (by omega)]; rw [bs]; try dsimp only
    rw [shr_B, and_B]

theorem Load_eq (l : List Int) (hw : Ws l) (a s : Int) (ha : 0 ≤ a ∧ a ≤ 4294967295) : memory_Load.f l a s = some (loadv l a s) := by
  unfold memory_Load.f loadv
  rw [within_eq l a s ha]; rw [bs]; try dsimp only
  by_cases h : withinv l a s
  · have hi := within_idx h ha.1
    have e1 : Int.tdiv a 4 % 4294967296 = a / 4 := by rw [Int.tdiv_eq_ediv_of_nonneg ha.1]; omega
    have e2a : wrap64 (Int.tmod a 4) = a % 4 := by rw [Int.tmod_eq_emod_of_nonneg ha.1]; exact w64 (by omega) (by omega)
    have e2 : wrap64 (8 * wrap64 (Int.tmod a 4)) = 8 * (a % 4) := by rw [e2a]; exact w64 (by omega) (by omega)
    rw [if_pos (decide_eq_true h), if_pos h, e1, e2, if_pos (by omega), if_pos hi.1]
    unfold getw
    by_cases hs : s = 1
    · rw [if_pos hs, if_pos hs, ← B_W (hw.at_ (a / 4)), Field_eq, W_B]; rfl
    · rw [if_neg hs, if_neg hs]
  · have : ¬ decide (withinv l a s) = true := by simpa using h
    rw [if_neg this, if_neg h]

theorem clone_eq (l : List Int) (h : l.length ≤ 70368744177664) : memory_clone.f l = some l := by unfold memory_clone.f; rw [if_pos h]

theorem SetField_eq (x : BitVec 32) (low n : Int) (v : BitVec 32) : bits_SetField.f (B x) low n (B v) = some (B (setv x low n v)) := by
  unfold bits_SetField.f setv
  rw [outside_eq]; rw [bs]; try dsimp only
  by_cases h : low < 0 ∨ low > 31 ∨ n < 1
  · rw [if_pos (by simpa using h), if_pos h]
  · rw [if_neg (by simpa using h), if_neg h, mask_eq n (by omega)]; rw [bs]; try dsimp only
    rw [if_pos (by omega), shl_B, shl_B, andNot_B, and_B, or_B]

theorem Store_eq (l : List Int) (hl : l.length ≤ 70368744177664) (hw : Ws l) (a s v : Int) (ha : 0 ≤ a ∧ a ≤ 4294967295) (hv : 0 ≤ v ∧ v ≤ 4294967295) : memory_Store.f l a s v = some (storev l a s v) := by
  unfold memory_Store.f storev
  rw [clone_eq l hl]; rw [bs]; try dsimp only
  rw [within_eq l a s ha]; rw [bs]; try dsimp only
  by_cases h : withinv l a s
  · have hi := within_idx h ha.1
    have e1 : Int.tdiv a 4 % 4294967296 = a / 4 := by rw [Int.tdiv_eq_ediv_of_nonneg ha.1]; omega
    have e2a : wrap64 (Int.tmod a 4) = a % 4 := by rw [Int.tmod_eq_emod_of_nonneg ha.1]; exact w64 (by omega) (by omega)
    have e2 : wrap64 (8 * wrap64 (Int.tmod a 4)) = 8 * (a % 4) := by rw [e2a]; exact w64 (by omega) (by omega)
    rw [if_pos (decide_eq_true h), if_pos h, e1, e2]
    unfold put
    by_cases hs : s = 1
    · rw [if_pos hs, if_pos (by omega), if_pos hi.1, if_pos hs, ← B_W (hw.at_ (a / 4))]
      conv => lhs; rw [← B_W hv]
      rw [SetField_eq]; rw [bs]; try dsimp only
      rw [if_pos hi.1, W_B]
    · rw [if_neg hs, if_pos (by omega), if_pos hi.1, if_neg hs]
  · have : ¬ decide (withinv l a s) = true := by simpa using h
    rw [if_neg this, if_neg h]

theorem New_eq (n : Int) : memory_New.f n = some (if 1 ≤ n ∧ n ≤ 32 then List.replicate (32 * n.toNat) 0 else []) := by
  unfold memory_New.f
  by_cases h1 : n < 1
  · rw [if_pos h1, if_neg (by omega)]
  · rw [if_neg h1]
    by_cases h2 : n > 32
    · rw [if_pos h2, if_neg (by omega)]
    · have e : wrap64 (n * 32) = n * 32 := w64 (by omega) (by omega)
      have e2 : (n * 32).toNat = 32 * n.toNat := by omega
      rw [if_neg h2, e, if_pos (by omega), if_pos (by omega), if_pos (by omega), e2]

theorem awake_ends : vmfleetlaw4_awake.f = some true := by kernel_rfl

theorem has_eq (l : List Int) (f : Int) : memory_has.f l f = some (decide (0 ≤ f ∧ f < pagesv l)) := by
  unfold memory_has.f
  rw [Pages_eq]; rw [bs]; try dsimp only
  by_cases h : f ≥ 0
  · rw [if_pos h]; congr 1; rw [decide_eq_decide]; omega
  · rw [if_neg h]; congr 1; symm; rw [decide_eq_false_iff_not]; omega

theorem text_eq (l : List Int) (h : l.length ≤ 17592186044416) : memory_text.f l = some (strOfNums (l.flatMap b4)) := by
  unfold memory_text.f; rw [if_pos h]; rfl

theorem Page_eq (l : List Int) (f : Int) : memory_Page.f l f = some (if 0 ≤ f ∧ f < pagesv l then (strOfNums (((l.take (32 * (f.toNat + 1))).drop (32 * f.toNat)).flatMap b4), true) else ((⟨#[]⟩ : ByteArray), false)) := by
  have hp := pagesv_le l
  unfold memory_Page.f
  rw [has_eq]; rw [bs]; try dsimp only
  by_cases h : 0 ≤ f ∧ f < pagesv l
  · have e1 : wrap64 (f * 32) = f * 32 := w64 (by omega) (by omega)
    have e2 : wrap64 (f + 1) = f + 1 := w64 (by omega) (by omega)
    have e3 : wrap64 ((f + 1) * 32) = (f + 1) * 32 := w64 (by omega) (by omega)
    have e4 : (f * 32).toNat = 32 * f.toNat := by omega
    have e5 : ((f + 1) * 32).toNat = 32 * (f.toNat + 1) := by omega
    rw [if_pos (decide_eq_true h), if_pos h, e1, e2, e3, if_pos (by omega), if_pos (by omega), if_pos (by omega), e4, e5, text_eq _ (by simp; omega)]; rfl
  · have : ¬ decide (0 ≤ f ∧ f < pagesv l) = true := by simpa using h
    rw [if_neg this, if_neg h]

theorem Data_from (x : Int) (n : Nat) (hn : n ≤ 1000000) (d : Nat) : ∀ (i k : Nat) (l : List Int), l.length = i → i ≤ n → n - i = d → d < k → ∃ s, vmfleetmake_Data.l0 k x (n : Int) l (i : Int) = some s ∧ s.size = n := by
  induction d with
  | zero =>
    intro i k l hl h1 h2 h3
    obtain ⟨k, rfl⟩ : ∃ q, k = q + 1 := ⟨k - 1, by omega⟩
    simp only [vmfleetmake_Data.l0]
    rw [if_neg (by omega)]
    exact ⟨_, rfl, by rw [strOfNums_size]; omega⟩
  | succ d ih =>
    intro i k l hl h1 h2 h3
    obtain ⟨k, rfl⟩ : ∃ q, k = q + 1 := ⟨k - 1, by omega⟩
    simp only [vmfleetmake_Data.l0]
    obtain ⟨p, e1, p0, p1⟩ := Mix_ends x (wrap64 (Int.tdiv (i : Int) 9))
    have ew : wrap64 ((i : Int) + 1) = ((i + 1 : Nat) : Int) := by rw [w64 (by omega) (by omega)]; simp
    rw [if_pos (by omega), e1, bs, if_pos (by omega), ew]
    exact ih (i + 1) k _ (by simp; omega) (by omega) (by omega) (by omega)
theorem Data_ends (x : Int) (n : Nat) (hn : n ≤ 1000000) : ∃ s, (∀ k, n < k → vmfleetmake_Data.f k x (n : Int) = some s) ∧ s.size = n := by
  obtain ⟨s, h1, h2⟩ := Data_from x n hn n 0 (n + 1) [] rfl (by omega) (by omega) (by omega)
  rw [Int.natCast_zero] at h1
  exact ⟨s, fun k hk => at_rounds (g := fun k => vmfleetmake_Data.f k x (n : Int)) (fun k => vmfleetmake_Data.mono _ _ k) hk h1, h2⟩

theorem rPages_eq (l : List Int) : vmfleetref1_Pages.f l = some (pagesv l) := by
  unfold vmfleetref1_Pages.f pagesv
  by_cases h : (l.length : Int) % 32 = 0
  · rw [if_pos h]
    by_cases h2 : (l.length : Int) > 1024
    · rw [if_pos h2, if_neg (by omega)]
    · rw [if_neg h2, if_pos (by omega), w64 (by omega) (by omega)]; simp
  · rw [if_neg h, if_neg (by omega)]

theorem bytesOf_strOfNums (l : List Int) (h : ∀ x ∈ l, 0 ≤ x ∧ x ≤ 255) : bytesOf (strOfNums l) = l := by
  unfold bytesOf
  rw [strOfNums_data, List.map_map]
  conv => rhs; rw [← List.map_id l]
  apply List.map_congr_left
  intro x hx
  have := h x hx
  simp only [Function.comp, UInt8.toNat_ofNat', id]
  omega
theorem b4_bytes (w : Int) : ∀ x ∈ b4 w, 0 ≤ x ∧ x ≤ 255 := by
  intro x hx
  simp only [b4, List.mem_cons, List.not_mem_nil, or_false] at hx
  omega
theorem Low_eq (x : Int) (k : Nat) (hk : 5 ≤ k) : vmfleetref1_Low.f k x 4 = some (strOfNums (b4 x)) := by
  obtain ⟨k, rfl⟩ : ∃ q, k = q + 5 := ⟨k - 5, by omega⟩
  have s0 : shr .u32 x 0 = x := by show x / 2 ^ 0 = x; simp
  have s1 : shr .u32 x 8 = x / 256 := by rfl
  have s2 : shr .u32 x 16 = x / 65536 := by rfl
  have s3 : shr .u32 x 24 = x / 16777216 := by rfl
  have w0 : IntKind.u64.wrap (wrap64 (8 * 0)) = 0 := by rw [w64 (by omega) (by omega), u64w (by omega) (by omega)]; rfl
  have w1 : IntKind.u64.wrap (wrap64 (8 * 1)) = 8 := by rw [w64 (by omega) (by omega), u64w (by omega) (by omega)]; rfl
  have w2 : IntKind.u64.wrap (wrap64 (8 * 2)) = 16 := by rw [w64 (by omega) (by omega), u64w (by omega) (by omega)]; rfl
  have w3 : IntKind.u64.wrap (wrap64 (8 * 3)) = 24 := by rw [w64 (by omega) (by omega), u64w (by omega) (by omega)]; rfl
  have a0 : wrap64 (0 + 1) = 1 := by rw [w64 (by omega) (by omega)]; rfl
  have a1 : wrap64 (1 + 1) = 2 := by rw [w64 (by omega) (by omega)]; rfl
  have a2 : wrap64 (2 + 1) = 3 := by rw [w64 (by omega) (by omega)]; rfl
  have a3 : wrap64 (3 + 1) = 4 := by rw [w64 (by omega) (by omega)]; rfl
  unfold vmfleetref1_Low.f
  simp only [vmfleetref1_Low.l0]
  rw [if_pos (by decide), w0, s0, if_pos (by decide), if_pos (by decide), a0]
  rw [if_pos (by decide), w1, s1, if_pos (by decide), if_pos (by simp), a1]
  rw [if_pos (by decide), w2, s2, if_pos (by decide), if_pos (by simp), a2]
  rw [if_pos (by decide), w3, s3, if_pos (by decide), if_pos (by simp), a3, if_neg (by decide)]
  rfl

theorem rPage_from (m : List Int) (f : Nat) (hf : 32 * (f + 1) ≤ m.length) (hm : m.length ≤ 1024) (p : List Int) (hp : p = (m.take (32 * (f + 1))).drop (32 * f)) (d : Nat) : ∀ (i k : Nat) (l : List Int), l.length = 4 * i → i ≤ 32 → 32 - i = d → d + 6 < k → vmfleetref1_Page.l0 k m (f : Int) l (i : Int) = some (strOfNums (l ++ (p.drop i).flatMap b4), true) := by
  have hpl : p.length = 32 := by subst hp; simp; omega
  induction d with
  | zero =>
    intro i k l hl h1 h2 h3
    obtain ⟨k, rfl⟩ : ∃ q, k = q + 1 := ⟨k - 1, by omega⟩
    simp only [vmfleetref1_Page.l0]
    rw [if_neg (by omega), List.drop_of_length_le (by omega)]; simp
  | succ d ih =>
    intro i k l hl h1 h2 h3
    obtain ⟨k, rfl⟩ : ∃ q, k = q + 1 := ⟨k - 1, by omega⟩
    have e4 := Aside0.mk (w64 (n := (f : Int) * 32) (by omega) (by omega))
    have e5 := Aside0.mk (w64n (a := (f : Int) * 32 + (i : Int)) (n := 32 * f + i) (by omega) (by omega))
    have e6 := Aside0.mk (w64n (a := (i : Int) + 1) (n := i + 1) (by omega) (by omega))
    simp only [vmfleetref1_Page.l0]
    rw [e4.out, e5.out, e6.out]
    clear e4 e5 e6
    have hrd : rd m ((32 * f + i : Nat) : Int) = p[i]'(by omega) := by
      subst hp
      unfold rd
      rw [Int.toNat_natCast, List.getD_eq_getElem?_getD, List.getElem_drop, List.getElem_take, List.getElem?_eq_getElem (by omega)]; rfl
    have hb : (strOfNums (b4 (p[i]'(by omega)))).size = 4 := by rw [strOfNums_size]; rfl
    rw [if_pos (by omega), if_pos (by omega), if_pos (by omega), hrd, Low_eq _ k (by omega), bs, hb, if_pos (by omega), bytesOf_strOfNums _ (b4_bytes _)]
    rw [ih (i + 1) k _ (by rw [List.length_append, hl]; rfl) (by omega) (by omega) (by omega)]
    rw [List.drop_eq_getElem_cons (i := i) (by omega), List.flatMap_cons, List.append_assoc]
theorem rPage_eq (m : List Int) (hm : m.length ≤ 1024) (f : Int) (k : Nat) (hk : 50 < k) : vmfleetref1_Page.f k m f = some (if 0 ≤ f ∧ f < pagesv m then (strOfNums (((m.take (32 * (f.toNat + 1))).drop (32 * f.toNat)).flatMap b4), true) else ((⟨#[]⟩ : ByteArray), false)) := by
  obtain ⟨k, rfl⟩ : ∃ q, k = q + 1 := ⟨k - 1, by omega⟩
  have hp := pagesv_le m
  unfold vmfleetref1_Page.f
  by_cases h0 : f < 0
  · rw [if_pos h0, if_neg (by omega)]
    simp only [vmfleetref1_Page.j0]
    rw [if_pos (by trivial)]
  · rw [if_neg h0, rPages_eq, bs]
    simp only [vmfleetref1_Page.j0]
    by_cases h1 : f ≥ pagesv m
    · rw [if_pos (decide_eq_true h1), if_neg (by omega)]
    · rw [if_neg (by simpa using h1), if_pos (by omega)]
      have := rPage_from m f.toNat (by omega) hm _ rfl 32 0 k [] rfl (by omega) (by omega) (by omega)
      have ef : ((f.toNat : Nat) : Int) = f := by omega
      rw [Int.natCast_zero, ef] at this
      simpa using this

theorem SetPage_from (f : Nat) (s : ByteArray) (hs : s.size = 128) (n : Nat) (hf : f < n) (hn : n ≤ 32) (d : Nat) : ∀ (i k : Nat) (m : List Int), i ≤ 32 → 32 - i = d → d < k → 32 * n ≤ m.length → memory_SetPage.l0 k (f : Int) s m (i : Int) = some (sp f s i d m, true) := by
  induction d with
  | zero =>
    intro i k m h1 h2 h3 h4
    obtain ⟨k, rfl⟩ : ∃ q, k = q + 1 := ⟨k - 1, by omega⟩
    simp only [memory_SetPage.l0]
    rw [if_neg (by omega)]; rfl
  | succ d ih =>
    intro i k m h1 h2 h3 h4
    obtain ⟨k, rfl⟩ : ∃ q, k = q + 1 := ⟨k - 1, by omega⟩
    have e0 := Aside0.mk (w64n (a := 4 * (i : Int)) (n := 4 * i) (by omega) (by omega))
    have e1 := Aside0.mk (w64n (a := ((4 * i : Nat) : Int) + 1) (n := 4 * i + 1) (by omega) (by omega))
    have e2 := Aside0.mk (w64n (a := ((4 * i : Nat) : Int) + 2) (n := 4 * i + 2) (by omega) (by omega))
    have e3 := Aside0.mk (w64n (a := ((4 * i : Nat) : Int) + 3) (n := 4 * i + 3) (by omega) (by omega))
    have e4 := Aside0.mk (w64 (n := (f : Int) * 32) (by omega) (by omega))
    have e5 := Aside0.mk (w64n (a := (f : Int) * 32 + (i : Int)) (n := 32 * f + i) (by omega) (by omega))
    have e6 := Aside0.mk (w64n (a := (i : Int) + 1) (n := i + 1) (by omega) (by omega))
    simp only [memory_SetPage.l0]
    rw [e0.out, e1.out, e2.out, e3.out, e4.out, e5.out, e6.out, four _ _ _ _ (bt_range _ _) (bt_range _ _) (bt_range _ _) (bt_range _ _)]
    clear e0 e1 e2 e3 e4 e5 e6
    rw [if_pos (by omega), if_pos (by omega), if_pos (by omega), if_pos (by omega), if_pos (by omega), if_pos (by omega), if_pos (by omega), if_pos (by omega), if_pos (by omega), if_pos (by omega), if_pos (by omega)]
    have := ih (i + 1) k (m.set (32 * f + i) (wd s i)) (by omega) (by omega) (by omega) (by simpa using h4)
    rw [Int.toNat_natCast]
    exact this
theorem SetPage_eq (l : List Int) (hl : l.length ≤ 70368744177664) (f : Int) (s : ByteArray) (k : Nat) (hk : 40 < k) : memory_SetPage.f k l f s = some (if (0 ≤ f ∧ f < pagesv l) ∧ s.size = 128 then (sp f.toNat s 0 32 l, true) else (l, false)) := by
  obtain ⟨k, rfl⟩ : ∃ q, k = q + 1 := ⟨k - 1, by omega⟩
  have hp := pagesv_le l
  unfold memory_SetPage.f
  rw [clone_eq l hl, bs, has_eq, bs]
  by_cases h : 0 ≤ f ∧ f < pagesv l
  · rw [if_pos (decide_eq_true h)]
    simp only [memory_SetPage.j0]
    by_cases hs : s.size = 128
    · have hb : ((s.size : Int) != 128) = false := by rw [bne_eq_false_iff_eq]; omega
      rw [hb, if_neg (by simp), if_pos ⟨h, hs⟩]
      have := SetPage_from f.toNat s hs (pagesv l).toNat (by omega) (by omega) 32 0 k l (by omega) (by omega) (by omega) (by omega)
      have ef : ((f.toNat : Nat) : Int) = f := by omega
      rw [Int.natCast_zero, ef] at this; exact this
    · have hb : ((s.size : Int) != 128) = true := by rw [bne_iff_ne]; omega
      rw [hb, if_pos rfl, if_neg (fun h' => hs h'.2)]
  · have : ¬ decide (0 ≤ f ∧ f < pagesv l) = true := by simpa using h
    rw [if_neg this]
    simp only [memory_SetPage.j0]
    rw [if_pos (by trivial), if_neg (fun h' => h h'.1)]

theorem rCopy_eq (l : List Int) (h : l.length ≤ 70368744177664) : vmfleetref1_Copy.f l = some l := by unfold vmfleetref1_Copy.f; rw [if_pos h]

theorem rPut_eq (l : List Int) (hw : Ws l) (a s v : Int) (ha : 0 ≤ a) (hs : s = 1 ∨ s = 4) (hi : a / 4 < (l.length : Int)) (hv : 0 ≤ v ∧ v ≤ 4294967295) (ha2 : a ≤ 4294967295) : vmfleetref1_Put.f l a s v = some (l.set (a / 4).toNat (put l a s v)) := by
  unfold vmfleetref1_Put.f
  have e1 : Int.tdiv a 4 % 4294967296 = a / 4 := by rw [Int.tdiv_eq_ediv_of_nonneg ha]; omega
  have e2 : (8 * Int.tmod a 4) % 4294967296 = 8 * (a % 4) := by rw [Int.tmod_eq_emod_of_nonneg ha]; omega
  rw [e1, e2]
  unfold put
  rcases hs with rfl | rfl
  · rw [if_neg (by decide), if_pos (by omega), if_pos hi, if_pos rfl]
    have e3 : (255 : Int) = B (M 8) := rfl
    have e4 : Mi 8 = M 8 := rfl
    have e5 : Go.bits .or .u32 (Go.bits .andNot .u32 (B (W (rd l (a / 4)))) (shl .u32 255 (8 * (a % 4)))) (shl .u32 (Go.bits .and .u32 (B (W v)) 255) (8 * (a % 4))) = B (setv (W (rd l (a / 4))) (8 * (a % 4)) 8 (W v)) := by
      unfold setv
      rw [if_neg (by omega), e3, shl_B, andNot_B, and_B, shl_B, or_B, e4, BitVec.shiftLeft_and_distrib]
    rw [B_W (hw.at_ (a / 4)), B_W hv] at e5
    rw [e5]
  · rw [if_pos rfl, if_pos (by omega), if_pos hi, if_neg (by decide)]

theorem byt_wd (s : ByteArray) (i j : Nat) (hj : j ≤ 3) : byt (wd s i) j = bt s ((4 * i + j : Nat) : Int) := by
  have h0 := bt_range s ((4 * i : Nat) : Int)
  have h1 := bt_range s ((4 * i + 1 : Nat) : Int)
  have h2 := bt_range s ((4 * i + 2 : Nat) : Int)
  have h3 := bt_range s ((4 * i + 3 : Nat) : Int)
  have p0 : (2 : Int) ^ (8 * 0) = 1 := rfl
  have p1 : (2 : Int) ^ (8 * 1) = 256 := rfl
  have p2 : (2 : Int) ^ (8 * 2) = 65536 := rfl
  have p3 : (2 : Int) ^ (8 * 3) = 16777216 := rfl
  unfold byt wd
  have hj4 : j = 0 ∨ j = 1 ∨ j = 2 ∨ j = 3 := by omega
  rcases hj4 with rfl | rfl | rfl | rfl
  · rw [p0, Nat.add_zero]; generalize bt s ((4 * i : Nat) : Int) = a at *; omega
  · rw [p1]; omega
  · rw [p2]; omega
  · rw [p3]; omega
theorem rFill_from (f : Nat) (s : ByteArray) (hs : s.size = 128) (d : Nat) : ∀ (i k : Nat) (m t : List Int), TB m t → Ws m → 32 * (f + 1) ≤ m.length → m.length ≤ 1024 → i ≤ 128 → 128 - i = d → d < k →
    ∃ m' t', vmfleetref1_Fill.l0 k m (f : Int) s (i : Int) = some m' ∧ Ws m' ∧ m'.length = m.length ∧ TB m' t' ∧ ∀ j, t'[j]? = if 128 * f + i ≤ j ∧ j < 128 * f + 128 then some (bt s ((j - 128 * f : Nat) : Int)) else t[j]? := by
  induction d with
  | zero =>
    intro i k m t ht hw hf hm h1 h2 h3
    obtain ⟨k, rfl⟩ : ∃ q, k = q + 1 := ⟨k - 1, by omega⟩
    refine ⟨m, t, ?_, hw, rfl, ht, fun j => by rw [if_neg (by omega)]⟩
    simp only [vmfleetref1_Fill.l0]
    rw [if_neg (by omega)]
  | succ d ih =>
    intro i k m t ht hw hf hm h1 h2 h3
    obtain ⟨k, rfl⟩ : ∃ q, k = q + 1 := ⟨k - 1, by omega⟩
    have e4 := Aside0.mk (w64 (n := (f : Int) * 128) (by omega) (by omega))
    have e5 := Aside0.mk (w64n (a := (f : Int) * 128 + (i : Int)) (n := 128 * f + i) (by omega) (by omega))
    have e6 := Aside0.mk (w64n (a := (i : Int) + 1) (n := i + 1) (by omega) (by omega))
    simp only [vmfleetref1_Fill.l0]
    rw [e4.out, e5.out, e6.out]
    clear e4 e5 e6
    have hb := bt_range s (i : Int)
    have em : ((128 * f + i : Nat) : Int) % 4294967296 = ((128 * f + i : Nat) : Int) := by omega
    have eb : bt s (i : Int) % 4294967296 = bt s (i : Int) := by omega
    rw [if_pos (by omega), if_pos (by omega), if_pos (by omega), em, eb, rPut_eq m hw _ 1 _ (by omega) (.inl rfl) (by omega) (by omega) (by omega), bs]
    have hone := TB.one ht ((128 * f + i : Nat) : Int) (bt s (i : Int)) (by omega) (by omega) (by omega)
    obtain ⟨m', t', g1, g2, g3, g4, g5⟩ := ih (i + 1) k _ _ hone (hw.set _ (put_word m _ 1 (by omega))) (by simpa using hf) (by simpa using hm) (by omega) (by omega) (by omega)
    refine ⟨m', t', g1, g2, by rw [g3]; simp, g4, fun j => ?_⟩
    rw [g5 j]
    have htl := ht.1
    by_cases hj : j = 128 * f + i
    · subst hj
      rw [if_neg (by omega), if_pos (by omega), Int.toNat_natCast, List.getElem?_set_self (by omega)]
      have : 128 * f + i - 128 * f = i := by omega
      rw [this]; congr 1; omega
    · rw [Int.toNat_natCast, List.getElem?_set_ne (Ne.symm hj)]
      by_cases h2 : 128 * f + (i + 1) ≤ j ∧ j < 128 * f + 128
      · rw [if_pos h2, if_pos (by omega)]
      · rw [if_neg h2, if_neg (by omega)]
theorem fill_is (m m' t' S : List Int) (hw : Ws m) (f : Nat) (s : ByteArray) (hf : 32 * (f + 1) ≤ m.length) (g2 : Ws m') (g3 : m'.length = m.length) (g4 : TB m' t') (g5 : ∀ j, t'[j]? = if 128 * f + 0 ≤ j ∧ j < 128 * f + 128 then some (bt s ((j - 128 * f : Nat) : Int)) else (m.flatMap b4)[j]?)
    (hsl : S.length = m.length) (hS : Ws S) (hat : ∀ q, q < m.length → S[q]? = if 32 * f + 0 ≤ q ∧ q < 32 * f + 0 + 32 then some (wd s (q - 32 * f)) else m[q]?) : m' = S := by
  apply List.ext_getElem?
  intro q
  rcases Nat.lt_or_ge q m.length with hq | hq
  · rw [List.getElem?_eq_getElem (by omega), List.getElem?_eq_getElem (by omega)]
    congr 1
    refine word_ext (g2 _ (List.getElem_mem _)) (hS _ (List.getElem_mem _)) fun j hj => ?_
    have a1 := g4.2 q j (by omega) hj
    rw [g5] at a1
    have a2 : m'.getD q 0 = m'[q]'(by omega) := by rw [List.getD_eq_getElem?_getD, List.getElem?_eq_getElem (by omega)]; rfl
    have a3 := hat q hq
    rw [List.getElem?_eq_getElem (by omega)] at a3
    rw [a2] at a1
    by_cases hr : 32 * f + 0 ≤ q ∧ q < 32 * f + 0 + 32
    · rw [if_pos hr] at a3
      rw [if_pos (by omega)] at a1
      have a4 := Option.some.inj a1
      have a5 := Option.some.inj a3
      have e : 4 * q + j - 128 * f = 4 * (q - 32 * f) + j := by omega
      rw [a5, ← a4, byt_wd _ _ _ hj, e]
    · rw [if_neg hr, List.getElem?_eq_getElem hq] at a3
      rw [if_neg (by omega), flat_at m q j hq hj] at a1
      have a4 := Option.some.inj a1
      have a5 := Option.some.inj a3
      have a6 : m.getD q 0 = m[q] := by rw [List.getD_eq_getElem?_getD, List.getElem?_eq_getElem hq]; rfl
      rw [a5, ← a4, a6]
  · rw [List.getElem?_eq_none (by omega), List.getElem?_eq_none (by omega)]
theorem rFill_eq (m : List Int) (hw : Ws m) (f : Nat) (s : ByteArray) (hs : s.size = 128) (hf : 32 * (f + 1) ≤ m.length) (hm : m.length ≤ 1024) (k : Nat) (hk : 128 < k) : vmfleetref1_Fill.f k m (f : Int) s = some (sp f s 0 32 m) := by
  obtain ⟨m', t', g1, g2, g3, g4, g5⟩ := rFill_from f s hs 128 0 k m _ (TB.of m) hw hf hm (by omega) (by omega) hk
  rw [Int.natCast_zero] at g1
  have := fill_is m m' t' _ hw f s hf g2 g3 g4 g5 (sp_len f s 32 0 m) (sp_ws f s 32 0 m hw) (fun q hq => sp_at f s 32 0 m q hq)
  unfold vmfleetref1_Fill.f
  rw [g1, this]

theorem rSetPage_eq (m : List Int) (hw : Ws m) (hm : m.length ≤ 1024) (f : Int) (s : ByteArray) (k : Nat) (hk : 128 < k) : vmfleetref1_SetPage.f k m f s = some (if (0 ≤ f ∧ f < pagesv m) ∧ s.size = 128 then (sp f.toNat s 0 32 m, true) else (m, false)) := by
  have hp := pagesv_le m
  unfold vmfleetref1_SetPage.f
  rw [rCopy_eq m (by omega), bs]
  by_cases h0 : f < 0
  · rw [if_pos h0, if_neg (by omega)]
  · rw [if_neg h0, rPages_eq, bs]
    by_cases h1 : f ≥ pagesv m
    · rw [if_pos h1, if_neg (by omega)]
    · rw [if_neg h1]
      by_cases hs : s.size = 128
      · have ef : ((f.toNat : Nat) : Int) = f := by omega
        have := rFill_eq m hw f.toNat s hs (by omega) hm k hk
        rw [ef] at this
        rw [if_pos (by omega), this, bs, if_pos (by omega)]
      · rw [if_neg (by omega), if_neg (by omega)]
/-- Two strings of bytes with the same bytes. -/
theorem bytes_ext {s t : ByteArray} (h : s.size = t.size) (hb : ∀ i : Nat, i < s.size → bt s (i : Int) = bt t (i : Int)) : s = t := by
  apply ByteArray.ext
  apply Array.ext
  · exact h
  · intro i h1 h2
    have a := hb i h1
    unfold bt at a
    rw [dif_pos (show ((i : Int)).toNat < s.size from h1), dif_pos (show ((i : Int)).toNat < t.size from h2)] at a
    exact UInt8.toNat_inj.1 (Int.ofNat.inj a)
/-- A page that was laid is read as it was. -/
theorem page_sp (m : List Int) (f : Nat) (s : ByteArray) (hs : s.size = 128) (hf : 32 * (f + 1) ≤ m.length) : strOfNums ((((sp f s 0 32 m).take (32 * (f + 1))).drop (32 * f)).flatMap b4) = s := by
  have hsl := sp_len f s 32 0 m
  have hpl : (((sp f s 0 32 m).take (32 * (f + 1))).drop (32 * f)).length = 32 := by simp; omega
  have hz : (strOfNums ((((sp f s 0 32 m).take (32 * (f + 1))).drop (32 * f)).flatMap b4)).size = 128 := by rw [strOfNums_size, b4_len, hpl]
  refine bytes_ext (by rw [hz, hs]) fun i hi => ?_
  rw [hz] at hi
  have hq : (((sp f s 0 32 m).take (32 * (f + 1))).drop (32 * f)).getD (i / 4) 0 = wd s (i / 4) := by
    rw [List.getD_eq_getElem?_getD, List.getElem?_drop, List.getElem?_take_of_lt (by omega), sp_at _ _ _ _ _ _ (by omega), if_pos (by omega)]
    have : 32 * f + i / 4 - 32 * f = i / 4 := by omega
    rw [this]; rfl
  have hi4 : 4 * (i / 4) + i % 4 = i := by omega
  have hfl := flat_at (((sp f s 0 32 m).take (32 * (f + 1))).drop (32 * f)) (i / 4) (i % 4) (by omega) (by omega)
  rw [hi4, hq, byt_wd _ _ _ (by omega), hi4] at hfl
  exact bt_str _ _ _ hfl (bt_range _ _)

theorem Pg_j2 (m S : List Int) (f : Int) (s : ByteArray) (k : Nat) (hk : 1 < k) (hS : S.length = m.length) (hp : (0 ≤ f ∧ f < pagesv m) ∧ s.size = 128 → strOfNums (((S.take (32 * (f.toNat + 1))).drop (32 * f.toNat)).flatMap b4) = s) : vmfleetlaw4_MemoryPages.j2 k f s (if (0 ≤ f ∧ f < pagesv m) ∧ s.size = 128 then (S, true) else (m, false)).1 (if (0 ≤ f ∧ f < pagesv m) ∧ s.size = 128 then (S, true) else (m, false)).2 false = some true := by
  obtain ⟨k, rfl⟩ : ∃ q, k = q + 1 := ⟨k - 1, by omega⟩
  simp only [vmfleetlaw4_MemoryPages.j2]
  rw [if_neg (by simp), Page_eq, bs]
  by_cases h : (0 ≤ f ∧ f < pagesv m) ∧ s.size = 128
  · have hc : pagesv S = pagesv m := pagesv_congr hS
    rw [if_pos h]
    dsimp only
    rw [hc, if_pos h.1]
    dsimp only
    rw [if_pos rfl, if_pos rfl, hp h, if_pos rfl, awake_ends, bs]
  · rw [if_neg h]
    dsimp only
    rw [if_neg (by simp), awake_ends, bs]
theorem Pg_j1 (m : List Int) (hm : m.length ≤ 1024) (hw : Ws m) (f : Int) (s : ByteArray) (k : Nat) (hk : 1100 < k) : vmfleetlaw4_MemoryPages.j1 k m f s = some true := by
  obtain ⟨k, rfl⟩ : ∃ q, k = q + 1 := ⟨k - 1, by omega⟩
  simp only [vmfleetlaw4_MemoryPages.j1]
  have hl : (if (0 ≤ f ∧ f < pagesv m) ∧ s.size = 128 then (sp f.toNat s 0 32 m, true) else (m, false)).1.length ≤ 1024 := by
    split
    · rw [sp_len]; exact hm
    · exact hm
  rw [Page_eq, bs, rPage_eq m hm f k (by omega), bs, SetPage_eq m (by omega) f s k (by omega), bs, rSetPage_eq m hw hm f s k (by omega), bs,
    if_pos rfl, if_neg (by simp), if_neg (by simp), Same_eq _ _ (by omega) k (by omega), bs]
  rw [decide_eq_true rfl]
  exact Pg_j2 m _ f s k (by omega) (sp_len _ _ _ _ _) (fun h => page_sp m f.toNat s h.2 (by have := pagesv_le m; omega))
theorem Pg_j0 (m : List Int) (hm : m.length ≤ 1024) (hw : Ws m) (f n : Int) (s : ByteArray) (k : Nat) (hk : 1200 < k) : vmfleetlaw4_MemoryPages.j0 k m f n s = some true := by
  obtain ⟨k, rfl⟩ : ∃ q, k = q + 1 := ⟨k - 1, by omega⟩
  simp only [vmfleetlaw4_MemoryPages.j0]
  by_cases h : (s.size : Int) > 300
  · rw [if_pos h, awake_ends, bs]
  · rw [if_neg h]
    by_cases h2 : Go.bits .and .i64 n 2 = 2
    · rw [if_pos h2, Round_eq f 7 (by omega) (by omega), bs]
      exact Pg_j1 m hm hw _ s k (by omega)
    · rw [if_neg h2]
      exact Pg_j1 m hm hw f s k (by omega)
theorem MemoryPages : vmfleetlaw4_MemoryPages.Pure := by
  intro x raw l p f n s h0 h1 h2 h3 h4 h5 h6 h7 h8 h9
  obtain ⟨m, em, lm, wm⟩ := shaped_any x raw l p (by unfold maxLen at h3; omega) (ws_of h2)
  obtain ⟨t, et, ts⟩ := Data_ends n 128 (by omega)
  refine ⟨2000, ?_⟩
  unfold vmfleetlaw4_MemoryPages.f
  rw [em 2000 (by omega), bs]
  by_cases h : Go.bits .and .i64 n 1 = 1
  · have e := et 2000 (by omega)
    rw [if_pos h, show (128 : Int) = ((128 : Nat) : Int) from rfl, e, bs]
    exact Pg_j0 m lm wm f n t 2000 (by omega)
  · rw [if_neg h]
    exact Pg_j0 m lm wm f n s 2000 (by omega)

end Go.Proofs.Ytdaeflafdnlceaa.Pure
