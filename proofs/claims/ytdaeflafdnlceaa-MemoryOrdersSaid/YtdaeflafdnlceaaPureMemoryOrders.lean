/- Proved: two stores to different words can be exchanged, and a word consists of its four bytes, the least significant one first. Conditions: none. -/
import Derived.Test.YtdaeflafdnlceaaHMemoryOrdersx1
import Derived.Test.YtdaeflafdnlceaaHMemoryOrdersx2
import Derived.Test.YtdaeflafdnlceaaBv
import Derived.Test.YtdaeflafdnlceaaMem
namespace Go.Proofs.Ytdaeflafdnlceaa.Pure
open Go.RowKit Go.Proofs.Ytdaeflafdnlceaa.HMemoryOrders Go.Proofs.YtdaeflafdnlceaaW.PrintWords Go.Proofs.YtdaeflafdnlceaaW.PrintLast Go.Proofs.Ytdaeflafdnlceaa.Bv Go.Proofs.Ytdaeflafdnlceaa.Mem
set_option linter.unusedVariables false
set_option linter.unusedSimpArgs false

/-- A bind of what is there. -/
theorem bs {α β : Type} (a : α) (f : α → Option β) : (some a).bind f = f a := rfl

theorem Round_eq (a n : Int) (hn : 0 < n) (hn2 : n ≤ 4611686018427387904) : vmfleetmake_Round.f a n = some (a % n) := by
  unfold vmfleetmake_Round.f
  rw [if_neg (by omega)]
  have h1 := Int.emod_nonneg a (show n ≠ 0 by omega)
  have h2 := Int.emod_lt_of_pos a hn
  have h3 := Int.tmod_lt_of_pos a hn
  have h4 := Int.lt_tmod_of_pos a hn
  have h5 : Int.tmod a n = a % n ∨ Int.tmod a n = a % n - n := by
    rw [Int.tmod_eq_emod]; split <;> simp <;> omega
  by_cases h : Int.tmod a n < 0
  · rw [if_pos h, w64 (by omega) (by omega)]; congr 1; omega
  · rw [if_neg h]; congr 1; omega

theorem rNew_eq (n : Int) : vmfleetref1_New.f n = some (if 1 ≤ n ∧ n ≤ 32 then List.replicate (32 * n.toNat) 0 else []) := by
  unfold vmfleetref1_New.f
  by_cases h1 : n < 1
  · rw [if_pos h1, if_neg (by omega)]
  · rw [if_neg h1]
    by_cases h2 : n > 32
    · rw [if_pos h2, if_neg (by omega)]
    · have e : wrap64 (n * 32) = n * 32 := w64 (by omega) (by omega)
      have e2 : (n * 32).toNat = 32 * n.toNat := by omega
      rw [if_neg h2, e, if_pos (by omega), if_pos (by omega), if_pos (by omega), e2]

theorem Mix_ends (a b : Int) : ∃ r, vmfleetmake_Mix.f a b = some r ∧ 0 ≤ r ∧ r ≤ 9223372036854775807 := by
  unfold vmfleetmake_Mix.f
  obtain ⟨p, q, hp, h0, h1⟩ : ∃ p q, vmfleetref1_Next.f (Go.bits .xor .u64 (IntKind.u64.wrap (a)) (IntKind.u64.wrap ((IntKind.u64.wrap (b)) * 11400714819323198485))) = some (p, q) ∧ 0 ≤ p ∧ p ≤ 18446744073709551615 := by
    refine ⟨_, _, rfl, ?_⟩
    show 0 ≤ IntKind.u64.wrap _ ∧ IntKind.u64.wrap _ ≤ _
    rw [wu64]; omega
  rw [hp]; rw [bs]; try dsimp only
  exact ⟨_, rfl, by rw [w64 (by omega) (by omega)]; omega, by rw [w64 (by omega) (by omega)]; omega⟩

theorem and_low (x : Int) (h : 0 ≤ x ∧ x ≤ 9223372036854775807) : Go.bits .and .i64 x 4294967295 % 4294967296 = x % 4294967296 := by
  obtain ⟨n, rfl⟩ : ∃ n : Nat, x = (n : Int) := ⟨x.toNat, by omega⟩
  show IntKind.i64.wrap ((BitVec.ofInt 64 (n : Int) &&& BitVec.ofInt 64 4294967295).toNat : Int) % 4294967296 = _
  have e1 : (BitVec.ofInt 64 4294967295).toNat = 2 ^ 32 - 1 := rfl
  have e2 : (BitVec.ofInt 64 (n : Int)).toNat = n := by simp; omega
  rw [BitVec.toNat_and, e1, e2, Nat.and_two_pow_sub_one_eq_mod]
  have e3 : IntKind.i64.wrap ((n % 2 ^ 32 : Nat) : Int) = ((n % 2 ^ 32 : Nat) : Int) := by rw [IntKind.wrap_i64]; omega
  rw [e3]; omega
theorem shaped_from (l : List Int) (hl : l.length ≤ 9000000000000000000) (d : Nat) : ∀ (i k : Nat) (m : List Int), i ≤ l.length → i ≤ 40 → 40 - i = d → 2 * d + 1 < k → Ws m → 1 ≤ m.length → m.length ≤ 1024 → ∃ m', vmfleetlaw4_shaped.l0 k l m (i : Int) = some m' ∧ m'.length = m.length ∧ Ws m' := by
  induction d with
  | zero =>
    intro i k m h1 h2 h3 h4 hw hm hm2
    obtain ⟨k, rfl⟩ : ∃ q, k = q + 2 := ⟨k - 2, by omega⟩
    refine ⟨m, ?_, rfl, hw⟩
    simp only [vmfleetlaw4_shaped.l0]
    by_cases hi : (i : Int) < (l.length : Int)
    · rw [if_pos hi]
      simp only [vmfleetlaw4_shaped.j2]
      have : ¬ decide ((i : Int) < 40) = true := by simp; omega
      rw [if_neg this]
    · rw [if_neg hi]
      simp only [vmfleetlaw4_shaped.j2]
      rw [if_neg (by simp)]
  | succ d ih =>
    intro i k m h1 h2 h3 h4 hw hm hm2
    obtain ⟨k, rfl⟩ : ∃ q, k = q + 2 := ⟨k - 2, by omega⟩
    simp only [vmfleetlaw4_shaped.l0]
    by_cases hi : (i : Int) < (l.length : Int)
    · rw [if_pos hi]
      simp only [vmfleetlaw4_shaped.j2]
      have hdec : decide ((i : Int) < 40) = true := by simp; omega
      obtain ⟨p, e1, p0, p1⟩ := Mix_ends (rd l (i : Int)) 5
      obtain ⟨q, e2, q0, q1⟩ := Mix_ends (rd l (i : Int)) 6
      have e3 := Round_eq p (m.length : Int) (by omega) (by omega)
      have hr0 := Int.emod_nonneg p (show (m.length : Int) ≠ 0 by omega)
      have hr1 := Int.emod_lt_of_pos p (show 0 < (m.length : Int) by omega)
      have ew : wrap64 ((i : Int) + 1) = ((i + 1 : Nat) : Int) := by rw [w64 (by omega) (by omega)]; simp
      rw [if_pos hdec, if_pos (by omega), if_pos hi, e1, bs, e3, bs, e2, bs, if_pos hr0, if_pos hr1, and_low q ⟨q0, q1⟩, ew]
      have hq : 0 ≤ q % 4294967296 ∧ q % 4294967296 ≤ 4294967295 := by omega
      obtain ⟨m', h5, h6, h7⟩ := ih (i + 1) k (m.set (p % (m.length : Int)).toNat (q % 4294967296)) (by omega) (by omega) (by omega) (by omega) (hw.set _ hq) (by simpa using hm) (by simpa using hm2)
      exact ⟨m', h5, by rw [h6]; simp, h7⟩
    · refine ⟨m, ?_, rfl, hw⟩
      rw [if_neg hi]
      simp only [vmfleetlaw4_shaped.j2]
      rw [if_neg (by simp)]
/-- The memory made of numbers: its size, and that its words are words. -/
theorem shaped_ends (x0 : List Int) (raw : Bool) (l : List Int) (p : Int) (hl : l.length ≤ 140737488355328) (hraw : raw = false ∨ 200 < x0.length) : ∃ m, (∀ k, 200 ≤ k → vmfleetlaw4_shaped.f k x0 raw l p = some m) ∧ m.length = 32 * (1 + (p % 6).toNat) ∧ Ws m := by
  have hp0 := Int.emod_nonneg p (show (6 : Int) ≠ 0 by decide)
  have hp1 := Int.emod_lt_of_pos p (show (0 : Int) < 6 by decide)
  have e1 : wrap64 (1 + p % 6) = 1 + p % 6 := w64 (by omega) (by omega)
  have hlen : (List.replicate (32 * (1 + p % 6).toNat) (0 : Int)).length = 32 * (1 + p % 6).toNat := by simp
  obtain ⟨m, h1, h2, h3⟩ := shaped_from l (by omega) 40 0 198 (List.replicate (32 * (1 + p % 6).toNat) 0) (by omega) (by omega) (by omega) (by omega) (Ws.rep _) (by omega) (by omega)
  have hj : ∀ b : Bool, b = false → vmfleetlaw4_shaped.j0 200 x0 l p b = some m := by
    intro b hb
    simp only [vmfleetlaw4_shaped.j0]
    rw [hb, if_neg (by simp), Round_eq p 6 (by omega) (by omega), bs, e1, rNew_eq, bs, if_pos (by omega)]
    rw [Int.natCast_zero] at h1
    exact at_rounds (g := fun k => vmfleetlaw4_shaped.l0 k l (List.replicate (32 * (1 + p % 6).toNat) 0) 0) (fun k => (vmfleetlaw4_shaped.mono_l k).2.1 _ _ _) (by omega : 198 ≤ 199) h1
  refine ⟨m, fun k hk => at_rounds (g := fun k => vmfleetlaw4_shaped.f k x0 raw l p) (fun k => vmfleetlaw4_shaped.mono _ _ _ _ k) hk ?_, by rw [h2, hlen]; omega, h3⟩
  show vmfleetlaw4_shaped.f 200 x0 raw l p = some m
  unfold vmfleetlaw4_shaped.f
  by_cases hr : raw = true
  · rw [if_pos hr]
    refine hj _ ?_
    rcases hraw with h | h
    · rw [h] at hr; cases hr
    · simp; omega
  · rw [if_neg hr]; exact hj _ rfl
/-- The memory, whichever it is: its words are words, and they are few. -/
theorem shaped_any (x0 : List Int) (raw : Bool) (l : List Int) (p : Int) (hl : l.length ≤ 140737488355328) (hw : Ws x0) : ∃ m, (∀ k, 200 ≤ k → vmfleetlaw4_shaped.f k x0 raw l p = some m) ∧ m.length ≤ 1024 ∧ Ws m := by
  by_cases h : raw = false ∨ 200 < x0.length
  · obtain ⟨m, h1, h2, h3⟩ := shaped_ends x0 raw l p hl h
    have hp1 := Int.emod_lt_of_pos p (show (0 : Int) < 6 by decide)
    exact ⟨m, h1, by omega, h3⟩
  · have hr : raw = true := by cases raw; exact absurd (.inl rfl) h; rfl
    have hx : ¬ 200 < x0.length := fun hx => h (.inr hx)
    refine ⟨x0, fun k hk => at_rounds (g := fun k => vmfleetlaw4_shaped.f k x0 raw l p) (fun k => vmfleetlaw4_shaped.mono _ _ _ _ k) hk ?_, by omega, hw⟩
    show vmfleetlaw4_shaped.f 200 x0 raw l p = some x0
    unfold vmfleetlaw4_shaped.f
    rw [if_pos hr]
    simp only [vmfleetlaw4_shaped.j0]
    rw [if_pos (by simp; omega)]
theorem new_len (n : Int) : (if 1 ≤ n ∧ n ≤ 32 then List.replicate (32 * n.toNat) (0 : Int) else []).length ≤ 1024 := by
  split
  · simp; omega
  · simp
theorem ws_of {l : List Int} (h : ∀ x ∈ l, (Lit.int .u32 x).wf = true) : Ws l := fun x hx => bounds_u32 (h x hx)

theorem Pages_eq (l : List Int) : memory_Pages.f l = some (pagesv l) := by
  unfold memory_Pages.f pagesv
  by_cases h : (l.length : Int) % 32 = 0
  · rw [if_pos h]
    by_cases h2 : (l.length : Int) > 1024
    · rw [if_pos h2, if_neg (by omega)]
    · rw [if_neg h2, if_pos (by omega), w64 (by omega) (by omega)]; simp
  · rw [if_neg h, if_neg (by omega)]

theorem within_eq (l : List Int) (a s : Int) (ha : 0 ≤ a ∧ a ≤ 4294967295) : memory_within.f l a s = some (decide (withinv l a s)) := by
  have hp := pagesv_le l
  have ea : IntKind.u64.wrap a = a := u64w (by omega) (by omega)
  have ep : IntKind.u64.wrap (wrap64 (pagesv l * 128)) = pagesv l * 128 := by rw [w64 (by omega) (by omega), u64w (by omega) (by omega)]
  unfold memory_within.f
  rw [Pages_eq]; rw [bs]; try dsimp only
  rw [ep, ea]
  by_cases h1 : s = 1
  · subst h1
    have e1 : Int.tmod a (1 % 4294967296) = a % 1 := Int.tmod_eq_emod_of_nonneg ha.1
    have e2 : IntKind.u64.wrap 1 = 1 := u64w (by omega) (by omega)
    have e3 : IntKind.u64.wrap (a + 1) = a + 1 := u64w (by omega) (by omega)
    rw [if_pos rfl, if_neg (by omega), e1, if_pos (by omega), e2, e3]
    exact congrArg some (decide_eq_decide.2 (by unfold withinv; omega))
  · rw [if_neg h1]
    by_cases h4 : s = 4
    · subst h4
      have e1 : Int.tmod a (4 % 4294967296) = a % 4 := Int.tmod_eq_emod_of_nonneg ha.1
      have e2 : IntKind.u64.wrap 4 = 4 := u64w (by omega) (by omega)
      have e3 : IntKind.u64.wrap (a + 4) = a + 4 := u64w (by omega) (by omega)
      rw [if_pos rfl, if_neg (by omega), e1]
      by_cases hm : a % 4 = 0
      · rw [if_pos hm, e2, e3]
        exact congrArg some (decide_eq_decide.2 (by unfold withinv; omega))
      · rw [if_neg hm]; exact congrArg some (decide_eq_false (by unfold withinv; omega)).symm
    · rw [if_neg h4]; exact congrArg some (decide_eq_false (by unfold withinv; omega)).symm

theorem outside_eq (low n : Int) : bits_outside.f low n = some (decide (low < 0 ∨ low > 31 ∨ n < 1)) := by
  unfold bits_outside.f
  by_cases h1 : low < 0
  · rw [if_pos h1]; simp [h1]
  · rw [if_neg h1]
    by_cases h2 : low > 31
    · rw [if_pos h2]; simp [h2]
    · rw [if_neg h2]; simp [h1]; omega

theorem mask_eq (n : Int) (h : 1 ≤ n) : bits_mask.f n = some (B (Mi n)) := by
  unfold bits_mask.f Mi
  split
  · rfl
  · rw [if_pos (by omega), mask_B n (by omega) (by omega)]

theorem Field_eq (x : BitVec 32) (low n : Int) : bits_Field.f (B x) low n = some (B (fieldv x low n)) := by
  unfold bits_Field.f fieldv
  rw [outside_eq]; rw [bs]; try dsimp only
  by_cases h : low < 0 ∨ low > 31 ∨ n < 1
  · rw [if_pos (by simpa using h), if_pos h]; rfl
  · rw [if_neg (by simpa using h), if_neg h, if_pos (by omega), mask_eq n (by omega)]; rw [bs]; try dsimp only
    rw [shr_B, and_B]

theorem Load_eq (l : List Int) (hw : Ws l) (a s : Int) (ha : 0 ≤ a ∧ a ≤ 4294967295) : memory_Load.f l a s = some (loadv l a s) := by
  unfold memory_Load.f loadv
  rw [within_eq l a s ha]; rw [bs]; try dsimp only
  by_cases h : withinv l a s
  · have hi := within_idx h ha.1
    have e1 : Int.tdiv a 4 % 4294967296 = a / 4 := by rw [Int.tdiv_eq_ediv_of_nonneg ha.1]; omega
    have e2a : wrap64 (Int.tmod a 4) = a % 4 := by rw [Int.tmod_eq_emod_of_nonneg ha.1]; exact w64 (by omega) (by omega)
    have e2 : wrap64 (8 * wrap64 (Int.tmod a 4)) = 8 * (a % 4) := by rw [e2a]; exact w64 (by omega) (by omega)
    rw [if_pos (decide_eq_true h), if_pos h, e1, e2, if_pos (by omega), if_pos hi.1]
    unfold getw
    by_cases hs : s = 1
    · rw [if_pos hs, if_pos hs, ← B_W (hw.at_ (a / 4)), Field_eq, W_B]; rfl
    · rw [if_neg hs, if_neg hs]
  · have : ¬ decide (withinv l a s) = true := by simpa using h
    rw [if_neg this, if_neg h]

theorem clone_eq (l : List Int) (h : l.length ≤ 70368744177664) : memory_clone.f l = some l := by unfold memory_clone.f; rw [if_pos h]

theorem SetField_eq (x : BitVec 32) (low n : Int) (v : BitVec 32) : bits_SetField.f (B x) low n (B v) = some (B (setv x low n v)) := by
  unfold bits_SetField.f setv
  rw [outside_eq]; rw [bs]; try dsimp only
  by_cases h : low < 0 ∨ low > 31 ∨ n < 1
  · rw [if_pos (by simpa using h), if_pos h]
  · rw [if_neg (by simpa using h), if_neg h, mask_eq n (by omega)]; rw [bs]; try dsimp only
    rw [if_pos (by omega), shl_B, shl_B, andNot_B, and_B, or_B]

theorem Store_eq (l : List Int) (hl : l.length ≤ 70368744177664) (hw : Ws l) (a s v : Int) (ha : 0 ≤ a ∧ a ≤ 4294967295) (hv : 0 ≤ v ∧ v ≤ 4294967295) : memory_Store.f l a s v = some (storev l a s v) := by
  unfold memory_Store.f storev
  rw [clone_eq l hl]; rw [bs]; try dsimp only
  rw [within_eq l a s ha]; rw [bs]; try dsimp only
  by_cases h : withinv l a s
  · have hi := within_idx h ha.1
    have e1 : Int.tdiv a 4 % 4294967296 = a / 4 := by rw [Int.tdiv_eq_ediv_of_nonneg ha.1]; omega
    have e2a : wrap64 (Int.tmod a 4) = a % 4 := by rw [Int.tmod_eq_emod_of_nonneg ha.1]; exact w64 (by omega) (by omega)
    have e2 : wrap64 (8 * wrap64 (Int.tmod a 4)) = 8 * (a % 4) := by rw [e2a]; exact w64 (by omega) (by omega)
    rw [if_pos (decide_eq_true h), if_pos h, e1, e2]
    unfold put
    by_cases hs : s = 1
    · rw [if_pos hs, if_pos (by omega), if_pos hi.1, if_pos hs, ← B_W (hw.at_ (a / 4))]
      conv => lhs; rw [← B_W hv]
      rw [SetField_eq]; rw [bs]; try dsimp only
      rw [if_pos hi.1, W_B]
    · rw [if_neg hs, if_pos (by omega), if_pos hi.1, if_neg hs]
  · have : ¬ decide (withinv l a s) = true := by simpa using h
    rw [if_neg this, if_neg h]

theorem Same_from (a b : List Int) (hl : a.length = b.length) (hb : a.length ≤ 140737488355328) (d : Nat) : ∀ (i k : Nat), i ≤ a.length → a.length - i = d → d < k → vmfleetref1_SameWords.l0 k a b (i : Int) = some (decide (a.drop i = b.drop i)) := by
  induction d with
  | zero =>
    intro i k h1 h2 h3
    obtain ⟨k, rfl⟩ : ∃ q, k = q + 1 := ⟨k - 1, by omega⟩
    simp only [vmfleetref1_SameWords.l0]
    rw [if_neg (by omega), List.drop_of_length_le (by omega), List.drop_of_length_le (by omega)]; rfl
  | succ d ih =>
    intro i k h1 h2 h3
    obtain ⟨k, rfl⟩ : ∃ q, k = q + 1 := ⟨k - 1, by omega⟩
    simp only [vmfleetref1_SameWords.l0]
    have e1 : wrap64 ((i : Int) + 1) = ((i + 1 : Nat) : Int) := by rw [w64 (by omega) (by omega)]; simp
    have ha : rd a (i : Int) = a[i]'(by omega) := by unfold rd; rw [Int.toNat_natCast, List.getD_eq_getElem?_getD, List.getElem?_eq_getElem (by omega)]; rfl
    have hb2 : rd b (i : Int) = b[i]'(by omega) := by unfold rd; rw [Int.toNat_natCast, List.getD_eq_getElem?_getD, List.getElem?_eq_getElem (by omega)]; rfl
    rw [if_pos (by omega), if_pos (by omega), if_pos (by omega), e1, ih (i + 1) k (by omega) (by omega) (by omega), ha, hb2,
      List.drop_eq_getElem_cons (show i < a.length by omega), List.drop_eq_getElem_cons (show i < b.length by omega)]
    by_cases h : a[i]'(by omega) = b[i]'(by omega)
    · rw [if_pos h, h]; exact congrArg some (decide_eq_decide.2 ⟨fun e => by rw [e], fun e => (List.cons.inj e).2⟩)
    · rw [if_neg h]; exact congrArg some (decide_eq_false (fun e => h (List.cons.inj e).1)).symm
theorem Same_eq (a b : List Int) (hb : a.length ≤ 140737488355328) (k : Nat) (hk : a.length < k) : vmfleetref1_SameWords.f k a b = some (decide (a = b)) := by
  unfold vmfleetref1_SameWords.f
  by_cases h : (a.length : Int) = (b.length : Int)
  · have := Same_from a b (by omega) hb a.length 0 k (by omega) (by omega) hk
    rw [Int.natCast_zero, List.drop_zero, List.drop_zero] at this
    rw [if_pos h, this]
  · rw [if_neg h]; exact congrArg some (decide_eq_false (fun e => h (by rw [e]))).symm

theorem New_eq (n : Int) : memory_New.f n = some (if 1 ≤ n ∧ n ≤ 32 then List.replicate (32 * n.toNat) 0 else []) := by
  unfold memory_New.f
  by_cases h1 : n < 1
  · rw [if_pos h1, if_neg (by omega)]
  · rw [if_neg h1]
    by_cases h2 : n > 32
    · rw [if_pos h2, if_neg (by omega)]
    · have e : wrap64 (n * 32) = n * 32 := w64 (by omega) (by omega)
      have e2 : (n * 32).toNat = 32 * n.toNat := by omega
      rw [if_neg h2, e, if_pos (by omega), if_pos (by omega), if_pos (by omega), e2]

theorem awake_ends : vmfleetlaw4_awake.f = some true := by kernel_rfl

theorem or_sh (a b : Int) (i : Nat) (ha : 0 ≤ a) (ha2 : a < 2 ^ i) (hb : 0 ≤ b ∧ b ≤ 255) (hi : i ≤ 24) : Go.bits .or .u32 a (shl .u32 b (i : Int)) = a + b * 2 ^ i := by
  obtain ⟨m, rfl⟩ : ∃ m : Nat, a = (m : Int) := ⟨a.toNat, by omega⟩
  obtain ⟨n, rfl⟩ : ∃ n : Nat, b = (n : Int) := ⟨b.toNat, by omega⟩
  have h1 : n * 2 ^ i < 2 ^ 32 := by
    have e1 : n * 2 ^ i ≤ 255 * 2 ^ i := Nat.mul_le_mul_right _ (by omega)
    have e2 : 255 * 2 ^ i ≤ 255 * 2 ^ 24 := Nat.mul_le_mul_left _ (Nat.pow_le_pow_right (by decide) hi)
    omega
  have h2 : m < 2 ^ i := by
    have : ((m : Nat) : Int) < ((2 ^ i : Nat) : Int) := by simpa using ha2
    omega
  have e : shl .u32 (n : Int) (i : Int) = ((n * 2 ^ i : Nat) : Int) := by
    unfold shl
    have e1 : min ((i : Int)).toNat IntKind.u32.bits = i := by show min _ 32 = i; omega
    have e2 : (n : Int) * 2 ^ i = ((n * 2 ^ i : Nat) : Int) := by simp
    rw [e1, e2, wrap_u32]; omega
  rw [e, or_u32 m n i h2 h1 (by omega)]; simp
theorem Ord_l0 (m : List Int) (hw : Ws m) (n i : Nat) (hn : m.length = 32 * n) (hn2 : n ≤ 32) (hi : i < m.length) (v : Int) (hv : m.getD i 0 = v) (k : Nat) (hk : 6 ≤ k) : vmfleetlaw4_MemoryOrders.l0 k ((4 * i : Nat) : Int) v m 0 0 = some true := by
  obtain ⟨k, rfl⟩ : ∃ q, k = q + 5 := ⟨k - 5, by omega⟩
  have hp := pagesv_of hn hn2
  have hld : ∀ j : Nat, j ≤ 3 → memory_Load.f m ((((4 * i : Nat) : Int) + (j : Int)) % 4294967296) 1 = some (byt v j, true) := by
    intro j hj
    have e1 : (((4 * i : Nat) : Int) + (j : Int)) % 4294967296 = ((4 * i + j : Nat) : Int) := by omega
    rw [e1, Load_eq m hw _ 1 (by omega)]
    have hwi : withinv m ((4 * i + j : Nat) : Int) 1 := ⟨.inl rfl, by omega, by rw [hp]; omega⟩
    unfold loadv
    rw [if_pos hwi]
    have e2 : ((4 * i + j : Nat) : Int) / 4 = (i : Int) := by omega
    have e3 : 8 * (((4 * i + j : Nat) : Int) % 4) = 8 * (j : Int) := by omega
    unfold getw
    rw [if_pos rfl, e2, e3, field_byte _ j hj, B_W (hw.at_ _)]
    unfold rd
    rw [Int.toNat_natCast, hv]
  have hvw : 0 ≤ v ∧ v ≤ 4294967295 := by
    have := hw.at_ (i : Int)
    unfold rd at this
    rw [Int.toNat_natCast, hv] at this; exact this
  have l0 := hld 0 (by omega)
  have l1 := hld 1 (by omega)
  have l2 := hld 2 (by omega)
  have l3 := hld 3 (by omega)
  have r0 : 0 ≤ byt v 0 ∧ byt v 0 ≤ 255 := by unfold byt; omega
  have r1 : 0 ≤ byt v 1 ∧ byt v 1 ≤ 255 := by unfold byt; omega
  have r2 : 0 ≤ byt v 2 ∧ byt v 2 ≤ 255 := by unfold byt; omega
  have r3 : 0 ≤ byt v 3 ∧ byt v 3 ≤ 255 := by unfold byt; omega
  have hwb := word_bytes v hvw
  clear hld
  generalize byt v 0 = b0 at *
  generalize byt v 1 = b1 at *
  generalize byt v 2 = b2 at *
  generalize byt v 3 = b3 at *
  have o0 : Go.bits .or .u32 0 (shl .u32 b0 0) = b0 := by have := or_sh 0 b0 0 (by omega) (by omega) r0 (by omega); simpa using this
  have o1 : Go.bits .or .u32 b0 (shl .u32 b1 8) = b0 + b1 * 2 ^ 8 := or_sh b0 b1 8 (by omega) (by omega) r1 (by omega)
  have o2 : Go.bits .or .u32 (b0 + b1 * 2 ^ 8) (shl .u32 b2 16) = b0 + b1 * 2 ^ 8 + b2 * 2 ^ 16 := or_sh _ b2 16 (by omega) (by omega) r2 (by omega)
  have o3 : Go.bits .or .u32 (b0 + b1 * 2 ^ 8 + b2 * 2 ^ 16) (shl .u32 b3 24) = b0 + b1 * 2 ^ 8 + b2 * 2 ^ 16 + b3 * 2 ^ 24 := or_sh _ b3 24 (by omega) (by omega) r3 (by omega)
  have w0 : ((8 : Int) * 0) % 4294967296 = 0 := by decide
  have w1 : ((8 : Int) * 1) % 4294967296 = 8 := by decide
  have w2 : ((8 : Int) * 2) % 4294967296 = 16 := by decide
  have w3 : ((8 : Int) * 3) % 4294967296 = 24 := by decide
  have a0 : ((0 : Int) + 1) % 4294967296 = 1 := by decide
  have a1 : ((1 : Int) + 1) % 4294967296 = 2 := by decide
  have a2 : ((2 : Int) + 1) % 4294967296 = 3 := by decide
  have a3 : ((3 : Int) + 1) % 4294967296 = 4 := by decide
  have s0 : ∀ (q : Nat) (x : Int), vmfleetlaw4_MemoryOrders.l0 (q + 1) ((4 * i : Nat) : Int) v m x 4 = if x = v then ((vmfleetlaw4_awake.f).bind fun t173 => (some t173)) else some false := by
    intro q x; simp only [vmfleetlaw4_MemoryOrders.l0]; rw [if_neg (by decide)]
  have st : ∀ (q : Nat) (x j b : Int), j < 4 → memory_Load.f m ((((4 * i : Nat) : Int) + j) % 4294967296) 1 = some (b, true) → vmfleetlaw4_MemoryOrders.l0 (q + 1) ((4 * i : Nat) : Int) v m x j = vmfleetlaw4_MemoryOrders.l0 q ((4 * i : Nat) : Int) v m (Go.bits .or .u32 x (shl .u32 b ((8 * j) % 4294967296))) ((j + 1) % 4294967296) := by
    intro q x j b hj hb
    simp only [vmfleetlaw4_MemoryOrders.l0]
    rw [if_pos hj, hb, bs]
    dsimp only
    rw [if_pos rfl]
  rw [st (k + 4) 0 0 b0 (by decide) l0, w0, o0, a0, st (k + 3) _ 1 b1 (by decide) l1, w1, o1, a1, st (k + 2) _ 2 b2 (by decide) l2, w2, o2, a2, st (k + 1) _ 3 b3 (by decide) l3, w3, o3, a3, s0 k, if_pos (by omega), awake_ends, bs]
theorem MemoryOrders : vmfleetlaw4_MemoryOrders.Pure := by
  intro l p a b v w h0 h1 h2 h3 h4 h5 h6 h7
  have ba := bounds_u32 h4
  have bb := bounds_u32 h5
  have bv := bounds_u32 h6
  have bw := bounds_u32 h7
  have hp0 := Int.emod_nonneg p (show (6 : Int) ≠ 0 by decide)
  have hp1 := Int.emod_lt_of_pos p (show (0 : Int) < 6 by decide)
  obtain ⟨m, em, lm, wm⟩ := shaped_ends [] false l p (by unfold maxLen at h0; omega) (.inl rfl)
  have hn : ∃ n, m.length = 32 * n ∧ 1 ≤ n ∧ n ≤ 6 := ⟨_, lm, by omega, by omega⟩
  clear lm
  obtain ⟨n, lm, n1, n6⟩ := hn
  have hpg := pagesv_of lm (by omega)
  have el : (m.length : Int) % 4294967296 = (m.length : Int) := by omega
  have hmod : ∀ x : Int, 0 ≤ x ∧ x ≤ 4294967295 → ∃ i : Nat, i < m.length ∧ (Int.tmod x ((m.length : Int) % 4294967296) * 4) % 4294967296 = ((4 * i : Nat) : Int) := by
    intro x hx
    have r0 := Int.emod_nonneg x (show (m.length : Int) ≠ 0 by omega)
    have r1 := Int.emod_lt_of_pos x (show 0 < (m.length : Int) by omega)
    refine ⟨(x % (m.length : Int)).toNat, by omega, ?_⟩
    rw [el, Int.tmod_eq_emod_of_nonneg hx.1]; omega
  obtain ⟨i, hi, ei⟩ := hmod a ba
  obtain ⟨j, hj, ej⟩ := hmod b bb
  have hst : ∀ (c : List Int) (q : Nat) (x : Int), Ws c → c.length = m.length → q < m.length → 0 ≤ x ∧ x ≤ 4294967295 → memory_Store.f c ((4 * q : Nat) : Int) 4 x = some (c.set q x, true) := by
    intro c q x hc hl hq hx
    have hpc : pagesv c = (n : Int) := pagesv_of (by omega) (by omega)
    rw [Store_eq c (by omega) hc _ 4 x (by omega) hx]
    have hwi : withinv c ((4 * q : Nat) : Int) 4 := ⟨.inr rfl, by omega, by rw [hpc]; omega⟩
    unfold storev
    have e : (((4 * q : Nat) : Int) / 4).toNat = q := by omega
    rw [if_pos hwi, e]
    unfold put
    rw [if_neg (by decide)]
  refine ⟨2000, ?_⟩
  unfold vmfleetlaw4_MemoryOrders.f
  rw [em 2000 (by omega), bs, if_neg (by omega), ei, ej, hst m i v wm rfl hi bv, bs, hst _ j w (wm.set i bv) (by simp) hj bw, bs, hst m j w wm rfl hj bw, bs, hst _ i v (wm.set j bw) (by simp) hi bv, bs]
  have hend : vmfleetlaw4_MemoryOrders.j0 2000 ((4 * j : Nat) : Int) w ((m.set i v).set j w) false = some true := by
    simp only [vmfleetlaw4_MemoryOrders.j0]
    rw [if_neg (by simp)]
    exact Ord_l0 _ ((wm.set i bv).set j bw) n j (by simp; omega) (by omega) (by simp; omega) w (by rw [List.getD_eq_getElem?_getD, List.getElem?_set_self (by simp; omega)]; rfl) 1999 (by omega)
  by_cases hij : ((4 * i : Nat) : Int) = ((4 * j : Nat) : Int)
  · rw [if_pos hij]; exact hend
  · have hc : (m.set i v).set j w = (m.set j w).set i v := List.set_comm _ _ (by omega)
    rw [if_neg hij, Same_eq _ _ (by simp; omega) 2000 (by simp; omega), bs, ← hc]
    dsimp only
    rw [decide_eq_true rfl]
    exact hend

end Go.Proofs.Ytdaeflafdnlceaa.Pure
