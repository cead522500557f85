/- Proved: for any words, address, size and value, loads and stores return what the chapter specifies. Conditions: none. -/
import Derived.Test.YtdaeflafdnlceaaHMemoryAccessesx1
import Derived.Test.YtdaeflafdnlceaaHMemoryAccessesx2
import Derived.Test.YtdaeflafdnlceaaHMemoryAccessesx3
import Derived.Test.YtdaeflafdnlceaaBv
import Derived.Test.YtdaeflafdnlceaaMem
namespace Go.Proofs.Ytdaeflafdnlceaa.Pure
open Go.RowKit Go.Proofs.Ytdaeflafdnlceaa.HMemoryAccesses Go.Proofs.YtdaeflafdnlceaaW.PrintWords Go.Proofs.YtdaeflafdnlceaaW.PrintLast Go.Proofs.Ytdaeflafdnlceaa.Bv Go.Proofs.Ytdaeflafdnlceaa.Mem
set_option linter.unusedVariables false
set_option linter.unusedSimpArgs false

/-- A bind of what is there. -/
theorem bs {α β : Type} (a : α) (f : α → Option β) : (some a).bind f = f a := rfl

theorem Round_eq (a n : Int) (hn : 0 < n) (hn2 : n ≤ 4611686018427387904) : vmfleetmake_Round.f a n = some (a % n) := by
  unfold vmfleetmake_Round.f
  rw [if_neg (by omega)]
  have h1 := Int.emod_nonneg a (show n ≠ 0 by omega)
  have h2 := Int.emod_lt_of_pos a hn
  have h3 := Int.tmod_lt_of_pos a hn
  have h4 := Int.lt_tmod_of_pos a hn
  have h5 : Int.tmod a n = a % n ∨ Int.tmod a n = a % n - n := by
    rw [Int.tmod_eq_emod]; split <;> simp <;> omega
  by_cases h : Int.tmod a n < 0
  · rw [if_pos h, w64 (by omega) (by omega)]; congr 1; omega
  · rw [if_neg h]; congr 1; omega

theorem rNew_eq (n : Int) : vmfleetref1_New.f n = some (if 1 ≤ n ∧ n ≤ 32 then List.replicate (32 * n.toNat) 0 else []) := by
  unfold vmfleetref1_New.f
  by_cases h1 : n < 1
  · rw [if_pos h1, if_neg (by omega)]
  · rw [if_neg h1]
    by_cases h2 : n > 32
    · rw [if_pos h2, if_neg (by omega)]
    · have e : wrap64 (n * 32) = n * 32 := w64 (by omega) (by omega)
      have e2 : (n * 32).toNat = 32 * n.toNat := by omega
      rw [if_neg h2, e, if_pos (by omega), if_pos (by omega), if_pos (by omega), e2]

theorem Mix_ends (a b : Int) : ∃ r, vmfleetmake_Mix.f a b = some r ∧ 0 ≤ r ∧ r ≤ 9223372036854775807 := by
  unfold vmfleetmake_Mix.f
  obtain ⟨p, q, hp, h0, h1⟩ : ∃ p q, vmfleetref1_Next.f (Go.bits .xor .u64 (IntKind.u64.wrap (a)) (IntKind.u64.wrap ((IntKind.u64.wrap (b)) * 11400714819323198485))) = some (p, q) ∧ 0 ≤ p ∧ p ≤ 18446744073709551615 := by
    refine ⟨_, _, rfl, ?_⟩
    show 0 ≤ IntKind.u64.wrap _ ∧ IntKind.u64.wrap _ ≤ _
    rw [wu64]; omega
  rw [hp]; rw [bs]; try dsimp only
  exact ⟨_, rfl, by rw [w64 (by omega) (by omega)]; omega, by rw [w64 (by omega) (by omega)]; omega⟩

theorem and_low (x : Int) (h : 0 ≤ x ∧ x ≤ 9223372036854775807) : Go.bits .and .i64 x 4294967295 % 4294967296 = x % 4294967296 := by
  obtain ⟨n, rfl⟩ : ∃ n : Nat, x = (n : Int) := ⟨x.toNat, by omega⟩
  show IntKind.i64.wrap ((BitVec.ofInt 64 (n : Int) &&& BitVec.ofInt 64 4294967295).toNat : Int) % 4294967296 = _
  have e1 : (BitVec.ofInt 64 4294967295).toNat = 2 ^ 32 - 1 := rfl
  have e2 : (BitVec.ofInt 64 (n : Int)).toNat = n := by simp; omega
  rw [BitVec.toNat_and, e1, e2, Nat.and_two_pow_sub_one_eq_mod]
  have e3 : IntKind.i64.wrap ((n % 2 ^ 32 : Nat) : Int) = ((n % 2 ^ 32 : Nat) : Int) := by rw [IntKind.wrap_i64]; omega
  rw [e3]; omega
theorem shaped_from (l : List Int) (hl : l.length ≤ 9000000000000000000) (d : Nat) : ∀ (i k : Nat) (m : List Int), i ≤ l.length → i ≤ 40 → 40 - i = d → 2 * d + 1 < k → Ws m → 1 ≤ m.length → m.length ≤ 1024 → ∃ m', vmfleetlaw4_shaped.l0 k l m (i : Int) = some m' ∧ m'.length = m.length ∧ Ws m' := by
  induction d with
  | zero =>
    intro i k m h1 h2 h3 h4 hw hm hm2
    obtain ⟨k, rfl⟩ : ∃ q, k = q + 2 := ⟨k - 2, by omega⟩
    refine ⟨m, ?_, rfl, hw⟩
    simp only [vmfleetlaw4_shaped.l0]
    by_cases hi : (i : Int) < (l.length : Int)
    · rw [if_pos hi]
      simp only [vmfleetlaw4_shaped.j2]
      have : ¬ decide ((i : Int) < 40) = true := by simp; omega
      rw [if_neg this]
    · rw [if_neg hi]
      simp only [vmfleetlaw4_shaped.j2]
      rw [if_neg (by simp)]
  | succ d ih =>
    intro i k m h1 h2 h3 h4 hw hm hm2
    obtain ⟨k, rfl⟩ : ∃ q, k = q + 2 := ⟨k - 2, by omega⟩
    simp only [vmfleetlaw4_shaped.l0]
    by_cases hi : (i : Int) < (l.length : Int)
    · rw [if_pos hi]
      simp only [vmfleetlaw4_shaped.j2]
      have hdec : decide ((i : Int) < 40) = true := by simp; omega
      obtain ⟨p, e1, p0, p1⟩ := Mix_ends (rd l (i : Int)) 5
      obtain ⟨q, e2, q0, q1⟩ := Mix_ends (rd l (i : Int)) 6
      have e3 := Round_eq p (m.length : Int) (by omega) (by omega)
      have hr0 := Int.emod_nonneg p (show (m.length : Int) ≠ 0 by omega)
      have hr1 := Int.emod_lt_of_pos p (show 0 < (m.length : Int) by omega)
      have ew : wrap64 ((i : Int) + 1) = ((i + 1 : Nat) : Int) := by rw [w64 (by omega) (by omega)]; simp
      rw [if_pos hdec, if_pos (by omega), if_pos hi, e1, bs, e3, bs, e2, bs, if_pos hr0, if_pos hr1, and_low q ⟨q0, q1⟩, ew]
      have hq : 0 ≤ q % 4294967296 ∧ q % 4294967296 ≤ 4294967295 := by omega
      obtain ⟨m', h5, h6, h7⟩ := ih (i + 1) k (m.set (p % (m.length : Int)).toNat (q % 4294967296)) (by omega) (by omega) (by omega) (by omega) (hw.set _ hq) (by simpa using hm) (by simpa using hm2)
      exact ⟨m', h5, by rw [h6]; simp, h7⟩
    · refine ⟨m, ?_, rfl, hw⟩
      rw [if_neg hi]
      simp only [vmfleetlaw4_shaped.j2]
      rw [if_neg (by simp)]
/-- The memory made of numbers: its size, and that its words are words. -/
theorem shaped_ends (x0 : List Int) (raw : Bool) (l : List Int) (p : Int) (hl : l.length ≤ 140737488355328) (hraw : raw = false ∨ 200 < x0.length) : ∃ m, (∀ k, 200 ≤ k → vmfleetlaw4_shaped.f k x0 raw l p = some m) ∧ m.length = 32 * (1 + (p % 6).toNat) ∧ Ws m := by
  have hp0 := Int.emod_nonneg p (show (6 : Int) ≠ 0 by decide)
  have hp1 := Int.emod_lt_of_pos p (show (0 : Int) < 6 by decide)
  have e1 : wrap64 (1 + p % 6) = 1 + p % 6 := w64 (by omega) (by omega)
  have hlen : (List.replicate (32 * (1 + p % 6).toNat) (0 : Int)).length = 32 * (1 + p % 6).toNat := by simp
  obtain ⟨m, h1, h2, h3⟩ := shaped_from l (by omega) 40 0 198 (List.replicate (32 * (1 + p % 6).toNat) 0) (by omega) (by omega) (by omega) (by omega) (Ws.rep _) (by omega) (by omega)
  have hj : ∀ b : Bool, b = false → vmfleetlaw4_shaped.j0 200 x0 l p b = some m := by
    intro b hb
    simp only [vmfleetlaw4_shaped.j0]
    rw [hb, if_neg (by simp), Round_eq p 6 (by omega) (by omega), bs, e1, rNew_eq, bs, if_pos (by omega)]
    rw [Int.natCast_zero] at h1
    exact at_rounds (g := fun k => vmfleetlaw4_shaped.l0 k l (List.replicate (32 * (1 + p % 6).toNat) 0) 0) (fun k => (vmfleetlaw4_shaped.mono_l k).2.1 _ _ _) (by omega : 198 ≤ 199) h1
  refine ⟨m, fun k hk => at_rounds (g := fun k => vmfleetlaw4_shaped.f k x0 raw l p) (fun k => vmfleetlaw4_shaped.mono _ _ _ _ k) hk ?_, by rw [h2, hlen]; omega, h3⟩
  show vmfleetlaw4_shaped.f 200 x0 raw l p = some m
  unfold vmfleetlaw4_shaped.f
  by_cases hr : raw = true
  · rw [if_pos hr]
    refine hj _ ?_
    rcases hraw with h | h
    · rw [h] at hr; cases hr
    · simp; omega
  · rw [if_neg hr]; exact hj _ rfl
/-- The memory, whichever it is: its words are words, and they are few. -/
theorem shaped_any (x0 : List Int) (raw : Bool) (l : List Int) (p : Int) (hl : l.length ≤ 140737488355328) (hw : Ws x0) : ∃ m, (∀ k, 200 ≤ k → vmfleetlaw4_shaped.f k x0 raw l p = some m) ∧ m.length ≤ 1024 ∧ Ws m := by
  by_cases h : raw = false ∨ 200 < x0.length
  · obtain ⟨m, h1, h2, h3⟩ := shaped_ends x0 raw l p hl h
    have hp1 := Int.emod_lt_of_pos p (show (0 : Int) < 6 by decide)
    exact ⟨m, h1, by omega, h3⟩
  · have hr : raw = true := by cases raw; exact absurd (.inl rfl) h; rfl
    have hx : ¬ 200 < x0.length := fun hx => h (.inr hx)
    refine ⟨x0, fun k hk => at_rounds (g := fun k => vmfleetlaw4_shaped.f k x0 raw l p) (fun k => vmfleetlaw4_shaped.mono _ _ _ _ k) hk ?_, by omega, hw⟩
    show vmfleetlaw4_shaped.f 200 x0 raw l p = some x0
    unfold vmfleetlaw4_shaped.f
    rw [if_pos hr]
    simp only [vmfleetlaw4_shaped.j0]
    rw [if_pos (by simp; omega)]
theorem new_len (n : Int) : (if 1 ≤ n ∧ n ≤ 32 then List.replicate (32 * n.toNat) (0 : Int) else []).length ≤ 1024 := by
  split
  · simp; omega
  · simp
theorem ws_of {l : List Int} (h : ∀ x ∈ l, (Lit.int .u32 x).wf = true) : Ws l := fun x hx => bounds_u32 (h x hx)

theorem Pages_eq (l : List Int) : memory_Pages.f l = some (pagesv l) := by
  unfold memory_Pages.f pagesv
  by_cases h : (l.length : Int) % 32 = 0
  · rw [if_pos h]
    by_cases h2 : (l.length : Int) > 1024
    · rw [if_pos h2, if_neg (by omega)]
    · rw [if_neg h2, if_pos (by omega), w64 (by omega) (by omega)]; simp
  · rw [if_neg h, if_neg (by omega)]

theorem within_eq (l : List Int) (a s : Int) (ha : 0 ≤ a ∧ a ≤ 4294967295) : memory_within.f l a s = some (decide (withinv l a s)) := by
  have hp := pagesv_le l
  have ea : IntKind.u64.wrap a = a := u64w (by omega) (by omega)
  have ep : IntKind.u64.wrap (wrap64 (pagesv l * 128)) = pagesv l * 128 := by rw [w64 (by omega) (by omega), u64w (by omega) (by omega)]
  unfold memory_within.f
  rw [Pages_eq]; rw [bs]; try dsimp only
  rw [ep, ea]
  by_cases h1 : s = 1
  · subst h1
    have e1 : Int.tmod a (1 % 4294967296) = a % 1 := Int.tmod_eq_emod_of_nonneg ha.1
    have e2 : IntKind.u64.wrap 1 = 1 := u64w (by omega) (by omega)
    have e3 : IntKind.u64.wrap (a + 1) = a + 1 := u64w (by omega) (by omega)
    rw [if_pos rfl, if_neg (by omega), e1, if_pos (by omega), e2, e3]
    exact congrArg some (decide_eq_decide.2 (by unfold withinv; omega))
  · rw [if_neg h1]
    by_cases h4 : s = 4
    · subst h4
      have e1 : Int.tmod a (4 % 4294967296) = a % 4 := Int.tmod_eq_emod_of_nonneg ha.1
      have e2 : IntKind.u64.wrap 4 = 4 := u64w (by omega) (by omega)
      have e3 : IntKind.u64.wrap (a + 4) = a + 4 := u64w (by omega) (by omega)
      rw [if_pos rfl, if_neg (by omega), e1]
      by_cases hm : a % 4 = 0
      · rw [if_pos hm, e2, e3]
        exact congrArg some (decide_eq_decide.2 (by unfold withinv; omega))
      · rw [if_neg hm]; exact congrArg some (decide_eq_false (by unfold withinv; omega)).symm
    · rw [if_neg h4]; exact congrArg some (decide_eq_false (by unfold withinv; omega)).symm

theorem outside_eq (low n : Int) : bits_outside.f low n = some (decide (low < 0 ∨ low > 31 ∨ n < 1)) := by
  unfold bits_outside.f
  by_cases h1 : low < 0
  · rw [if_pos h1]; simp [h1]
  · rw [if_neg h1]
    by_cases h2 : low > 31
    · rw [if_pos h2]; simp [h2]
    · rw [if_neg h2]; simp [h1]; omega

theorem mask_eq (n : Int) (h : 1 ≤ n) : bits_mask.f n = some (B (Mi n)) := by
  unfold bits_mask.f Mi
  split
  · rfl
  · rw [if_pos (by omega), mask_B n (by omega) (by omega)]

theorem Field_eq (x : BitVec 32) (low n : Int) : bits_Field.f (B x) low n = some (B (fieldv x low n)) := by
  unfold bits_Field.f fieldv
  rw [outside_eq]; rw [bs]; try dsimp only
  by_cases h : low < 0 ∨ low > 31 ∨ n < 1
  · rw [if_pos (by simpa using h), if_pos h]; rfl
  · rw [if_neg (by simpa using h), if_neg h, if_pos (by omega), mask_eq n (by omega)]; rw [bs]; try dsimp only
    rw [shr_B, and_B]

theorem Load_eq (l : List Int) (hw : Ws l) (a s : Int) (ha : 0 ≤ a ∧ a ≤ 4294967295) : memory_Load.f l a s = some (loadv l a s) := by
  unfold memory_Load.f loadv
  rw [within_eq l a s ha]; rw [bs]; try dsimp only
  by_cases h : withinv l a s
  · have hi := within_idx h ha.1
    have e1 : Int.tdiv a 4 % 4294967296 = a / 4 := by rw [Int.tdiv_eq_ediv_of_nonneg ha.1]; omega
    have e2a : wrap64 (Int.tmod a 4) = a % 4 := by rw [Int.tmod_eq_emod_of_nonneg ha.1]; exact w64 (by omega) (by omega)
    have e2 : wrap64 (8 * wrap64 (Int.tmod a 4)) = 8 * (a % 4) := by rw [e2a]; exact w64 (by omega) (by omega)
    rw [if_pos (decide_eq_true h), if_pos h, e1, e2, if_pos (by omega), if_pos hi.1]
    unfold getw
    by_cases hs : s = 1
    · rw [if_pos hs, if_pos hs, ← B_W (hw.at_ (a / 4)), Field_eq, W_B]; rfl
    · rw [if_neg hs, if_neg hs]
  · have : ¬ decide (withinv l a s) = true := by simpa using h
    rw [if_neg this, if_neg h]

theorem rPages_eq (l : List Int) : vmfleetref1_Pages.f l = some (pagesv l) := by
  unfold vmfleetref1_Pages.f pagesv
  by_cases h : (l.length : Int) % 32 = 0
  · rw [if_pos h]
    by_cases h2 : (l.length : Int) > 1024
    · rw [if_pos h2, if_neg (by omega)]
    · rw [if_neg h2, if_pos (by omega), w64 (by omega) (by omega)]; simp
  · rw [if_neg h, if_neg (by omega)]

theorem rWithin_eq (l : List Int) (a s : Int) (ha : 0 ≤ a ∧ a ≤ 4294967295) : vmfleetref1_Within.f l a s = some (decide (withinv l a s)) := by
  have hp := pagesv_le l
  have ep : wrap64 (128 * pagesv l) % 4294967296 = 128 * pagesv l := by rw [w64 (by omega) (by omega)]; omega
  unfold vmfleetref1_Within.f
  by_cases h1 : s = 1
  · subst h1
    have e1 : Int.tmod a (1 % 4294967296) = a % 1 := Int.tmod_eq_emod_of_nonneg ha.1
    rw [if_pos rfl, if_neg (by omega), e1, if_pos (by omega), rPages_eq, bs, ep]
    exact congrArg some (decide_eq_decide.2 (by unfold withinv; omega))
  · rw [if_neg h1]
    by_cases h4 : s = 4
    · subst h4
      have e1 : Int.tmod a (4 % 4294967296) = a % 4 := Int.tmod_eq_emod_of_nonneg ha.1
      rw [if_pos rfl, if_neg (by omega), e1]
      by_cases hm : a % 4 = 0
      · rw [if_pos hm, rPages_eq, bs, ep]
        exact congrArg some (decide_eq_decide.2 (by unfold withinv; omega))
      · rw [if_neg hm]; exact congrArg some (decide_eq_false (by unfold withinv; omega)).symm
    · rw [if_neg h4]; exact congrArg some (decide_eq_false (by unfold withinv; omega)).symm

theorem rLoad_eq (l : List Int) (hw : Ws l) (a s : Int) (ha : 0 ≤ a ∧ a ≤ 4294967295) : vmfleetref1_Load.f l a s = some (loadv l a s) := by
  unfold vmfleetref1_Load.f loadv
  rw [rWithin_eq l a s ha, bs]
  by_cases h : withinv l a s
  · have hi := within_idx h ha.1
    have e1 : Int.tdiv a 4 % 4294967296 = a / 4 := by rw [Int.tdiv_eq_ediv_of_nonneg ha.1]; omega
    have e2 : (8 * Int.tmod a 4) % 4294967296 = 8 * (a % 4) := by rw [Int.tmod_eq_emod_of_nonneg ha.1]; omega
    rw [if_pos (decide_eq_true h), if_pos h, e1, e2, if_pos (by omega), if_pos hi.1]
    unfold getw
    by_cases hs : s = 1
    · rw [if_pos hs, if_pos hs, ← B_W (hw.at_ (a / 4)), W_B]
      unfold fieldv
      have e3 : (255 : Int) = B (M 8) := rfl
      have e4 : Mi 8 = M 8 := rfl
      rw [if_neg (by omega), shr_B, e3, and_B, e4]
    · rw [if_neg hs, if_neg hs]
  · have : ¬ decide (withinv l a s) = true := by simpa using h
    rw [if_neg this, if_neg h]

theorem clone_eq (l : List Int) (h : l.length ≤ 70368744177664) : memory_clone.f l = some l := by unfold memory_clone.f; rw [if_pos h]

theorem SetField_eq (x : BitVec 32) (low n : Int) (v : BitVec 32) : bits_SetField.f (B x) low n (B v) = some (B (setv x low n v)) := by
  unfold bits_SetField.f setv
  rw [outside_eq]; rw [bs]; try dsimp only
  by_cases h : low < 0 ∨ low > 31 ∨ n < 1
  · rw [if_pos (by simpa using h), if_pos h]
  · rw [if_neg (by simpa using h), if_neg h, mask_eq n (by omega)]; rw [bs]; try dsimp only
    rw [if_pos (by omega), shl_B, shl_B, andNot_B, and_B, or_B]

theorem Store_eq (l : List Int) (hl : l.length ≤ 70368744177664) (hw : Ws l) (a s v : Int) (ha : 0 ≤ a ∧ a ≤ 4294967295) (hv : 0 ≤ v ∧ v ≤ 4294967295) : memory_Store.f l a s v = some (storev l a s v) := by
  unfold memory_Store.f storev
  rw [clone_eq l hl]; rw [bs]; try dsimp only
  rw [within_eq l a s ha]; rw [bs]; try dsimp only
  by_cases h : withinv l a s
  · have hi := within_idx h ha.1
    have e1 : Int.tdiv a 4 % 4294967296 = a / 4 := by rw [Int.tdiv_eq_ediv_of_nonneg ha.1]; omega
    have e2a : wrap64 (Int.tmod a 4) = a % 4 := by rw [Int.tmod_eq_emod_of_nonneg ha.1]; exact w64 (by omega) (by omega)
    have e2 : wrap64 (8 * wrap64 (Int.tmod a 4)) = 8 * (a % 4) := by rw [e2a]; exact w64 (by omega) (by omega)
    rw [if_pos (decide_eq_true h), if_pos h, e1, e2]
    unfold put
    by_cases hs : s = 1
    · rw [if_pos hs, if_pos (by omega), if_pos hi.1, if_pos hs, ← B_W (hw.at_ (a / 4))]
      conv => lhs; rw [← B_W hv]
      rw [SetField_eq]; rw [bs]; try dsimp only
      rw [if_pos hi.1, W_B]
    · rw [if_neg hs, if_pos (by omega), if_pos hi.1, if_neg hs]
  · have : ¬ decide (withinv l a s) = true := by simpa using h
    rw [if_neg this, if_neg h]

theorem rCopy_eq (l : List Int) (h : l.length ≤ 70368744177664) : vmfleetref1_Copy.f l = some l := by unfold vmfleetref1_Copy.f; rw [if_pos h]

theorem rPut_eq (l : List Int) (hw : Ws l) (a s v : Int) (ha : 0 ≤ a) (hs : s = 1 ∨ s = 4) (hi : a / 4 < (l.length : Int)) (hv : 0 ≤ v ∧ v ≤ 4294967295) (ha2 : a ≤ 4294967295) : vmfleetref1_Put.f l a s v = some (l.set (a / 4).toNat (put l a s v)) := by
  unfold vmfleetref1_Put.f
  have e1 : Int.tdiv a 4 % 4294967296 = a / 4 := by rw [Int.tdiv_eq_ediv_of_nonneg ha]; omega
  have e2 : (8 * Int.tmod a 4) % 4294967296 = 8 * (a % 4) := by rw [Int.tmod_eq_emod_of_nonneg ha]; omega
  rw [e1, e2]
  unfold put
  rcases hs with rfl | rfl
  · rw [if_neg (by decide), if_pos (by omega), if_pos hi, if_pos rfl]
    have e3 : (255 : Int) = B (M 8) := rfl
    have e4 : Mi 8 = M 8 := rfl
    have e5 : Go.bits .or .u32 (Go.bits .andNot .u32 (B (W (rd l (a / 4)))) (shl .u32 255 (8 * (a % 4)))) (shl .u32 (Go.bits .and .u32 (B (W v)) 255) (8 * (a % 4))) = B (setv (W (rd l (a / 4))) (8 * (a % 4)) 8 (W v)) := by
      unfold setv
      rw [if_neg (by omega), e3, shl_B, andNot_B, and_B, shl_B, or_B, e4, BitVec.shiftLeft_and_distrib]
    rw [B_W (hw.at_ (a / 4)), B_W hv] at e5
    rw [e5]
  · rw [if_pos rfl, if_pos (by omega), if_pos hi, if_neg (by decide)]

theorem rStore_eq (l : List Int) (hl : l.length ≤ 70368744177664) (hw : Ws l) (a s v : Int) (ha : 0 ≤ a ∧ a ≤ 4294967295) (hv : 0 ≤ v ∧ v ≤ 4294967295) : vmfleetref1_Store.f l a s v = some (storev l a s v) := by
  unfold vmfleetref1_Store.f storev
  rw [rCopy_eq l hl, bs, rWithin_eq l a s ha, bs]
  by_cases h : withinv l a s
  · rw [if_pos (decide_eq_true h), if_pos h, rPut_eq l hw a s v ha.1 h.1 (within_idx h ha.1).1 hv ha.2, bs]
  · have : ¬ decide (withinv l a s) = true := by simpa using h
    rw [if_neg this, if_neg h]

theorem Same_from (a b : List Int) (hl : a.length = b.length) (hb : a.length ≤ 140737488355328) (d : Nat) : ∀ (i k : Nat), i ≤ a.length → a.length - i = d → d < k → vmfleetref1_SameWords.l0 k a b (i : Int) = some (decide (a.drop i = b.drop i)) := by
  induction d with
  | zero =>
    intro i k h1 h2 h3
    obtain ⟨k, rfl⟩ : ∃ q, k = q + 1 := ⟨k - 1, by omega⟩
    simp only [vmfleetref1_SameWords.l0]
    rw [if_neg (by omega), List.drop_of_length_le (by omega), List.drop_of_length_le (by omega)]; rfl
  | succ d ih =>
    intro i k h1 h2 h3
    obtain ⟨k, rfl⟩ : ∃ q, k = q + 1 := ⟨k - 1, by omega⟩
    simp only [vmfleetref1_SameWords.l0]
    have e1 : wrap64 ((i : Int) + 1) = ((i + 1 : Nat) : Int) := by rw [w64 (by omega) (by omega)]; simp
    have ha : rd a (i : Int) = a[i]'(by omega) := by unfold rd; rw [Int.toNat_natCast, List.getD_eq_getElem?_getD, List.getElem?_eq_getElem (by omega)]; rfl
    have hb2 : rd b (i : Int) = b[i]'(by omega) := by unfold rd; rw [Int.toNat_natCast, List.getD_eq_getElem?_getD, List.getElem?_eq_getElem (by omega)]; rfl
    rw [if_pos (by omega), if_pos (by omega), if_pos (by omega), e1, ih (i + 1) k (by omega) (by omega) (by omega), ha, hb2,
      List.drop_eq_getElem_cons (show i < a.length by omega), List.drop_eq_getElem_cons (show i < b.length by omega)]
    by_cases h : a[i]'(by omega) = b[i]'(by omega)
    · rw [if_pos h, h]; exact congrArg some (decide_eq_decide.2 ⟨fun e => by rw [e], fun e => (List.cons.inj e).2⟩)
    · rw [if_neg h]; exact congrArg some (decide_eq_false (fun e => h (List.cons.inj e).1)).symm
theorem Same_eq (a b : List Int) (hb : a.length ≤ 140737488355328) (k : Nat) (hk : a.length < k) : vmfleetref1_SameWords.f k a b = some (decide (a = b)) := by
  unfold vmfleetref1_SameWords.f
  by_cases h : (a.length : Int) = (b.length : Int)
  · have := Same_from a b (by omega) hb a.length 0 k (by omega) (by omega) hk
    rw [Int.natCast_zero, List.drop_zero, List.drop_zero] at this
    rw [if_pos h, this]
  · rw [if_neg h]; exact congrArg some (decide_eq_false (fun e => h (by rw [e]))).symm

theorem New_eq (n : Int) : memory_New.f n = some (if 1 ≤ n ∧ n ≤ 32 then List.replicate (32 * n.toNat) 0 else []) := by
  unfold memory_New.f
  by_cases h1 : n < 1
  · rw [if_pos h1, if_neg (by omega)]
  · rw [if_neg h1]
    by_cases h2 : n > 32
    · rw [if_pos h2, if_neg (by omega)]
    · have e : wrap64 (n * 32) = n * 32 := w64 (by omega) (by omega)
      have e2 : (n * 32).toNat = 32 * n.toNat := by omega
      rw [if_neg h2, e, if_pos (by omega), if_pos (by omega), if_pos (by omega), e2]

theorem awake_ends : vmfleetlaw4_awake.f = some true := by kernel_rfl

theorem Acc_j0 (m : List Int) (hm : m.length ≤ 1024) (hw : Ws m) (p a s v : Int) (ha : 0 ≤ a ∧ a ≤ 4294967295) (hv : 0 ≤ v ∧ v ≤ 4294967295) (k : Nat) (hk : 1025 < k) : vmfleetlaw4_MemoryAccesses.j0 k m p a s v = some true := by
  obtain ⟨k, rfl⟩ : ∃ q, k = q + 1 := ⟨k - 1, by omega⟩
  simp only [vmfleetlaw4_MemoryAccesses.j0]
  rw [Load_eq m hw a s ha, bs, rLoad_eq m hw a s ha, bs, Store_eq m (by omega) hw a s v ha hv, bs, rStore_eq m (by omega) hw a s v ha hv, bs,
    if_pos rfl, if_pos (by simp), if_pos (by simp), Same_eq _ _ (by rw [storev_len]; omega) k (by rw [storev_len]; omega), bs, if_pos (by simp),
    Pages_eq, bs, rPages_eq, bs, if_pos rfl, New_eq, bs, rNew_eq, bs, Same_eq _ _ (by have := new_len p; omega) k (by have := new_len p; omega), bs, if_pos (by simp), awake_ends, bs]
theorem MemoryAccesses : vmfleetlaw4_MemoryAccesses.Pure := by
  intro x raw l p a sm s v h0 h1 h2 h3 h4 h5 h6 h7 h8 h9
  have ba := bounds_u32 h7
  have bv := bounds_u32 h9
  obtain ⟨m, em, lm, wm⟩ := shaped_any x raw l p (by unfold maxLen at h3; omega) (ws_of h2)
  refine ⟨2000, ?_⟩
  unfold vmfleetlaw4_MemoryAccesses.f
  rw [em 2000 (by omega), bs]
  by_cases hs : sm = true
  · have e1 : Int.tmod a 800 = a % 800 := Int.tmod_eq_emod_of_nonneg ba.1
    rw [if_pos hs, Round_eq s 2 (by omega) (by omega), bs, e1]
    exact Acc_j0 m lm wm p _ _ v (by omega) bv 2000 (by omega)
  · rw [if_neg hs]
    exact Acc_j0 m lm wm p a s v ba bv 2000 (by omega)

end Go.Proofs.Ytdaeflafdnlceaa.Pure
