/- Proved: setting accessed and dirty bits changes no translation of any address, for any root and access. Conditions: none. -/
import Derived.Test.YtbijkhoeaddemaaHPagingTouchesx1
import Derived.Test.YtbijkhoeaddemaaHPagingTouchesx2
import Derived.Test.YtbijkhoeaddemaaHPagingTouchesx3
import Derived.Test.YtbijkhoeaddemaaHPagingTouchesx4
import Derived.Test.YtbijkhoeaddemaaBv
import Derived.Test.YtbijkhoeaddemaaMem
namespace Go.Proofs.Ytbijkhoeaddemaa.Pure
open Go.RowKit Go.Proofs.Ytbijkhoeaddemaa.HPagingTouches Go.Proofs.YtbijkhoeaddemaaW.PrintWords Go.Proofs.YtbijkhoeaddemaaW.PrintLast Go.Proofs.Ytbijkhoeaddemaa.Bv Go.Proofs.Ytbijkhoeaddemaa.Mem
set_option linter.unusedVariables false
set_option linter.unusedSimpArgs false

/-- A bind of what is there. -/
theorem bs {α β : Type} (a : α) (f : α → Option β) : (some a).bind f = f a := rfl

theorem Round_eq (a n : Int) (hn : 0 < n) (hn2 : n ≤ 4611686018427387904) : vmfleetmake_Round.f a n = some (a % n) := by
  unfold vmfleetmake_Round.f
  rw [if_neg (by omega)]
  have h1 := Int.emod_nonneg a (show n ≠ 0 by omega)
  have h2 := Int.emod_lt_of_pos a hn
  have h3 := Int.tmod_lt_of_pos a hn
  have h4 := Int.lt_tmod_of_pos a hn
  have h5 : Int.tmod a n = a % n ∨ Int.tmod a n = a % n - n := by
    rw [Int.tmod_eq_emod]; split <;> simp <;> omega
  by_cases h : Int.tmod a n < 0
  · rw [if_pos h, w64 (by omega) (by omega)]; congr 1; omega
  · rw [if_neg h]; congr 1; omega

theorem rNew_eq (n : Int) : vmfleetref1_New.f n = some (if 1 ≤ n ∧ n ≤ 32 then List.replicate (32 * n.toNat) 0 else []) := by
  unfold vmfleetref1_New.f
  by_cases h1 : n < 1
  · rw [if_pos h1, if_neg (by omega)]
  · rw [if_neg h1]
    by_cases h2 : n > 32
    · rw [if_pos h2, if_neg (by omega)]
    · have e : wrap64 (n * 32) = n * 32 := w64 (by omega) (by omega)
      have e2 : (n * 32).toNat = 32 * n.toNat := by omega
      rw [if_neg h2, e, if_pos (by omega), if_pos (by omega), if_pos (by omega), e2]

theorem Mix_ends (a b : Int) : ∃ r, vmfleetmake_Mix.f a b = some r ∧ 0 ≤ r ∧ r ≤ 9223372036854775807 := by
  unfold vmfleetmake_Mix.f
  obtain ⟨p, q, hp, h0, h1⟩ : ∃ p q, vmfleetref1_Next.f (Go.bits .xor .u64 (IntKind.u64.wrap (a)) (IntKind.u64.wrap ((IntKind.u64.wrap (b)) * 11400714819323198485))) = some (p, q) ∧ 0 ≤ p ∧ p ≤ 18446744073709551615 := by
    refine ⟨_, _, rfl, ?_⟩
    show 0 ≤ IntKind.u64.wrap _ ∧ IntKind.u64.wrap _ ≤ _
    rw [wu64]; omega
  rw [hp]; rw [bs]; try dsimp only
  exact ⟨_, rfl, by rw [w64 (by omega) (by omega)]; omega, by rw [w64 (by omega) (by omega)]; omega⟩

theorem or_word (a b : Int) (ha : 0 ≤ a ∧ a ≤ 4294967295) (hb : 0 ≤ b ∧ b ≤ 4294967295) : 0 ≤ Go.bits .or .u32 a b ∧ Go.bits .or .u32 a b ≤ 4294967295 := by
  rw [← B_W ha, ← B_W hb, or_B]; exact B_word _
theorem mod_word (x : Int) : 0 ≤ x % 4294967296 ∧ x % 4294967296 ≤ 4294967295 := by omega
theorem tables_from (l : List Int) (hl : l.length ≤ 9000000000000000000) (d : Nat) : ∀ (i k : Nat) (m : List Int), i ≤ l.length → i ≤ 60 → 60 - i = d → 2 * d + 1 < k → Ws m → 1 ≤ m.length → m.length ≤ 1024 → ∃ m', vmfleetlaw5_tables.l0 k l m (i : Int) = some m' ∧ m'.length = m.length ∧ Ws m' := by
  induction d with
  | zero =>
    intro i k m h1 h2 h3 h4 hw hm hm2
    obtain ⟨k, rfl⟩ : ∃ q, k = q + 2 := ⟨k - 2, by omega⟩
    refine ⟨m, ?_, rfl, hw⟩
    simp only [vmfleetlaw5_tables.l0]
    by_cases hi : (i : Int) < (l.length : Int)
    · rw [if_pos hi]
      simp only [vmfleetlaw5_tables.j1]
      have : ¬ decide ((i : Int) < 60) = true := by simp; omega
      rw [if_neg this]
    · rw [if_neg hi]
      simp only [vmfleetlaw5_tables.j1]
      rw [if_neg (by simp)]
  | succ d ih =>
    intro i k m h1 h2 h3 h4 hw hm hm2
    obtain ⟨k, rfl⟩ : ∃ q, k = q + 2 := ⟨k - 2, by omega⟩
    simp only [vmfleetlaw5_tables.l0]
    by_cases hi : (i : Int) < (l.length : Int)
    · rw [if_pos hi]
      simp only [vmfleetlaw5_tables.j1]
      have hdec : decide ((i : Int) < 60) = true := by simp; omega
      obtain ⟨p, e1, p0, p1⟩ := Mix_ends (rd l (i : Int)) 9
      have e3 := Round_eq p (m.length : Int) (by omega) (by omega)
      have hr0 := Int.emod_nonneg p (show (m.length : Int) ≠ 0 by omega)
      have hr1 := Int.emod_lt_of_pos p (show 0 < (m.length : Int) by omega)
      have ew : wrap64 ((i : Int) + 1) = ((i + 1 : Nat) : Int) := by rw [w64 (by omega) (by omega)]; simp
      rw [if_pos hdec, if_pos (by omega), if_pos hi, e1, bs, e3, bs, if_pos hr0, if_pos hr1, bs, ew]
      have w1 := hw.set (p % (m.length : Int)).toNat (or_word _ _ (mod_word (Go.bits .and .i64 (p / 65536) 31)) (mod_word ((Go.bits .and .i64 (p / 16777216) 15) % 4294967296 * 256)))
      by_cases h5 : Int.tmod (rd l (i : Int)) 5 = 0
      · rw [if_pos h5]
        obtain ⟨m', h6, h7, h8⟩ := ih (i + 1) k _ (by omega) (by omega) (by omega) (by omega) (w1.set (p % (m.length : Int)).toNat (mod_word (Go.bits .and .i64 (p / 1048576) 4294967295))) (by simpa using hm) (by simpa using hm2)
        exact ⟨m', h6, by rw [h7]; simp, h8⟩
      · rw [if_neg h5]
        obtain ⟨m', h6, h7, h8⟩ := ih (i + 1) k _ (by omega) (by omega) (by omega) (by omega) w1 (by simpa using hm) (by simpa using hm2)
        exact ⟨m', h6, by rw [h7]; simp, h8⟩
    · refine ⟨m, ?_, rfl, hw⟩
      rw [if_neg hi]
      simp only [vmfleetlaw5_tables.j1]
      rw [if_neg (by simp)]
/-- The memory with page tables made of numbers: its size, and that its words are words. -/
theorem tables_ends (l : List Int) (p : Int) (hl : l.length ≤ 140737488355328) : ∃ (m : List Int) (n : Nat), (∀ k, 200 ≤ k → vmfleetlaw5_tables.f k l p = some m) ∧ m.length = 32 * n ∧ 1 ≤ n ∧ n ≤ 8 ∧ Ws m ∧ pagesv m = (n : Int) := by
  have hp0 := Int.emod_nonneg p (show (8 : Int) ≠ 0 by decide)
  have hp1 := Int.emod_lt_of_pos p (show (0 : Int) < 8 by decide)
  have e1 : wrap64 (1 + p % 8) = 1 + p % 8 := w64 (by omega) (by omega)
  have hlen : (List.replicate (32 * (1 + p % 8).toNat) (0 : Int)).length = 32 * (1 + p % 8).toNat := by simp
  obtain ⟨m, h1, h2, h3⟩ := tables_from l (by omega) 60 0 200 (List.replicate (32 * (1 + p % 8).toNat) 0) (by omega) (by omega) (by omega) (by omega) (Ws.rep _) (by omega) (by omega)
  refine ⟨m, (1 + p % 8).toNat, fun k hk => at_rounds (g := fun k => vmfleetlaw5_tables.f k l p) (fun k => vmfleetlaw5_tables.mono _ _ k) hk ?_, by rw [h2, hlen], by omega, by omega, h3, pagesv_of (by rw [h2, hlen]) (by omega)⟩
  show vmfleetlaw5_tables.f 200 l p = some m
  unfold vmfleetlaw5_tables.f
  rw [Round_eq p 8 (by omega) (by omega), bs, e1, rNew_eq, bs, if_pos (by omega)]
  rw [Int.natCast_zero] at h1
  exact h1

theorem Pages_eq (l : List Int) : memory_Pages.f l = some (pagesv l) := by
  unfold memory_Pages.f pagesv
  by_cases h : (l.length : Int) % 32 = 0
  · rw [if_pos h]
    by_cases h2 : (l.length : Int) > 1024
    · rw [if_pos h2, if_neg (by omega)]
    · rw [if_neg h2, if_pos (by omega), w64 (by omega) (by omega)]; simp
  · rw [if_neg h, if_neg (by omega)]

theorem page_eq (m : List Int) (a : Int) (ha : 0 ≤ a ∧ a ≤ 4294967295) : paging_page.f m a = some (decide (a < pagesv m)) := by
  have hp := pagesv_le m
  unfold paging_page.f
  rw [Pages_eq, bs, u64w (by omega) (by omega), u64w (by omega) (by omega)]

def causev (a : Int) : Int := if a = 1 then 4 else if a = 3 then 6 else 5
theorem Cause_eq (a : Int) : paging_Cause.f a = some (causev a) := by
  unfold paging_Cause.f causev
  split
  · rfl
  · split <;> rfl
theorem causev_ne (a : Int) : causev a ≠ 0 := by
  unfold causev
  split
  · decide
  · split <;> decide

theorem within_eq (l : List Int) (a s : Int) (ha : 0 ≤ a ∧ a ≤ 4294967295) : memory_within.f l a s = some (decide (withinv l a s)) := by
  have hp := pagesv_le l
  have ea : IntKind.u64.wrap a = a := u64w (by omega) (by omega)
  have ep : IntKind.u64.wrap (wrap64 (pagesv l * 128)) = pagesv l * 128 := by rw [w64 (by omega) (by omega), u64w (by omega) (by omega)]
  unfold memory_within.f
  rw [Pages_eq]; rw [bs]; try dsimp only
  rw [ep, ea]
  by_cases h1 : s = 1
  · subst h1
    have e1 : Int.tmod a (1 % 4294967296) = a % 1 := Int.tmod_eq_emod_of_nonneg ha.1
    have e2 : IntKind.u64.wrap 1 = 1 := u64w (by omega) (by omega)
    have e3 : IntKind.u64.wrap (a + 1) = a + 1 := u64w (by omega) (by omega)
    rw [if_pos rfl, if_neg (by omega), e1, if_pos (by omega), e2, e3]
    exact congrArg some (decide_eq_decide.2 (by unfold withinv; omega))
  · rw [if_neg h1]
    by_cases h4 : s = 4
    · subst h4
      have e1 : Int.tmod a (4 % 4294967296) = a % 4 := Int.tmod_eq_emod_of_nonneg ha.1
      have e2 : IntKind.u64.wrap 4 = 4 := u64w (by omega) (by omega)
      have e3 : IntKind.u64.wrap (a + 4) = a + 4 := u64w (by omega) (by omega)
      rw [if_pos rfl, if_neg (by omega), e1]
      by_cases hm : a % 4 = 0
      · rw [if_pos hm, e2, e3]
        exact congrArg some (decide_eq_decide.2 (by unfold withinv; omega))
      · rw [if_neg hm]; exact congrArg some (decide_eq_false (by unfold withinv; omega)).symm
    · rw [if_neg h4]; exact congrArg some (decide_eq_false (by unfold withinv; omega)).symm

theorem outside_eq (low n : Int) : bits_outside.f low n = some (decide (low < 0 ∨ low > 31 ∨ n < 1)) := by
  unfold bits_outside.f
  by_cases h1 : low < 0
  · rw [if_pos h1]; simp [h1]
  · rw [if_neg h1]
    by_cases h2 : low > 31
    · rw [if_pos h2]; simp [h2]
    · rw [if_neg h2]; simp [h1]; omega

theorem mask_eq (n : Int) (h : 1 ≤ n) : bits_mask.f n = some (B (Mi n)) := by
  unfold bits_mask.f Mi
  split
  · rfl
  · rw [if_pos (by omega), mask_B n (by omega) (by omega)]

theorem Field_eq (x : BitVec 32) (low n : Int) : bits_Field.f (B x) low n = some (B (fieldv x low n)) := by
  unfold bits_Field.f fieldv
  rw [outside_eq]; rw [bs]; try dsimp only
  by_cases h : low < 0 ∨ low > 31 ∨ n < 1
  · rw [if_pos (by simpa using h), if_pos h]; rfl
  · rw [if_neg (by simpa using h), if_neg h, if_pos (by omega), mask_eq n (by omega)]; rw [bs]; try dsimp only
    rw [shr_B, and_B]

theorem Load_eq (l : List Int) (hw : Ws l) (a s : Int) (ha : 0 ≤ a ∧ a ≤ 4294967295) : memory_Load.f l a s = some (loadv l a s) := by
  unfold memory_Load.f loadv
  rw [within_eq l a s ha]; rw [bs]; try dsimp only
  by_cases h : withinv l a s
  · have hi := within_idx h ha.1
    have e1 : Int.tdiv a 4 % 4294967296 = a / 4 := by rw [Int.tdiv_eq_ediv_of_nonneg ha.1]; omega
    have e2a : wrap64 (Int.tmod a 4) = a % 4 := by rw [Int.tmod_eq_emod_of_nonneg ha.1]; exact w64 (by omega) (by omega)
    have e2 : wrap64 (8 * wrap64 (Int.tmod a 4)) = 8 * (a % 4) := by rw [e2a]; exact w64 (by omega) (by omega)
    rw [if_pos (decide_eq_true h), if_pos h, e1, e2, if_pos (by omega), if_pos hi.1]
    unfold getw
    by_cases hs : s = 1
    · rw [if_pos hs, if_pos hs, ← B_W (hw.at_ (a / 4)), Field_eq, W_B]; rfl
    · rw [if_neg hs, if_neg hs]
  · have : ¬ decide (withinv l a s) = true := by simpa using h
    rw [if_neg this, if_neg h]

theorem Frame_eq (w : Int) (hw : 0 ≤ w ∧ w ≤ 4294967295) : paging_Frame.f w = some (byt w 1) := by
  unfold paging_Frame.f
  have h := field_byte (W w) 1 (by omega)
  rw [B_W hw] at h
  have e : (8 : Int) * ((1 : Nat) : Int) = 8 := by decide
  rw [e] at h
  have hf : bits_Field.f w 8 8 = some (byt w 1) := by
    rw [← h]
    have := Field_eq (W w) 8 8
    rw [B_W hw] at this
    exact this
  rw [hf, bs]
theorem byt_range (w : Int) (j : Nat) : 0 ≤ byt w j ∧ byt w j ≤ 255 := by unfold byt; omega

def need (a : Int) : Int := if a = 1 then 5 else if a = 3 then 3 else 1
/-- May this entry be used so? -/
def may (w a : Int) : Prop := Go.bits .and .u32 w (need a) = need a
instance (w a : Int) : Decidable (may w a) := by unfold may; infer_instance
def walkv (m : List Int) (r va a : Int) : Int × Int × Int :=
  if 1 ≤ a ∧ a ≤ 3 ∧ va < 4096 ∧ r < pagesv m then
    (if may (rd m (r * 32 + va / 128)) a ∧ byt (rd m (r * 32 + va / 128)) 1 < pagesv m then (byt (rd m (r * 32 + va / 128)) 1 * 128 + va % 128, r * 128 + 4 * (va / 128), 0) else (0, 0, causev a))
  else (0, 0, causev a)
theorem Walk_j1 (m : List Int) (va at_ w nd c : Int) (hw : 0 ≤ w ∧ w ≤ 4294967295) (hva : 0 ≤ va) (k : Nat) (hk : 1 ≤ k) : paging_Walk.j1 k m va at_ w nd 0 0 c = some (if Go.bits .and .u32 w nd = nd ∧ byt w 1 < pagesv m then (byt w 1 * 128 + va % 128, at_, 0) else (0, 0, c)) := by
  obtain ⟨k, rfl⟩ : ∃ q, k = q + 1 := ⟨k - 1, by omega⟩
  have hb := byt_range w 1
  simp only [paging_Walk.j1]
  by_cases h : Go.bits .and .u32 w nd = nd
  · rw [if_pos h, Frame_eq w hw, bs, page_eq m _ (by omega), bs]
    by_cases h2 : byt w 1 < pagesv m
    · have e1 : (byt w 1 * 128 + Int.tmod va 128) % 4294967296 = byt w 1 * 128 + va % 128 := by rw [Int.tmod_eq_emod_of_nonneg hva]; omega
      rw [if_pos (decide_eq_true h2), bs, e1, if_pos ⟨h, h2⟩]
    · rw [if_neg (by simpa using h2), if_neg (fun h' => h2 h'.2)]
  · rw [if_neg h, if_neg (fun h' => h h'.1)]
theorem Walk_eq (m : List Int) (hw : Ws m) (r va a : Int) (hr : 0 ≤ r ∧ r ≤ 4294967295) (hva : 0 ≤ va) (k : Nat) (hk : 4 ≤ k) : paging_Walk.f k m r va a = some (walkv m r va a) := by
  obtain ⟨k, rfl⟩ : ∃ q, k = q + 1 := ⟨k - 1, by omega⟩
  have hp := pagesv_le m
  have ht : ∀ q, paging_Walk.j0 (q + 1) m r va a true 0 0 (causev a) = some (0, 0, causev a) := by
    intro q; simp only [paging_Walk.j0]; rw [if_pos (by trivial)]
  unfold paging_Walk.f walkv
  rw [Cause_eq, bs]
  by_cases h1 : a < 1
  · rw [if_pos h1, if_neg (by omega), ht]
  · rw [if_neg h1]
    by_cases h2 : a > 3
    · rw [if_pos h2, if_neg (by omega), ht]
    · rw [if_neg h2]
      by_cases h3 : va ≥ 4096
      · rw [if_pos h3, if_neg (by omega), ht]
      · rw [if_neg h3, page_eq m r hr, bs]
        by_cases h4 : r < pagesv m
        · rw [if_pos (by omega), decide_eq_true h4]
          simp only [paging_Walk.j0]
          have e1 : Int.tdiv va 128 % 4294967296 = va / 128 := by rw [Int.tdiv_eq_ediv_of_nonneg hva]; omega
          have e2 : paging_Entry.f r (va / 128) = some (r * 128 + 4 * (va / 128)) := by unfold paging_Entry.f; congr 1; omega
          have e3 : memory_Load.f m (r * 128 + 4 * (va / 128)) 4 = some (rd m (r * 32 + va / 128), true) := by
            rw [Load_eq m hw _ 4 (by omega)]
            unfold loadv
            rw [if_pos ⟨.inr rfl, by omega, by omega⟩]
            unfold getw
            rw [if_neg (by decide)]
            congr 3; omega
          rw [if_neg (by simp), e1, e2, bs, e3, bs]
          have hwd := hw.at_ (r * 32 + va / 128)
          by_cases ha1 : a = 1
          · subst ha1
            have en : Go.bits .or .u32 1 4 = need 1 := by decide +kernel
            rw [if_pos rfl, en, Walk_j1 m va _ _ _ _ hwd hva k (by omega)]; rfl
          · rw [if_neg ha1]
            by_cases ha3 : a = 3
            · subst ha3
              have en : Go.bits .or .u32 1 2 = need 3 := by decide +kernel
              rw [if_pos rfl, en, Walk_j1 m va _ _ _ _ hwd hva k (by omega)]; rfl
            · have en : (1 : Int) = need a := by unfold need; rw [if_neg ha1, if_neg ha3]
              rw [if_neg ha3]
              exact (congrArg (fun z => paging_Walk.j1 k m va (r * 128 + 4 * (va / 128)) (rd m (r * 32 + va / 128)) z 0 0 (causev a)) en).trans (Walk_j1 m va _ _ _ _ hwd hva k (by omega))
        · rw [if_neg (fun h => h4 h.2.2.2), decide_eq_false h4]
          exact ht k
theorem walkv_cause (m : List Int) (r va a : Int) : (walkv m r va a).2.2 = 0 ∨ (walkv m r va a) = (0, 0, causev a) := by
  unfold walkv
  split
  · split
    · exact .inl rfl
    · exact .inr rfl
  · exact .inr rfl

theorem clone_eq (l : List Int) (h : l.length ≤ 70368744177664) : memory_clone.f l = some l := by unfold memory_clone.f; rw [if_pos h]

theorem SetField_eq (x : BitVec 32) (low n : Int) (v : BitVec 32) : bits_SetField.f (B x) low n (B v) = some (B (setv x low n v)) := by
  unfold bits_SetField.f setv
  rw [outside_eq]; rw [bs]; try dsimp only
  by_cases h : low < 0 ∨ low > 31 ∨ n < 1
  · rw [if_pos (by simpa using h), if_pos h]
  · rw [if_neg (by simpa using h), if_neg h, mask_eq n (by omega)]; rw [bs]; try dsimp only
    rw [if_pos (by omega), shl_B, shl_B, andNot_B, and_B, or_B]

theorem Store_eq (l : List Int) (hl : l.length ≤ 70368744177664) (hw : Ws l) (a s v : Int) (ha : 0 ≤ a ∧ a ≤ 4294967295) (hv : 0 ≤ v ∧ v ≤ 4294967295) : memory_Store.f l a s v = some (storev l a s v) := by
  unfold memory_Store.f storev
  rw [clone_eq l hl]; rw [bs]; try dsimp only
  rw [within_eq l a s ha]; rw [bs]; try dsimp only
  by_cases h : withinv l a s
  · have hi := within_idx h ha.1
    have e1 : Int.tdiv a 4 % 4294967296 = a / 4 := by rw [Int.tdiv_eq_ediv_of_nonneg ha.1]; omega
    have e2a : wrap64 (Int.tmod a 4) = a % 4 := by rw [Int.tmod_eq_emod_of_nonneg ha.1]; exact w64 (by omega) (by omega)
    have e2 : wrap64 (8 * wrap64 (Int.tmod a 4)) = 8 * (a % 4) := by rw [e2a]; exact w64 (by omega) (by omega)
    rw [if_pos (decide_eq_true h), if_pos h, e1, e2]
    unfold put
    by_cases hs : s = 1
    · rw [if_pos hs, if_pos (by omega), if_pos hi.1, if_pos hs, ← B_W (hw.at_ (a / 4))]
      conv => lhs; rw [← B_W hv]
      rw [SetField_eq]; rw [bs]; try dsimp only
      rw [if_pos hi.1, W_B]
    · rw [if_neg hs, if_pos (by omega), if_pos hi.1, if_neg hs]
  · have : ¬ decide (withinv l a s) = true := by simpa using h
    rw [if_neg this, if_neg h]

/-- The entry that Map writes. -/
def entv (f g : Int) : Int := Go.bits .or .u32 g ((f * 256) % 4294967296)
theorem entv_word (f g : Int) (hg : 0 ≤ g ∧ g ≤ 4294967295) : 0 ≤ entv f g ∧ entv f g ≤ 4294967295 := or_word _ _ hg (mod_word _)
theorem Map_eq (m : List Int) (hw : Ws m) (r p f g : Int) (hr : 0 ≤ r ∧ r ≤ 4294967295) (hp : 0 ≤ p ∧ p ≤ 4294967295) (hf : 0 ≤ f ∧ f ≤ 4294967295) (hg : 0 ≤ g ∧ g ≤ 4294967295) (hl : m.length ≤ 70368744177664) :
    paging_Map.f m r p f g = some (if (r < pagesv m ∧ f < pagesv m) ∧ p < 32 ∧ g ≤ 31 then (m.set (r * 32 + p).toNat (entv f g), true) else (m, false)) := by
  have hpg := pagesv_le m
  unfold paging_Map.f
  rw [page_eq m r hr, bs, page_eq m f hf, bs]
  by_cases h : (r < pagesv m ∧ f < pagesv m) ∧ p < 32 ∧ g ≤ 31
  · have e2 : paging_Entry.f r p = some (r * 128 + 4 * p) := by unfold paging_Entry.f; congr 1; omega
    rw [if_pos ⟨decide_eq_true h.1.1, decide_eq_true h.1.2, h.2.1, h.2.2⟩, if_pos h, e2, bs, Store_eq m hl hw _ 4 _ (by omega) (or_word _ _ hg (mod_word (f * 256)))]
    unfold storev
    have e3 : ((r * 128 + 4 * p) / 4).toNat = (r * 32 + p).toNat := by omega
    rw [if_pos ⟨.inr rfl, by omega, by omega⟩, e3]
    unfold put
    rw [if_neg (by decide)]; rfl
  · rw [if_neg (fun h' => h ⟨⟨of_decide_eq_true h'.1, of_decide_eq_true h'.2.1⟩, h'.2.2⟩), if_pos hl, if_neg h]
theorem rd_set_ne (m : List Int) (i j v : Int) (hi : 0 ≤ i) (hj : 0 ≤ j) (h : i ≠ j) : rd (m.set i.toNat v) j = rd m j := by
  unfold rd
  rw [List.getD_eq_getElem?_getD, List.getElem?_set_ne (by omega), ← List.getD_eq_getElem?_getD]
theorem rd_set_eq (m : List Int) (i v : Int) (hi : 0 ≤ i) (hl : i < m.length) : rd (m.set i.toNat v) i = v := by
  unfold rd
  rw [List.getD_eq_getElem?_getD, List.getElem?_set_self (by omega)]; rfl

theorem awake5 (k : Nat) (hk : 10 ≤ k) : vmfleetlaw5_awake.f k = some true := at_rounds (g := fun k => vmfleetlaw5_awake.f k) (fun k => vmfleetlaw5_awake.mono k) hk (by kernel_rfl)

theorem or_keeps (y c d : BitVec 32) (h : c &&& d = 0) : (y ||| c) &&& d = y &&& d := by
  apply BitVec.eq_of_getLsbD_eq
  intro i hi
  have := congrArg (fun z => BitVec.getLsbD z i) h
  simp only [BitVec.getLsbD_and, BitVec.getLsbD_or] at this ⊢
  cases hc : c.getLsbD i <;> cases hd : d.getLsbD i <;> simp_all
theorem may_or (w c a : Int) (hw : 0 ≤ w ∧ w ≤ 4294967295) (hc : c = 8 ∨ c = 16) : may (Go.bits .or .u32 w c) a ↔ may w a := by
  unfold may
  have hn : 0 ≤ need a ∧ need a ≤ 4294967295 := by
    unfold need
    split
    · omega
    · split <;> omega
  have hcw : 0 ≤ c ∧ c ≤ 4294967295 := by omega
  have hz : W c &&& W (need a) = 0 := by
    unfold need
    rcases hc with rfl | rfl
    · split
      · decide +kernel
      · split <;> decide +kernel
    · split
      · decide +kernel
      · split <;> decide +kernel
  have e : Go.bits .and .u32 (Go.bits .or .u32 w c) (need a) = Go.bits .and .u32 w (need a) := by
    rw [← B_W hw, ← B_W hcw, ← B_W hn, or_B, and_B, and_B, or_keeps _ _ _ hz]
  rw [e]
theorem byt_or (w c : Int) (hw : 0 ≤ w ∧ w ≤ 4294967295) (hc : c = 8 ∨ c = 16) : byt (Go.bits .or .u32 w c) 1 = byt w 1 := by
  have hcw : 0 ≤ c ∧ c ≤ 4294967295 := by omega
  have e : Go.bits .or .u32 w c = B (W w ||| W c) := by rw [← or_B, B_W hw, B_W hcw]
  rw [e]
  conv => rhs; rw [← B_W hw]
  rw [← field_byte _ 1 (by omega), ← field_byte _ 1 (by omega)]
  congr 1
  unfold fieldv
  rw [if_neg (by omega), if_neg (by omega), BitVec.ushiftRight_or_distrib]
  have hz : W c >>> (8 * ((1 : Nat) : Int)).toNat = 0 := by rcases hc with rfl | rfl <;> decide +kernel
  rw [hz]; simp
/-- The entry, its use recorded. -/
def tw (w a : Int) : Int := if a = 3 then Go.bits .or .u32 (Go.bits .or .u32 w 8) 16 else Go.bits .or .u32 w 8
theorem tw_word (w a : Int) (hw : 0 ≤ w ∧ w ≤ 4294967295) : 0 ≤ tw w a ∧ tw w a ≤ 4294967295 := by
  unfold tw
  have h1 := or_word w 8 hw (by omega)
  split
  · exact or_word _ 16 h1 (by omega)
  · exact h1
theorem tw_may (w a c : Int) (hw : 0 ≤ w ∧ w ≤ 4294967295) : may (tw w a) c ↔ may w c := by
  unfold tw
  have h1 := or_word w 8 hw (by omega)
  split
  · rw [may_or _ 16 c h1 (.inr rfl), may_or _ 8 c hw (.inl rfl)]
  · rw [may_or _ 8 c hw (.inl rfl)]
theorem tw_byt (w a : Int) (hw : 0 ≤ w ∧ w ≤ 4294967295) : byt (tw w a) 1 = byt w 1 := by
  unfold tw
  have h1 := or_word w 8 hw (by omega)
  split
  · rw [byt_or _ 16 h1 (.inr rfl), byt_or _ 8 hw (.inl rfl)]
  · rw [byt_or _ 8 hw (.inl rfl)]
theorem tw_tw (w a : Int) (hw : 0 ≤ w ∧ w ≤ 4294967295) : tw (tw w a) a = tw w a := by
  have e8 : (8 : Int) = B (W 8) := by rw [B_W (by omega)]
  have e16 : (16 : Int) = B (W 16) := by rw [B_W (by omega)]
  unfold tw
  split
  · rw [← B_W hw, e8, e16]
    rw [or_B, or_B, or_B, or_B]
    congr 1
    apply BitVec.eq_of_getLsbD_eq
    intro i hi
    simp only [BitVec.getLsbD_or]
    generalize (W w).getLsbD i = x
    generalize (W 8).getLsbD i = y
    generalize (W 16).getLsbD i = z
    cases x <;> cases y <;> cases z <;> rfl
  · rw [← B_W hw, e8]
    rw [or_B, or_B]
    congr 1
    apply BitVec.eq_of_getLsbD_eq
    intro i hi
    simp only [BitVec.getLsbD_or]
    generalize (W w).getLsbD i = x
    generalize (W 8).getLsbD i = y
    cases x <;> cases y <;> rfl
def touchv (m : List Int) (e a : Int) : List Int := if e % 4 = 0 ∧ e + 4 ≤ pagesv m * 128 then m.set (e / 4).toNat (tw (rd m (e / 4)) a) else m
theorem Touch_eq (m : List Int) (hw : Ws m) (hl : m.length ≤ 70368744177664) (e a : Int) (he : 0 ≤ e ∧ e ≤ 4294967295) : paging_Touch.f m e a = some (touchv m e a) := by
  unfold paging_Touch.f touchv
  rw [Load_eq m hw e 4 he, bs]
  by_cases h : withinv m e 4
  · have hl4 : loadv m e 4 = (rd m (e / 4), true) := by
      unfold loadv getw
      rw [if_pos h, if_neg (by decide)]
    have hwd := hw.at_ (e / 4)
    have hst : ∀ v, 0 ≤ v ∧ v ≤ 4294967295 → memory_Store.f m e 4 v = some (m.set (e / 4).toNat v, true) := by
      intro v hv
      rw [Store_eq m hl hw e 4 v he hv]
      unfold storev put
      rw [if_pos h, if_neg (by decide)]
    have h1 := or_word _ 8 hwd (by omega)
    have h2 := or_word _ 16 h1 (by omega)
    have hc : e % 4 = 0 ∧ e + 4 ≤ pagesv m * 128 := ⟨h.2.1, h.2.2⟩
    rw [hl4, if_pos hc]
    dsimp only
    unfold tw
    by_cases h3 : a = 3
    · rw [if_pos h3, if_pos h3, hst _ h2, bs]
    · rw [if_neg h3, if_neg h3, hst _ h1, bs]
  · have hl4 : loadv m e 4 = (0, false) := by unfold loadv; rw [if_neg h]
    have hst : ∀ v, 0 ≤ v ∧ v ≤ 4294967295 → memory_Store.f m e 4 v = some (m, false) := by
      intro v hv
      rw [Store_eq m hl hw e 4 v he hv]
      unfold storev
      rw [if_neg h]
    have h1 := or_word 0 8 (by omega) (by omega)
    have h2 := or_word _ 16 h1 (by omega)
    have hc : ¬ (e % 4 = 0 ∧ e + 4 ≤ pagesv m * 128) := fun h' => h ⟨.inr rfl, h'.1, h'.2⟩
    rw [hl4, if_neg hc]
    dsimp only
    by_cases h3 : a = 3
    · rw [if_pos h3, hst _ h2, bs]
    · rw [if_neg h3, hst _ h1, bs]
theorem touchv_len (m : List Int) (e a : Int) : (touchv m e a).length = m.length := by unfold touchv; split <;> simp
theorem touchv_ws (m : List Int) (hw : Ws m) (e a : Int) : Ws (touchv m e a) := by
  unfold touchv
  split
  · exact hw.set _ (tw_word _ a (hw.at_ _))
  · exact hw
theorem rd_touch (m : List Int) (hw : Ws m) (e a i : Int) (he : 0 ≤ e) (hi : 0 ≤ i) : rd (touchv m e a) i = rd m i ∨ rd (touchv m e a) i = tw (rd m i) a := by
  have hp := pagesv_le m
  unfold touchv
  split
  · rename_i h
    by_cases hj : e / 4 = i
    · right; rw [← hj]; exact rd_set_eq m _ _ (by omega) (by omega)
    · left; exact rd_set_ne m _ i _ (by omega) hi hj
  · exact .inl rfl
theorem touch_walk (m : List Int) (hw : Ws m) (e a r va c : Int) (he : 0 ≤ e) (hr : 0 ≤ r) (hva : 0 ≤ va) : walkv (touchv m e a) r va c = walkv m r va c := by
  have hpg : pagesv (touchv m e a) = pagesv m := pagesv_congr (touchv_len m e a)
  have hwd := hw.at_ (r * 32 + va / 128)
  unfold walkv
  rw [hpg]
  rcases rd_touch m hw e a (r * 32 + va / 128) he (by omega) with h | h
  · rw [h]
  · rw [h, tw_byt _ a hwd]
    by_cases h2 : may (rd m (r * 32 + va / 128)) c
    · have h3 := (tw_may _ a c hwd).2 h2
      simp only [h2, h3]
    · have h3 : ¬ may (tw (rd m (r * 32 + va / 128)) a) c := fun h4 => h2 ((tw_may _ a c hwd).1 h4)
      simp only [h2, h3]
theorem touchv_of (m : List Int) (e a : Int) (h : e % 4 = 0 ∧ e + 4 ≤ pagesv m * 128) : touchv m e a = m.set (e / 4).toNat (tw (rd m (e / 4)) a) := by unfold touchv; rw [if_pos h]
theorem touch_touch (m : List Int) (hw : Ws m) (e a : Int) (he : 0 ≤ e) : touchv (touchv m e a) e a = touchv m e a := by
  have hp := pagesv_le m
  have hpg : pagesv (touchv m e a) = pagesv m := pagesv_congr (touchv_len m e a)
  by_cases h : e % 4 = 0 ∧ e + 4 ≤ pagesv m * 128
  · have h1 : touchv m e a = m.set (e / 4).toNat (tw (rd m (e / 4)) a) := by unfold touchv; rw [if_pos h]
    have h2 := touchv_of (touchv m e a) e a (by rw [hpg]; exact h)
    rw [h2, h1, rd_set_eq m (e / 4) _ (by omega) (by omega), tw_tw _ a (hw.at_ _), List.set_set]
  · have h1 : touchv m e a = m := by unfold touchv; rw [if_neg h]
    rw [h1, h1]

theorem Same_from (a b : List Int) (hl : a.length = b.length) (hb : a.length ≤ 140737488355328) (d : Nat) : ∀ (i k : Nat), i ≤ a.length → a.length - i = d → d < k → vmfleetref1_SameWords.l0 k a b (i : Int) = some (decide (a.drop i = b.drop i)) := by
  induction d with
  | zero =>
    intro i k h1 h2 h3
    obtain ⟨k, rfl⟩ : ∃ q, k = q + 1 := ⟨k - 1, by omega⟩
    simp only [vmfleetref1_SameWords.l0]
    rw [if_neg (by omega), List.drop_of_length_le (by omega), List.drop_of_length_le (by omega)]; rfl
  | succ d ih =>
    intro i k h1 h2 h3
    obtain ⟨k, rfl⟩ : ∃ q, k = q + 1 := ⟨k - 1, by omega⟩
    simp only [vmfleetref1_SameWords.l0]
    have e1 : wrap64 ((i : Int) + 1) = ((i + 1 : Nat) : Int) := by rw [w64 (by omega) (by omega)]; simp
    have ha : rd a (i : Int) = a[i]'(by omega) := by unfold rd; rw [Int.toNat_natCast, List.getD_eq_getElem?_getD, List.getElem?_eq_getElem (by omega)]; rfl
    have hb2 : rd b (i : Int) = b[i]'(by omega) := by unfold rd; rw [Int.toNat_natCast, List.getD_eq_getElem?_getD, List.getElem?_eq_getElem (by omega)]; rfl
    rw [if_pos (by omega), if_pos (by omega), if_pos (by omega), e1, ih (i + 1) k (by omega) (by omega) (by omega), ha, hb2,
      List.drop_eq_getElem_cons (show i < a.length by omega), List.drop_eq_getElem_cons (show i < b.length by omega)]
    by_cases h : a[i]'(by omega) = b[i]'(by omega)
    · rw [if_pos h, h]; exact congrArg some (decide_eq_decide.2 ⟨fun e => by rw [e], fun e => (List.cons.inj e).2⟩)
    · rw [if_neg h]; exact congrArg some (decide_eq_false (fun e => h (List.cons.inj e).1)).symm
theorem Same_eq (a b : List Int) (hb : a.length ≤ 140737488355328) (k : Nat) (hk : a.length < k) : vmfleetref1_SameWords.f k a b = some (decide (a = b)) := by
  unfold vmfleetref1_SameWords.f
  by_cases h : (a.length : Int) = (b.length : Int)
  · have := Same_from a b (by omega) hb a.length 0 k (by omega) (by omega) hk
    rw [Int.natCast_zero, List.drop_zero, List.drop_zero] at this
    rw [if_pos h, this]
  · rw [if_neg h]; exact congrArg some (decide_eq_false (fun e => h (by rw [e]))).symm

theorem Tch_end (m : List Int) (hw : Ws m) (hl : m.length ≤ 1024) (e r va one two : Int) (he : 0 ≤ e ∧ e ≤ 4294967295) (hr : 0 ≤ r ∧ r ≤ 4294967295) (hva : 0 ≤ va ∧ va ≤ 4294967295) (k : Nat) (hk : 1100 < k) : vmfleetlaw5_PagingTouches.l0 k e r va one two m (touchv m e one) 4 = some true := by
  obtain ⟨k, rfl⟩ : ∃ q, k = q + 1 := ⟨k - 1, by omega⟩
  have hx := touchv_ws m hw e one
  have hxl := touchv_len m e one
  simp only [vmfleetlaw5_PagingTouches.l0]
  rw [if_neg (by decide), Touch_eq _ hx (by omega) e one he, bs, touch_touch m hw e one he.1, Same_eq _ _ (by omega) k (by omega), bs, if_pos (by simp),
    Walk_eq _ hx r va two hr hva.1 k (by omega), bs, Walk_eq m hw r va two hr hva.1 k (by omega), bs, touch_walk m hw e one r va two he.1 hr.1 hva.1, if_pos (by simp), awake5 k (by omega), bs]
theorem Tch_step (m : List Int) (hw : Ws m) (hl : m.length ≤ 1024) (e r va one two : Int) (he : 0 ≤ e ∧ e ≤ 4294967295) (hr : 0 ≤ r ∧ r ≤ 4294967295) (hva : 0 ≤ va ∧ va ≤ 4294967295) (j : Int) (hj : 1 ≤ j ∧ j ≤ 3) (k : Nat) (hk : 4 ≤ k) : vmfleetlaw5_PagingTouches.l0 (k + 1) e r va one two m (touchv m e one) j = vmfleetlaw5_PagingTouches.l0 k e r va one two m (touchv m e one) (j + 1) := by
  have hx := touchv_ws m hw e one
  simp only [vmfleetlaw5_PagingTouches.l0]
  rw [Int.tmod_eq_emod_of_nonneg hr.1, Int.tmod_eq_emod_of_nonneg hva.1, if_pos hj.2, Walk_eq _ hx _ _ j (by omega) (by omega) k hk, bs, Walk_eq m hw _ _ j (by omega) (by omega) k hk, bs, touch_walk m hw e one _ _ j he.1 (by omega) (by omega), if_neg (by simp), w64 (by omega) (by omega)]
theorem PagingTouches : vmfleetlaw5_PagingTouches.Pure := by
  intro l p e r va one two h0 h1 h2 h3 h4 h5 h6 h7 h8
  have be := bounds_u32 h4
  have br := bounds_u32 h5
  have bv := bounds_u32 h6
  obtain ⟨m, n, em, lm, n1, n8, wm, pm⟩ := tables_ends l p (by unfold maxLen at h0; omega)
  refine ⟨2000, ?_⟩
  unfold vmfleetlaw5_PagingTouches.f
  have hl : wrap64 (4 * (m.length : Int)) % 4294967296 = 128 * (n : Int) := by rw [w64 (by omega) (by omega)]; omega
  rw [em 2000 (by omega), bs, hl, if_neg (by omega), Int.tmod_eq_emod_of_nonneg be.1]
  have e0 := Int.emod_nonneg e (show (128 * (n : Int)) ≠ 0 by omega)
  have e1 := Int.emod_lt_of_pos e (show 0 < 128 * (n : Int) by omega)
  generalize e % (128 * (n : Int)) = e' at *
  rw [Touch_eq m wm (by omega) e' one (by omega), bs, touchv_len, if_pos rfl]
  rw [Tch_step m wm (by omega) e' r va one two (by omega) br bv 1 (by omega) 1999 (by omega)]
  rw [show (1 : Int) + 1 = 2 from rfl, Tch_step m wm (by omega) e' r va one two (by omega) br bv 2 (by omega) 1998 (by omega)]
  rw [show (2 : Int) + 1 = 3 from rfl, Tch_step m wm (by omega) e' r va one two (by omega) br bv 3 (by omega) 1997 (by omega)]
  rw [show (3 : Int) + 1 = 4 from rfl]
  exact Tch_end m wm (by omega) e' r va one two (by omega) br bv 1997 (by omega)

end Go.Proofs.Ytbijkhoeaddemaa.Pure
