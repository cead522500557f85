/- Proved: the list of a page table contains exactly the pages that can be loaded from, unless their frame does not exist. Conditions: none. -/
import Derived.Test.YtbijkhoeaddemaaHPagingListsx1
import Derived.Test.YtbijkhoeaddemaaHPagingListsx2
import Derived.Test.YtbijkhoeaddemaaHPagingListsx3
import Derived.Test.YtbijkhoeaddemaaHPagingListsx4
import Derived.Test.YtbijkhoeaddemaaBv
import Derived.Test.YtbijkhoeaddemaaMem
namespace Go.Proofs.Ytbijkhoeaddemaa.Pure
open Go.RowKit Go.Proofs.Ytbijkhoeaddemaa.HPagingLists Go.Proofs.YtbijkhoeaddemaaW.PrintWords Go.Proofs.YtbijkhoeaddemaaW.PrintLast Go.Proofs.Ytbijkhoeaddemaa.Bv Go.Proofs.Ytbijkhoeaddemaa.Mem
set_option linter.unusedVariables false
set_option linter.unusedSimpArgs false

/-- A bind of what is there. -/
theorem bs {α β : Type} (a : α) (f : α → Option β) : (some a).bind f = f a := rfl

theorem Round_eq (a n : Int) (hn : 0 < n) (hn2 : n ≤ 4611686018427387904) : vmfleetmake_Round.f a n = some (a % n) := by
  unfold vmfleetmake_Round.f
  rw [if_neg (by omega)]
  have h1 := Int.emod_nonneg a (show n ≠ 0 by omega)
  have h2 := Int.emod_lt_of_pos a hn
  have h3 := Int.tmod_lt_of_pos a hn
  have h4 := Int.lt_tmod_of_pos a hn
  have h5 : Int.tmod a n = a % n ∨ Int.tmod a n = a % n - n := by
    rw [Int.tmod_eq_emod]; split <;> simp <;> omega
  by_cases h : Int.tmod a n < 0
  · rw [if_pos h, w64 (by omega) (by omega)]; congr 1; omega
  · rw [if_neg h]; congr 1; omega

theorem rNew_eq (n : Int) : vmfleetref1_New.f n = some (if 1 ≤ n ∧ n ≤ 32 then List.replicate (32 * n.toNat) 0 else []) := by
  unfold vmfleetref1_New.f
  by_cases h1 : n < 1
  · rw [if_pos h1, if_neg (by omega)]
  · rw [if_neg h1]
    by_cases h2 : n > 32
    · rw [if_pos h2, if_neg (by omega)]
    · have e : wrap64 (n * 32) = n * 32 := w64 (by omega) (by omega)
      have e2 : (n * 32).toNat = 32 * n.toNat := by omega
      rw [if_neg h2, e, if_pos (by omega), if_pos (by omega), if_pos (by omega), e2]

theorem Mix_ends (a b : Int) : ∃ r, vmfleetmake_Mix.f a b = some r ∧ 0 ≤ r ∧ r ≤ 9223372036854775807 := by
  unfold vmfleetmake_Mix.f
  obtain ⟨p, q, hp, h0, h1⟩ : ∃ p q, vmfleetref1_Next.f (Go.bits .xor .u64 (IntKind.u64.wrap (a)) (IntKind.u64.wrap ((IntKind.u64.wrap (b)) * 11400714819323198485))) = some (p, q) ∧ 0 ≤ p ∧ p ≤ 18446744073709551615 := by
    refine ⟨_, _, rfl, ?_⟩
    show 0 ≤ IntKind.u64.wrap _ ∧ IntKind.u64.wrap _ ≤ _
    rw [wu64]; omega
  rw [hp]; rw [bs]; try dsimp only
  exact ⟨_, rfl, by rw [w64 (by omega) (by omega)]; omega, by rw [w64 (by omega) (by omega)]; omega⟩

theorem tables_from (l : List Int) (hl : l.length ≤ 9000000000000000000) (d : Nat) : ∀ (i k : Nat) (m : List Int), i ≤ l.length → i ≤ 60 → 60 - i = d → 2 * d + 1 < k → Ws m → 1 ≤ m.length → m.length ≤ 1024 → ∃ m', vmfleetlaw5_tables.l0 k l m (i : Int) = some m' ∧ m'.length = m.length ∧ Ws m' := by
  induction d with
  | zero =>
    intro i k m h1 h2 h3 h4 hw hm hm2
    obtain ⟨k, rfl⟩ : ∃ q, k = q + 2 := ⟨k - 2, by omega⟩
    refine ⟨m, ?_, rfl, hw⟩
    simp only [vmfleetlaw5_tables.l0]
    by_cases hi : (i : Int) < (l.length : Int)
    · rw [if_pos hi]
      simp only [vmfleetlaw5_tables.j1]
      have : ¬ decide ((i : Int) < 60) = true := by simp; omega
      rw [if_neg this]
    · rw [if_neg hi]
      simp only [vmfleetlaw5_tables.j1]
      rw [if_neg (by simp)]
  | succ d ih =>
    intro i k m h1 h2 h3 h4 hw hm hm2
    obtain ⟨k, rfl⟩ : ∃ q, k = q + 2 := ⟨k - 2, by omega⟩
    simp only [vmfleetlaw5_tables.l0]
    by_cases hi : (i : Int) < (l.length : Int)
    · rw [if_pos hi]
      simp only [vmfleetlaw5_tables.j1]
      have hdec : decide ((i : Int) < 60) = true := by simp; omega
      obtain ⟨p, e1, p0, p1⟩ := Mix_ends (rd l (i : Int)) 9
      have e3 := Round_eq p (m.length : Int) (by omega) (by omega)
      have hr0 := Int.emod_nonneg p (show (m.length : Int) ≠ 0 by omega)
      have hr1 := Int.emod_lt_of_pos p (show 0 < (m.length : Int) by omega)
      have ew : wrap64 ((i : Int) + 1) = ((i + 1 : Nat) : Int) := by rw [w64 (by omega) (by omega)]; simp
      rw [if_pos hdec, if_pos (by omega), if_pos hi, e1, bs, e3, bs, if_pos hr0, if_pos hr1, bs, ew]
      have w1 := hw.set (p % (m.length : Int)).toNat (or_word _ _ (mod_word (Go.bits .and .i64 (p / 65536) 31)) (mod_word ((Go.bits .and .i64 (p / 16777216) 15) % 4294967296 * 256)))
      by_cases h5 : Int.tmod (rd l (i : Int)) 5 = 0
      · rw [if_pos h5]
        obtain ⟨m', h6, h7, h8⟩ := ih (i + 1) k _ (by omega) (by omega) (by omega) (by omega) (w1.set (p % (m.length : Int)).toNat (mod_word (Go.bits .and .i64 (p / 1048576) 4294967295))) (by simpa using hm) (by simpa using hm2)
        exact ⟨m', h6, by rw [h7]; simp, h8⟩
      · rw [if_neg h5]
        obtain ⟨m', h6, h7, h8⟩ := ih (i + 1) k _ (by omega) (by omega) (by omega) (by omega) w1 (by simpa using hm) (by simpa using hm2)
        exact ⟨m', h6, by rw [h7]; simp, h8⟩
    · refine ⟨m, ?_, rfl, hw⟩
      rw [if_neg hi]
      simp only [vmfleetlaw5_tables.j1]
      rw [if_neg (by simp)]
/-- The memory with page tables made of numbers: its size, and that its words are words. -/
theorem tables_ends (l : List Int) (p : Int) (hl : l.length ≤ 140737488355328) : ∃ (m : List Int) (n : Nat), (∀ k, 200 ≤ k → vmfleetlaw5_tables.f k l p = some m) ∧ m.length = 32 * n ∧ 1 ≤ n ∧ n ≤ 8 ∧ Ws m ∧ pagesv m = (n : Int) := by
  have hp0 := Int.emod_nonneg p (show (8 : Int) ≠ 0 by decide)
  have hp1 := Int.emod_lt_of_pos p (show (0 : Int) < 8 by decide)
  have e1 : wrap64 (1 + p % 8) = 1 + p % 8 := w64 (by omega) (by omega)
  have hlen : (List.replicate (32 * (1 + p % 8).toNat) (0 : Int)).length = 32 * (1 + p % 8).toNat := by simp
  obtain ⟨m, h1, h2, h3⟩ := tables_from l (by omega) 60 0 200 (List.replicate (32 * (1 + p % 8).toNat) 0) (by omega) (by omega) (by omega) (by omega) (Ws.rep _) (by omega) (by omega)
  refine ⟨m, (1 + p % 8).toNat, fun k hk => at_rounds (g := fun k => vmfleetlaw5_tables.f k l p) (fun k => vmfleetlaw5_tables.mono _ _ k) hk ?_, by rw [h2, hlen], by omega, by omega, h3, pagesv_of (by rw [h2, hlen]) (by omega)⟩
  show vmfleetlaw5_tables.f 200 l p = some m
  unfold vmfleetlaw5_tables.f
  rw [Round_eq p 8 (by omega) (by omega), bs, e1, rNew_eq, bs, if_pos (by omega)]
  rw [Int.natCast_zero] at h1
  exact h1

theorem rPages_eq (l : List Int) : vmfleetref1_Pages.f l = some (pagesv l) := by
  unfold vmfleetref1_Pages.f pagesv
  by_cases h : (l.length : Int) % 32 = 0
  · rw [if_pos h]
    by_cases h2 : (l.length : Int) > 1024
    · rw [if_pos h2, if_neg (by omega)]
    · rw [if_neg h2, if_pos (by omega), w64 (by omega) (by omega)]; simp
  · rw [if_neg h, if_neg (by omega)]

theorem Pages_eq (l : List Int) : memory_Pages.f l = some (pagesv l) := by
  unfold memory_Pages.f pagesv
  by_cases h : (l.length : Int) % 32 = 0
  · rw [if_pos h]
    by_cases h2 : (l.length : Int) > 1024
    · rw [if_pos h2, if_neg (by omega)]
    · rw [if_neg h2, if_pos (by omega), w64 (by omega) (by omega)]; simp
  · rw [if_neg h, if_neg (by omega)]

theorem page_eq (m : List Int) (a : Int) (ha : 0 ≤ a ∧ a ≤ 4294967295) : paging_page.f m a = some (decide (a < pagesv m)) := by
  have hp := pagesv_le m
  unfold paging_page.f
  rw [Pages_eq, bs, u64w (by omega) (by omega), u64w (by omega) (by omega)]

def causev (a : Int) : Int := if a = 1 then 4 else if a = 3 then 6 else 5
theorem Cause_eq (a : Int) : paging_Cause.f a = some (causev a) := by
  unfold paging_Cause.f causev
  split
  · rfl
  · split <;> rfl
theorem causev_ne (a : Int) : causev a ≠ 0 := by
  unfold causev
  split
  · decide
  · split <;> decide

theorem within_eq (l : List Int) (a s : Int) (ha : 0 ≤ a ∧ a ≤ 4294967295) : memory_within.f l a s = some (decide (withinv l a s)) := by
  have hp := pagesv_le l
  have ea : IntKind.u64.wrap a = a := u64w (by omega) (by omega)
  have ep : IntKind.u64.wrap (wrap64 (pagesv l * 128)) = pagesv l * 128 := by rw [w64 (by omega) (by omega), u64w (by omega) (by omega)]
  unfold memory_within.f
  rw [Pages_eq]; rw [bs]; try dsimp only
  rw [ep, ea]
  by_cases h1 : s = 1
  · subst h1
    have e1 : Int.tmod a (1 % 4294967296) = a % 1 := Int.tmod_eq_emod_of_nonneg ha.1
    have e2 : IntKind.u64.wrap 1 = 1 := u64w (by omega) (by omega)
    have e3 : IntKind.u64.wrap (a + 1) = a + 1 := u64w (by omega) (by omega)
    rw [if_pos rfl, if_neg (by omega), e1, if_pos (by omega), e2, e3]
    exact congrArg some (decide_eq_decide.2 (by unfold withinv; omega))
  · rw [if_neg h1]
    by_cases h4 : s = 4
    · subst h4
      have e1 : Int.tmod a (4 % 4294967296) = a % 4 := Int.tmod_eq_emod_of_nonneg ha.1
      have e2 : IntKind.u64.wrap 4 = 4 := u64w (by omega) (by omega)
      have e3 : IntKind.u64.wrap (a + 4) = a + 4 := u64w (by omega) (by omega)
      rw [if_pos rfl, if_neg (by omega), e1]
      by_cases hm : a % 4 = 0
      · rw [if_pos hm, e2, e3]
        exact congrArg some (decide_eq_decide.2 (by unfold withinv; omega))
      · rw [if_neg hm]; exact congrArg some (decide_eq_false (by unfold withinv; omega)).symm
    · rw [if_neg h4]; exact congrArg some (decide_eq_false (by unfold withinv; omega)).symm

theorem outside_eq (low n : Int) : bits_outside.f low n = some (decide (low < 0 ∨ low > 31 ∨ n < 1)) := by
  unfold bits_outside.f
  by_cases h1 : low < 0
  · rw [if_pos h1]; simp [h1]
  · rw [if_neg h1]
    by_cases h2 : low > 31
    · rw [if_pos h2]; simp [h2]
    · rw [if_neg h2]; simp [h1]; omega

theorem mask_eq (n : Int) (h : 1 ≤ n) : bits_mask.f n = some (B (Mi n)) := by
  unfold bits_mask.f Mi
  split
  · rfl
  · rw [if_pos (by omega), mask_B n (by omega) (by omega)]

theorem Field_eq (x : BitVec 32) (low n : Int) : bits_Field.f (B x) low n = some (B (fieldv x low n)) := by
  unfold bits_Field.f fieldv
  rw [outside_eq]; rw [bs]; try dsimp only
  by_cases h : low < 0 ∨ low > 31 ∨ n < 1
  · rw [if_pos (by simpa using h), if_pos h]; rfl
  · rw [if_neg (by simpa using h), if_neg h, if_pos (by omega), mask_eq n (by omega)]; rw [bs]; try dsimp only
    rw [shr_B, and_B]

theorem Load_eq (l : List Int) (hw : Ws l) (a s : Int) (ha : 0 ≤ a ∧ a ≤ 4294967295) : memory_Load.f l a s = some (loadv l a s) := by
  unfold memory_Load.f loadv
  rw [within_eq l a s ha]; rw [bs]; try dsimp only
  by_cases h : withinv l a s
  · have hi := within_idx h ha.1
    have e1 : Int.tdiv a 4 % 4294967296 = a / 4 := by rw [Int.tdiv_eq_ediv_of_nonneg ha.1]; omega
    have e2a : wrap64 (Int.tmod a 4) = a % 4 := by rw [Int.tmod_eq_emod_of_nonneg ha.1]; exact w64 (by omega) (by omega)
    have e2 : wrap64 (8 * wrap64 (Int.tmod a 4)) = 8 * (a % 4) := by rw [e2a]; exact w64 (by omega) (by omega)
    rw [if_pos (decide_eq_true h), if_pos h, e1, e2, if_pos (by omega), if_pos hi.1]
    unfold getw
    by_cases hs : s = 1
    · rw [if_pos hs, if_pos hs, ← B_W (hw.at_ (a / 4)), Field_eq, W_B]; rfl
    · rw [if_neg hs, if_neg hs]
  · have : ¬ decide (withinv l a s) = true := by simpa using h
    rw [if_neg this, if_neg h]

theorem Frame_eq (w : Int) (hw : 0 ≤ w ∧ w ≤ 4294967295) : paging_Frame.f w = some (byt w 1) := by
  unfold paging_Frame.f
  have h := field_byte (W w) 1 (by omega)
  rw [B_W hw] at h
  have e : (8 : Int) * ((1 : Nat) : Int) = 8 := by decide
  rw [e] at h
  have hf : bits_Field.f w 8 8 = some (byt w 1) := by
    rw [← h]
    have := Field_eq (W w) 8 8
    rw [B_W hw] at this
    exact this
  rw [hf, bs]
theorem byt_range (w : Int) (j : Nat) : 0 ≤ byt w j ∧ byt w j ≤ 255 := by unfold byt; omega

def need (a : Int) : Int := if a = 1 then 5 else if a = 3 then 3 else 1
/-- May this entry be used so? -/
def may (w a : Int) : Prop := Go.bits .and .u32 w (need a) = need a
instance (w a : Int) : Decidable (may w a) := by unfold may; infer_instance
def walkv (m : List Int) (r va a : Int) : Int × Int × Int :=
  if 1 ≤ a ∧ a ≤ 3 ∧ va < 4096 ∧ r < pagesv m then
    (if may (rd m (r * 32 + va / 128)) a ∧ byt (rd m (r * 32 + va / 128)) 1 < pagesv m then (byt (rd m (r * 32 + va / 128)) 1 * 128 + va % 128, r * 128 + 4 * (va / 128), 0) else (0, 0, causev a))
  else (0, 0, causev a)
theorem Walk_j1 (m : List Int) (va at_ w nd c : Int) (hw : 0 ≤ w ∧ w ≤ 4294967295) (hva : 0 ≤ va) (k : Nat) (hk : 1 ≤ k) : paging_Walk.j1 k m va at_ w nd 0 0 c = some (if Go.bits .and .u32 w nd = nd ∧ byt w 1 < pagesv m then (byt w 1 * 128 + va % 128, at_, 0) else (0, 0, c)) := by
  obtain ⟨k, rfl⟩ : ∃ q, k = q + 1 := ⟨k - 1, by omega⟩
  have hb := byt_range w 1
  simp only [paging_Walk.j1]
  by_cases h : Go.bits .and .u32 w nd = nd
  · rw [if_pos h, Frame_eq w hw, bs, page_eq m _ (by omega), bs]
    by_cases h2 : byt w 1 < pagesv m
    · have e1 : (byt w 1 * 128 + Int.tmod va 128) % 4294967296 = byt w 1 * 128 + va % 128 := by rw [Int.tmod_eq_emod_of_nonneg hva]; omega
      rw [if_pos (decide_eq_true h2), bs, e1, if_pos ⟨h, h2⟩]
    · rw [if_neg (by simpa using h2), if_neg (fun h' => h2 h'.2)]
  · rw [if_neg h, if_neg (fun h' => h h'.1)]
theorem Walk_eq (m : List Int) (hw : Ws m) (r va a : Int) (hr : 0 ≤ r ∧ r ≤ 4294967295) (hva : 0 ≤ va) (k : Nat) (hk : 4 ≤ k) : paging_Walk.f k m r va a = some (walkv m r va a) := by
  obtain ⟨k, rfl⟩ : ∃ q, k = q + 1 := ⟨k - 1, by omega⟩
  have hp := pagesv_le m
  have ht : ∀ q, paging_Walk.j0 (q + 1) m r va a true 0 0 (causev a) = some (0, 0, causev a) := by
    intro q; simp only [paging_Walk.j0]; rw [if_pos (by trivial)]
  unfold paging_Walk.f walkv
  rw [Cause_eq, bs]
  by_cases h1 : a < 1
  · rw [if_pos h1, if_neg (by omega), ht]
  · rw [if_neg h1]
    by_cases h2 : a > 3
    · rw [if_pos h2, if_neg (by omega), ht]
    · rw [if_neg h2]
      by_cases h3 : va ≥ 4096
      · rw [if_pos h3, if_neg (by omega), ht]
      · rw [if_neg h3, page_eq m r hr, bs]
        by_cases h4 : r < pagesv m
        · rw [if_pos (by omega), decide_eq_true h4]
          simp only [paging_Walk.j0]
          have e1 : Int.tdiv va 128 % 4294967296 = va / 128 := by rw [Int.tdiv_eq_ediv_of_nonneg hva]; omega
          have e2 : paging_Entry.f r (va / 128) = some (r * 128 + 4 * (va / 128)) := by unfold paging_Entry.f; congr 1; omega
          have e3 : memory_Load.f m (r * 128 + 4 * (va / 128)) 4 = some (rd m (r * 32 + va / 128), true) := by
            rw [Load_eq m hw _ 4 (by omega)]
            unfold loadv
            rw [if_pos ⟨.inr rfl, by omega, by omega⟩]
            unfold getw
            rw [if_neg (by decide)]
            congr 3; omega
          rw [if_neg (by simp), e1, e2, bs, e3, bs]
          have hwd := hw.at_ (r * 32 + va / 128)
          by_cases ha1 : a = 1
          · subst ha1
            have en : Go.bits .or .u32 1 4 = need 1 := by decide +kernel
            rw [if_pos rfl, en, Walk_j1 m va _ _ _ _ hwd hva k (by omega)]; rfl
          · rw [if_neg ha1]
            by_cases ha3 : a = 3
            · subst ha3
              have en : Go.bits .or .u32 1 2 = need 3 := by decide +kernel
              rw [if_pos rfl, en, Walk_j1 m va _ _ _ _ hwd hva k (by omega)]; rfl
            · have en : (1 : Int) = need a := by unfold need; rw [if_neg ha1, if_neg ha3]
              rw [if_neg ha3]
              exact (congrArg (fun z => paging_Walk.j1 k m va (r * 128 + 4 * (va / 128)) (rd m (r * 32 + va / 128)) z 0 0 (causev a)) en).trans (Walk_j1 m va _ _ _ _ hwd hva k (by omega))
        · rw [if_neg (fun h => h4 h.2.2.2), decide_eq_false h4]
          exact ht k
theorem walkv_cause (m : List Int) (r va a : Int) : (walkv m r va a).2.2 = 0 ∨ (walkv m r va a) = (0, 0, causev a) := by
  unfold walkv
  split
  · split
    · exact .inl rfl
    · exact .inr rfl
  · exact .inr rfl

theorem clone_eq (l : List Int) (h : l.length ≤ 70368744177664) : memory_clone.f l = some l := by unfold memory_clone.f; rw [if_pos h]

theorem SetField_eq (x : BitVec 32) (low n : Int) (v : BitVec 32) : bits_SetField.f (B x) low n (B v) = some (B (setv x low n v)) := by
  unfold bits_SetField.f setv
  rw [outside_eq]; rw [bs]; try dsimp only
  by_cases h : low < 0 ∨ low > 31 ∨ n < 1
  · rw [if_pos (by simpa using h), if_pos h]
  · rw [if_neg (by simpa using h), if_neg h, mask_eq n (by omega)]; rw [bs]; try dsimp only
    rw [if_pos (by omega), shl_B, shl_B, andNot_B, and_B, or_B]

theorem Store_eq (l : List Int) (hl : l.length ≤ 70368744177664) (hw : Ws l) (a s v : Int) (ha : 0 ≤ a ∧ a ≤ 4294967295) (hv : 0 ≤ v ∧ v ≤ 4294967295) : memory_Store.f l a s v = some (storev l a s v) := by
  unfold memory_Store.f storev
  rw [clone_eq l hl]; rw [bs]; try dsimp only
  rw [within_eq l a s ha]; rw [bs]; try dsimp only
  by_cases h : withinv l a s
  · have hi := within_idx h ha.1
    have e1 : Int.tdiv a 4 % 4294967296 = a / 4 := by rw [Int.tdiv_eq_ediv_of_nonneg ha.1]; omega
    have e2a : wrap64 (Int.tmod a 4) = a % 4 := by rw [Int.tmod_eq_emod_of_nonneg ha.1]; exact w64 (by omega) (by omega)
    have e2 : wrap64 (8 * wrap64 (Int.tmod a 4)) = 8 * (a % 4) := by rw [e2a]; exact w64 (by omega) (by omega)
    rw [if_pos (decide_eq_true h), if_pos h, e1, e2]
    unfold put
    by_cases hs : s = 1
    · rw [if_pos hs, if_pos (by omega), if_pos hi.1, if_pos hs, ← B_W (hw.at_ (a / 4))]
      conv => lhs; rw [← B_W hv]
      rw [SetField_eq]; rw [bs]; try dsimp only
      rw [if_pos hi.1, W_B]
    · rw [if_neg hs, if_pos (by omega), if_pos hi.1, if_neg hs]
  · have : ¬ decide (withinv l a s) = true := by simpa using h
    rw [if_neg this, if_neg h]

/-- The entry that Map writes. -/
def entv (f g : Int) : Int := Go.bits .or .u32 g ((f * 256) % 4294967296)
theorem entv_word (f g : Int) (hg : 0 ≤ g ∧ g ≤ 4294967295) : 0 ≤ entv f g ∧ entv f g ≤ 4294967295 := or_word _ _ hg (mod_word _)
theorem Map_eq (m : List Int) (hw : Ws m) (r p f g : Int) (hr : 0 ≤ r ∧ r ≤ 4294967295) (hp : 0 ≤ p ∧ p ≤ 4294967295) (hf : 0 ≤ f ∧ f ≤ 4294967295) (hg : 0 ≤ g ∧ g ≤ 4294967295) (hl : m.length ≤ 70368744177664) :
    paging_Map.f m r p f g = some (if (r < pagesv m ∧ f < pagesv m) ∧ p < 32 ∧ g ≤ 31 then (m.set (r * 32 + p).toNat (entv f g), true) else (m, false)) := by
  have hpg := pagesv_le m
  unfold paging_Map.f
  rw [page_eq m r hr, bs, page_eq m f hf, bs]
  by_cases h : (r < pagesv m ∧ f < pagesv m) ∧ p < 32 ∧ g ≤ 31
  · have e2 : paging_Entry.f r p = some (r * 128 + 4 * p) := by unfold paging_Entry.f; congr 1; omega
    rw [if_pos ⟨decide_eq_true h.1.1, decide_eq_true h.1.2, h.2.1, h.2.2⟩, if_pos h, e2, bs, Store_eq m hl hw _ 4 _ (by omega) (or_word _ _ hg (mod_word (f * 256)))]
    unfold storev
    have e3 : ((r * 128 + 4 * p) / 4).toNat = (r * 32 + p).toNat := by omega
    rw [if_pos ⟨.inr rfl, by omega, by omega⟩, e3]
    unfold put
    rw [if_neg (by decide)]; rfl
  · rw [if_neg (fun h' => h ⟨⟨of_decide_eq_true h'.1, of_decide_eq_true h'.2.1⟩, h'.2.2⟩), if_pos hl, if_neg h]
theorem rd_set_ne (m : List Int) (i j v : Int) (hi : 0 ≤ i) (hj : 0 ≤ j) (h : i ≠ j) : rd (m.set i.toNat v) j = rd m j := by
  unfold rd
  rw [List.getD_eq_getElem?_getD, List.getElem?_set_ne (by omega), ← List.getD_eq_getElem?_getD]
theorem rd_set_eq (m : List Int) (i v : Int) (hi : 0 ≤ i) (hl : i < m.length) : rd (m.set i.toNat v) i = v := by
  unfold rd
  rw [List.getD_eq_getElem?_getD, List.getElem?_set_self (by omega)]; rfl

theorem awake5 (k : Nat) (hk : 10 ≤ k) : vmfleetlaw5_awake.f k = some true := at_rounds (g := fun k => vmfleetlaw5_awake.f k) (fun k => vmfleetlaw5_awake.mono k) hk (by kernel_rfl)

theorem fm_congr {α β : Type} {f g : α → Option β} : ∀ {l : List α}, (∀ x ∈ l, f x = g x) → l.filterMap f = l.filterMap g
  | [], _ => rfl
  | x :: l, h => by rw [List.filterMap_cons, List.filterMap_cons, h x (List.mem_cons_self ..), fm_congr (fun y hy => h y (List.mem_cons_of_mem _ hy))]
theorem and_mask (x : Int) (j : Nat) (hx : 0 ≤ x ∧ x ≤ 4294967295) (hj : j ≤ 31) : Go.bits .and .u32 x ((2 ^ j - 1 : Nat) : Int) = x % ((2 ^ j : Nat) : Int) := by
  obtain ⟨n, rfl⟩ : ∃ n : Nat, x = (n : Int) := ⟨x.toNat, by omega⟩
  have hp : (2 : Nat) ^ j ≤ 2 ^ 31 := Nat.pow_le_pow_right (by decide) hj
  have hp0 : 0 < (2 : Nat) ^ j := Nat.pow_pos (by decide)
  show IntKind.u32.wrap ((BitVec.ofInt 32 (n : Int) &&& BitVec.ofInt 32 ((2 ^ j - 1 : Nat) : Int)).toNat : Int) = _
  have e1 : (BitVec.ofInt 32 ((2 ^ j - 1 : Nat) : Int)).toNat = 2 ^ j - 1 := by simp; omega
  have e2 : (BitVec.ofInt 32 (n : Int)).toNat = n := by simp; omega
  rw [BitVec.toNat_and, e1, e2, Nat.and_two_pow_sub_one_eq_mod, wrap_u32]
  have h3 : n % 2 ^ j ≤ n := Nat.mod_le _ _
  have h4 : ((n % 2 ^ j : Nat) : Int) = (n : Int) % ((2 ^ j : Nat) : Int) := by simp
  omega
theorem flags_eq (w : Int) (hw : 0 ≤ w ∧ w ≤ 4294967295) : bits_Field.f w 0 5 = some (w % 32) := by
  have h := Field_eq (W w) 0 5
  rw [B_W hw] at h
  rw [h]
  congr 1
  unfold fieldv
  rw [if_neg (by omega)]
  have e2 : Mi 5 = M 5 := rfl
  have e3 : (M 5).toNat = 2 ^ 5 - 1 := rfl
  rw [e2]
  unfold B
  rw [BitVec.toNat_and, BitVec.toNat_ushiftRight, e3, Nat.and_two_pow_sub_one_eq_mod]
  have e4 : ((W w).toNat : Int) = w := B_W hw
  have e5 : ((0 : Int)).toNat = 0 := rfl
  rw [e5, Nat.shiftRight_zero]
  omega
/-- A page's entry as the list tells it. -/
def entw (w : Int) (p : Nat) : Option S46 := if Go.bits .and .u32 w 1 = 0 then none else some ⟨(p : Int), byt w 1, w % 32⟩
def listv (m : List Int) (r : Int) : List S46 := if r < pagesv m then (List.range 32).filterMap fun p : Nat => entw (rd m (r * 32 + (p : Int))) p else []
theorem ent_eq (m : List Int) (hw : Ws m) (r : Int) (hr : 0 ≤ r) (hp : r < pagesv m) (p : Nat) (hp32 : p < 32) : paging_List.ent m r p = some (entw (rd m (r * 32 + (p : Int))) p) := by
  have hpg := pagesv_le m
  have e2 : paging_Entry.f r (p : Int) = some (r * 128 + 4 * (p : Int)) := by unfold paging_Entry.f; congr 1; omega
  have e3 : memory_Load.f m (r * 128 + 4 * (p : Int)) 4 = some (rd m (r * 32 + (p : Int)), true) := by
    rw [Load_eq m hw _ 4 (by omega)]
    unfold loadv
    rw [if_pos ⟨.inr rfl, by omega, by omega⟩]
    unfold getw
    rw [if_neg (by decide)]
    congr 3; omega
  have hwd := hw.at_ (r * 32 + (p : Int))
  unfold paging_List.ent entw
  rw [e2, bs, e3, bs]
  dsimp only
  rw [if_pos rfl]
  by_cases h : Go.bits .and .u32 (rd m (r * 32 + (p : Int))) 1 = 0
  · rw [if_pos h, if_pos h]
  · rw [if_neg h, if_neg h, Frame_eq _ hwd, bs, flags_eq _ hwd, bs]
theorem List_eq (m : List Int) (hw : Ws m) (r : Int) (hr : 0 ≤ r ∧ r ≤ 4294967295) : paging_List.f m r = some (listv m r) := by
  unfold paging_List.f listv
  rw [page_eq m r hr, bs]
  by_cases h : r < pagesv m
  · rw [if_pos (decide_eq_true h), if_pos h]
    have hall : (List.range 32).all (fun p => (paging_List.ent m r p).isSome) = true := by
      rw [List.all_eq_true]
      intro p hp
      rw [ent_eq m hw r hr.1 h p (by simpa using hp)]; rfl
    rw [if_pos hall]
    congr 1
    unfold paging_List.ents
    apply fm_congr
    intro p hp
    rw [ent_eq m hw r hr.1 h p (by simpa using hp)]; rfl
  · rw [if_neg (by simpa using h), if_neg h]
theorem listv_len (m : List Int) (r : Int) : (listv m r).length ≤ 32 := by
  unfold listv
  split
  · refine Nat.le_trans (List.length_filterMap_le _ _) ?_
    rw [List.length_range]; omega
  · simp

theorem and_one (w : Int) (hw : 0 ≤ w ∧ w ≤ 4294967295) : Go.bits .and .u32 w 1 = w % 2 := by
  have := and_mask w 1 hw (by omega)
  have e8 : ((2 ^ 1 - 1 : Nat) : Int) = 1 := rfl
  have e9 : ((2 ^ 1 : Nat) : Int) = 2 := rfl
  rw [e8, e9] at this
  exact this
theorem may_load (w : Int) (hw : 0 ≤ w ∧ w ≤ 4294967295) : may w 2 ↔ ¬ Go.bits .and .u32 w 1 = 0 := by
  have e : need 2 = 1 := by decide
  unfold may
  rw [e, and_one w hw]
  omega
theorem entw_page (w : Int) (p : Nat) (x : S46) (h : entw w p = some x) : x.f0 = (p : Int) ∧ x.f1 = byt w 1 ∧ ¬ Go.bits .and .u32 w 1 = 0 := by
  unfold entw at h
  by_cases hz : Go.bits .and .u32 w 1 = 0
  · rw [if_pos hz] at h; cases h
  · rw [if_neg hz] at h
    obtain rfl := Option.some.inj h
    exact ⟨rfl, rfl, hz⟩
theorem load_walk (m : List Int) (hw : Ws m) (r : Int) (hr : 0 ≤ r) (hp : r < pagesv m) (p : Nat) (h32 : p < 32) : walkv m r (128 * (p : Int)) 2 = if (¬ Go.bits .and .u32 (rd m (r * 32 + (p : Int))) 1 = 0) ∧ byt (rd m (r * 32 + (p : Int))) 1 < pagesv m then (byt (rd m (r * 32 + (p : Int))) 1 * 128, r * 128 + 4 * (p : Int), 0) else (0, 0, 5) := by
  have hwd := hw.at_ (r * 32 + (p : Int))
  have e1 : (128 * (p : Int)) / 128 = (p : Int) := by omega
  have e2 : (128 * (p : Int)) % 128 = 0 := by omega
  have e3 : causev 2 = 5 := by decide
  unfold walkv
  rw [if_pos (by omega), e1, e2, e3]
  by_cases h : may (rd m (r * 32 + (p : Int))) 2 ∧ byt (rd m (r * 32 + (p : Int))) 1 < pagesv m
  · rw [if_pos h, if_pos ⟨(may_load _ hwd).1 h.1, h.2⟩, Int.add_zero]
  · rw [if_neg h, if_neg (fun h' => h ⟨(may_load _ hwd).2 h'.1, h'.2⟩)]
theorem split_at (g : Nat → Option S46) (p : Nat) (h : p < 32) : (List.range 32).filterMap g = (List.range p).filterMap g ++ (match g p with | none => [] | some x => [x]) ++ ((List.range 32).drop (p + 1)).filterMap g := by
  have h1 : List.range 32 = (List.range 32).take p ++ (List.range 32).drop p := (List.take_append_drop _ _).symm
  have h2 : (List.range 32).take p = List.range p := by rw [List.take_range]; congr 1; omega
  have h3 : (List.range 32).drop p = p :: (List.range 32).drop (p + 1) := by rw [List.drop_eq_getElem_cons (by simp; omega)]; simp
  conv => lhs; rw [h1, h2, h3, List.filterMap_append, List.filterMap_cons]
  cases hg : g p with
  | none => simp
  | some x => simp
theorem Lists_from (m : List Int) (hw : Ws m) (n : Nat) (hpg : pagesv m = (n : Int)) (hn : n ≤ 8) (r : Int) (hr : 0 ≤ r) (hrn : r < (n : Int)) (d : Nat) : ∀ (p k : Nat), p ≤ 32 → 32 - p = d → 3 * d + 20 < k →
    vmfleetlaw5_PagingLists.l0 k r m (n : Int) (listv m r) ((((List.range p).filterMap fun p : Nat => entw (rd m (r * 32 + (p : Int))) p).length : Nat) : Int) (p : Int) = some true := by
  have hlv : listv m r = (List.range 32).filterMap fun p : Nat => entw (rd m (r * 32 + (p : Int))) p := by unfold listv; rw [if_pos (by omega)]
  have hll := listv_len m r
  induction d with
  | zero =>
    intro p k h1 h2 h3
    obtain ⟨k, rfl⟩ : ∃ q, k = q + 1 := ⟨k - 1, by omega⟩
    obtain rfl : p = 32 := by omega
    simp only [vmfleetlaw5_PagingLists.l0]
    rw [if_neg (by omega), ← hlv, if_pos rfl, awake5 k (by omega), bs]
  | succ d ih =>
    intro p k h1 h2 h3
    obtain ⟨k, rfl⟩ : ∃ q, k = q + 3 := ⟨k - 3, by omega⟩
    have h32 : p < 32 := by omega
    have hwd := hw.at_ (r * 32 + (p : Int))
    have hby := byt_range (rd m (r * 32 + (p : Int))) 1
    have e1 : (128 * (p : Int)) % 4294967296 = 128 * (p : Int) := by omega
    have e2 : ((p : Int) + 1) % 4294967296 = ((p + 1 : Nat) : Int) := by omega
    have hsp := split_at (fun p : Nat => entw (rd m (r * 32 + (p : Int))) p) p h32
    rw [← hlv] at hsp
    have hq : ((List.range p).filterMap fun p : Nat => entw (rd m (r * 32 + (p : Int))) p).length ≤ 32 := by
      refine Nat.le_trans (List.length_filterMap_le _ _) ?_
      rw [List.length_range]; omega
    have hnext : (List.range (p + 1)).filterMap (fun p : Nat => entw (rd m (r * 32 + (p : Int))) p) = (List.range p).filterMap (fun p : Nat => entw (rd m (r * 32 + (p : Int))) p) ++ (match entw (rd m (r * 32 + (p : Int))) p with | none => [] | some x => [x]) := by
      rw [List.range_succ, List.filterMap_append]
      congr 1
      cases hg : entw (rd m (r * 32 + (p : Int))) p with
      | none => simp [hg]
      | some x => simp [hg]
    have hih := ih (p + 1) k (by omega) (by omega) (by omega)
    simp only [vmfleetlaw5_PagingLists.l0]
    rw [if_pos (by omega), e1, Walk_eq m hw r _ 2 (by omega) (by omega) (k + 2) (by omega), bs, load_walk m hw r hr (by omega) p h32]
    cases hg : entw (rd m (r * 32 + (p : Int))) p with
    | some x =>
      obtain ⟨x0, x1, hv⟩ := entw_page _ _ _ hg
      simp only [hg] at hsp hnext
      have hat : rd_T46 (listv m r) ((((List.range p).filterMap fun p : Nat => entw (rd m (r * 32 + (p : Int))) p).length : Nat) : Int) = x := by
        unfold rd_T46
        rw [Int.toNat_natCast, hsp, List.append_assoc, List.getD_eq_getElem?_getD, List.getElem?_append_right (Nat.le_refl _), Nat.sub_self]
        rfl
      have hlt : ((List.range p).filterMap fun p : Nat => entw (rd m (r * 32 + (p : Int))) p).length < (listv m r).length := by
        rw [hsp]; simp
      have e3 : wrap64 (((((List.range p).filterMap fun p : Nat => entw (rd m (r * 32 + (p : Int))) p).length : Nat) : Int) + 1) = (((((List.range (p + 1)).filterMap fun p : Nat => entw (rd m (r * 32 + (p : Int))) p).length : Nat)) : Int) := by
        rw [w64 (by omega) (by omega), hnext]; simp
      rw [if_pos (by omega), if_pos (by omega), hat, x0]
      simp only [vmfleetlaw5_PagingLists.j1]
      rw [if_pos (by simp), if_pos (by omega), if_pos (by omega), hat, x1]
      by_cases hf : byt (rd m (r * 32 + (p : Int))) 1 < (n : Int)
      · have hc : (¬ Go.bits .and .u32 (rd m (r * 32 + (p : Int))) 1 = 0) ∧ byt (rd m (r * 32 + (p : Int))) 1 < pagesv m := ⟨hv, by omega⟩
        have e4 : (128 * byt (rd m (r * 32 + (p : Int))) 1) % 4294967296 = byt (rd m (r * 32 + (p : Int))) 1 * 128 := by omega
        rw [if_pos hc]
        dsimp only
        rw [decide_eq_true hf, if_neg (by simp), if_pos hf, e4]
        simp only [vmfleetlaw5_PagingLists.j2]
        rw [if_neg (by simp), e3, e2]
        exact hih
      · have hc : ¬ ((¬ Go.bits .and .u32 (rd m (r * 32 + (p : Int))) 1 = 0) ∧ byt (rd m (r * 32 + (p : Int))) 1 < pagesv m) := fun h => hf (by omega)
        rw [if_neg hc]
        dsimp only
        rw [decide_eq_false hf, if_neg (by decide), if_neg hf]
        simp only [vmfleetlaw5_PagingLists.j2]
        rw [if_neg (by simp), e3, e2]
        exact hih
    | none =>
      simp only [hg] at hsp hnext
      rw [List.append_nil] at hsp hnext
      have hz : Go.bits .and .u32 (rd m (r * 32 + (p : Int))) 1 = 0 := by
        by_cases hz : Go.bits .and .u32 (rd m (r * 32 + (p : Int))) 1 = 0
        · exact hz
        · unfold entw at hg; rw [if_neg hz] at hg; cases hg
      have hc : ¬ ((¬ Go.bits .and .u32 (rd m (r * 32 + (p : Int))) 1 = 0) ∧ byt (rd m (r * 32 + (p : Int))) 1 < pagesv m) := fun h => h.1 hz
      have hend : vmfleetlaw5_PagingLists.j1 (k + 2) r m (n : Int) (listv m r) ((((List.range p).filterMap fun p : Nat => entw (rd m (r * 32 + (p : Int))) p).length : Nat) : Int) (p : Int) false 0 0 5 = some true := by
        simp only [vmfleetlaw5_PagingLists.j1]
        rw [if_neg (by simp), if_neg (by decide), e2, ← hnext]
        exact at_rounds (g := fun k => vmfleetlaw5_PagingLists.l0 k r m (n : Int) (listv m r) ((((List.range (p + 1)).filterMap fun p : Nat => entw (rd m (r * 32 + (p : Int))) p).length : Nat) : Int) ((p + 1 : Nat) : Int)) (fun k => (vmfleetlaw5_PagingLists.mono_l k).1 _ _ _ _ _ _) (by omega : k ≤ k + 1) hih
      rw [if_neg hc]
      dsimp only
      by_cases hlt : ((List.range p).filterMap fun p : Nat => entw (rd m (r * 32 + (p : Int))) p).length < (listv m r).length
      · have hne : (rd_T46 (listv m r) ((((List.range p).filterMap fun p : Nat => entw (rd m (r * 32 + (p : Int))) p).length : Nat) : Int)).f0 ≠ (p : Int) := by
          have hmem : rd_T46 (listv m r) ((((List.range p).filterMap fun p : Nat => entw (rd m (r * 32 + (p : Int))) p).length : Nat) : Int) ∈ ((List.range 32).drop (p + 1)).filterMap fun p : Nat => entw (rd m (r * 32 + (p : Int))) p := by
            have hl2 := hlt
            rw [hsp, List.length_append] at hl2
            unfold rd_T46
            rw [Int.toNat_natCast, hsp, List.getD_eq_getElem?_getD, List.getElem?_append_right (Nat.le_refl _), Nat.sub_self, List.getElem?_eq_getElem (by omega)]
            exact List.getElem_mem _
          obtain ⟨p', hp', hx'⟩ := List.mem_filterMap.1 hmem
          have := (entw_page _ _ _ hx').1
          rw [this]
          have hge : p + 1 ≤ p' := by
            have h3 : (List.range 32).drop (p + 1) = List.range' (p + 1) (32 - (p + 1)) := by rw [List.range_eq_range', List.drop_range']; simp
            rw [h3] at hp'
            exact (List.mem_range'_1.1 hp').1
          omega
        have hb : ((rd_T46 (listv m r) ((((List.range p).filterMap fun p : Nat => entw (rd m (r * 32 + (p : Int))) p).length : Nat) : Int)).f0 == (p : Int)) = false := beq_eq_false_iff_ne.2 hne
        rw [if_pos (by omega), if_pos (by omega), hb]
        exact hend
      · rw [if_neg (by omega)]
        exact hend
theorem PagingLists : vmfleetlaw5_PagingLists.Pure := by
  intro l p r h0 h1 h2 h3 h4
  have br := bounds_u32 h4
  obtain ⟨m, n, em, lm, n1, n8, wm, pm⟩ := tables_ends l p (by unfold maxLen at h0; omega)
  have en : (n : Int) % 4294967296 = (n : Int) := by omega
  have m1 := Int.emod_nonneg r (show (n : Int) ≠ 0 by omega)
  have m2 := Int.emod_lt_of_pos r (show 0 < (n : Int) by omega)
  refine ⟨2000, ?_⟩
  unfold vmfleetlaw5_PagingLists.f
  rw [em 2000 (by omega), bs, rPages_eq, bs, pm, en, if_neg (by omega), Int.tmod_eq_emod_of_nonneg br.1, List_eq m wm _ (by omega), bs]
  have := Lists_from m wm n pm n8 (r % (n : Int)) m1 m2 32 0 2000 (by omega) (by omega) (by omega)
  exact this

end Go.Proofs.Ytbijkhoeaddemaa.Pure
