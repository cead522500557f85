/- Proved: after Map, every address of the page is translated to the same offset of the frame, if and only if the flags permit the access. Conditions: none. -/
import Derived.Test.YtbijkhoeaddemaaHPagingLeadsx1
import Derived.Test.YtbijkhoeaddemaaHPagingLeadsx2
import Derived.Test.YtbijkhoeaddemaaHPagingLeadsx3
import Derived.Test.YtbijkhoeaddemaaHPagingLeadsx4
import Derived.Test.YtbijkhoeaddemaaBv
import Derived.Test.YtbijkhoeaddemaaMem
namespace Go.Proofs.Ytbijkhoeaddemaa.Pure
open Go.RowKit Go.Proofs.Ytbijkhoeaddemaa.HPagingLeads Go.Proofs.YtbijkhoeaddemaaW.PrintWords Go.Proofs.YtbijkhoeaddemaaW.PrintLast Go.Proofs.Ytbijkhoeaddemaa.Bv Go.Proofs.Ytbijkhoeaddemaa.Mem
set_option linter.unusedVariables false
set_option linter.unusedSimpArgs false

/-- A bind of what is there. -/
theorem bs {α β : Type} (a : α) (f : α → Option β) : (some a).bind f = f a := rfl

theorem Round_eq (a n : Int) (hn : 0 < n) (hn2 : n ≤ 4611686018427387904) : vmfleetmake_Round.f a n = some (a % n) := by
  unfold vmfleetmake_Round.f
  rw [if_neg (by omega)]
  have h1 := Int.emod_nonneg a (show n ≠ 0 by omega)
  have h2 := Int.emod_lt_of_pos a hn
  have h3 := Int.tmod_lt_of_pos a hn
  have h4 := Int.lt_tmod_of_pos a hn
  have h5 : Int.tmod a n = a % n ∨ Int.tmod a n = a % n - n := by
    rw [Int.tmod_eq_emod]; split <;> simp <;> omega
  by_cases h : Int.tmod a n < 0
  · rw [if_pos h, w64 (by omega) (by omega)]; congr 1; omega
  · rw [if_neg h]; congr 1; omega

theorem rNew_eq (n : Int) : vmfleetref1_New.f n = some (if 1 ≤ n ∧ n ≤ 32 then List.replicate (32 * n.toNat) 0 else []) := by
  unfold vmfleetref1_New.f
  by_cases h1 : n < 1
  · rw [if_pos h1, if_neg (by omega)]
  · rw [if_neg h1]
    by_cases h2 : n > 32
    · rw [if_pos h2, if_neg (by omega)]
    · have e : wrap64 (n * 32) = n * 32 := w64 (by omega) (by omega)
      have e2 : (n * 32).toNat = 32 * n.toNat := by omega
      rw [if_neg h2, e, if_pos (by omega), if_pos (by omega), if_pos (by omega), e2]

theorem Mix_ends (a b : Int) : ∃ r, vmfleetmake_Mix.f a b = some r ∧ 0 ≤ r ∧ r ≤ 9223372036854775807 := by
  unfold vmfleetmake_Mix.f
  obtain ⟨p, q, hp, h0, h1⟩ : ∃ p q, vmfleetref1_Next.f (Go.bits .xor .u64 (IntKind.u64.wrap (a)) (IntKind.u64.wrap ((IntKind.u64.wrap (b)) * 11400714819323198485))) = some (p, q) ∧ 0 ≤ p ∧ p ≤ 18446744073709551615 := by
    refine ⟨_, _, rfl, ?_⟩
    show 0 ≤ IntKind.u64.wrap _ ∧ IntKind.u64.wrap _ ≤ _
    rw [wu64]; omega
  rw [hp]; rw [bs]; try dsimp only
  exact ⟨_, rfl, by rw [w64 (by omega) (by omega)]; omega, by rw [w64 (by omega) (by omega)]; omega⟩

theorem or_word (a b : Int) (ha : 0 ≤ a ∧ a ≤ 4294967295) (hb : 0 ≤ b ∧ b ≤ 4294967295) : 0 ≤ Go.bits .or .u32 a b ∧ Go.bits .or .u32 a b ≤ 4294967295 := by
  rw [← B_W ha, ← B_W hb, or_B]; exact B_word _
theorem mod_word (x : Int) : 0 ≤ x % 4294967296 ∧ x % 4294967296 ≤ 4294967295 := by omega
theorem tables_from (l : List Int) (hl : l.length ≤ 9000000000000000000) (d : Nat) : ∀ (i k : Nat) (m : List Int), i ≤ l.length → i ≤ 60 → 60 - i = d → 2 * d + 1 < k → Ws m → 1 ≤ m.length → m.length ≤ 1024 → ∃ m', vmfleetlaw5_tables.l0 k l m (i : Int) = some m' ∧ m'.length = m.length ∧ Ws m' := by
  induction d with
  | zero =>
    intro i k m h1 h2 h3 h4 hw hm hm2
    obtain ⟨k, rfl⟩ : ∃ q, k = q + 2 := ⟨k - 2, by omega⟩
    refine ⟨m, ?_, rfl, hw⟩
    simp only [vmfleetlaw5_tables.l0]
    by_cases hi : (i : Int) < (l.length : Int)
    · rw [if_pos hi]
      simp only [vmfleetlaw5_tables.j1]
      have : ¬ decide ((i : Int) < 60) = true := by simp; omega
      rw [if_neg this]
    · rw [if_neg hi]
      simp only [vmfleetlaw5_tables.j1]
      rw [if_neg (by simp)]
  | succ d ih =>
    intro i k m h1 h2 h3 h4 hw hm hm2
    obtain ⟨k, rfl⟩ : ∃ q, k = q + 2 := ⟨k - 2, by omega⟩
    simp only [vmfleetlaw5_tables.l0]
    by_cases hi : (i : Int) < (l.length : Int)
    · rw [if_pos hi]
      simp only [vmfleetlaw5_tables.j1]
      have hdec : decide ((i : Int) < 60) = true := by simp; omega
      obtain ⟨p, e1, p0, p1⟩ := Mix_ends (rd l (i : Int)) 9
      have e3 := Round_eq p (m.length : Int) (by omega) (by omega)
      have hr0 := Int.emod_nonneg p (show (m.length : Int) ≠ 0 by omega)
      have hr1 := Int.emod_lt_of_pos p (show 0 < (m.length : Int) by omega)
      have ew : wrap64 ((i : Int) + 1) = ((i + 1 : Nat) : Int) := by rw [w64 (by omega) (by omega)]; simp
      rw [if_pos hdec, if_pos (by omega), if_pos hi, e1, bs, e3, bs, if_pos hr0, if_pos hr1, bs, ew]
      have w1 := hw.set (p % (m.length : Int)).toNat (or_word _ _ (mod_word (Go.bits .and .i64 (p / 65536) 31)) (mod_word ((Go.bits .and .i64 (p / 16777216) 15) % 4294967296 * 256)))
      by_cases h5 : Int.tmod (rd l (i : Int)) 5 = 0
      · rw [if_pos h5]
        obtain ⟨m', h6, h7, h8⟩ := ih (i + 1) k _ (by omega) (by omega) (by omega) (by omega) (w1.set (p % (m.length : Int)).toNat (mod_word (Go.bits .and .i64 (p / 1048576) 4294967295))) (by simpa using hm) (by simpa using hm2)
        exact ⟨m', h6, by rw [h7]; simp, h8⟩
      · rw [if_neg h5]
        obtain ⟨m', h6, h7, h8⟩ := ih (i + 1) k _ (by omega) (by omega) (by omega) (by omega) w1 (by simpa using hm) (by simpa using hm2)
        exact ⟨m', h6, by rw [h7]; simp, h8⟩
    · refine ⟨m, ?_, rfl, hw⟩
      rw [if_neg hi]
      simp only [vmfleetlaw5_tables.j1]
      rw [if_neg (by simp)]
/-- The memory with page tables made of numbers: its size, and that its words are words. -/
theorem tables_ends (l : List Int) (p : Int) (hl : l.length ≤ 140737488355328) : ∃ (m : List Int) (n : Nat), (∀ k, 200 ≤ k → vmfleetlaw5_tables.f k l p = some m) ∧ m.length = 32 * n ∧ 1 ≤ n ∧ n ≤ 8 ∧ Ws m ∧ pagesv m = (n : Int) := by
  have hp0 := Int.emod_nonneg p (show (8 : Int) ≠ 0 by decide)
  have hp1 := Int.emod_lt_of_pos p (show (0 : Int) < 8 by decide)
  have e1 : wrap64 (1 + p % 8) = 1 + p % 8 := w64 (by omega) (by omega)
  have hlen : (List.replicate (32 * (1 + p % 8).toNat) (0 : Int)).length = 32 * (1 + p % 8).toNat := by simp
  obtain ⟨m, h1, h2, h3⟩ := tables_from l (by omega) 60 0 200 (List.replicate (32 * (1 + p % 8).toNat) 0) (by omega) (by omega) (by omega) (by omega) (Ws.rep _) (by omega) (by omega)
  refine ⟨m, (1 + p % 8).toNat, fun k hk => at_rounds (g := fun k => vmfleetlaw5_tables.f k l p) (fun k => vmfleetlaw5_tables.mono _ _ k) hk ?_, by rw [h2, hlen], by omega, by omega, h3, pagesv_of (by rw [h2, hlen]) (by omega)⟩
  show vmfleetlaw5_tables.f 200 l p = some m
  unfold vmfleetlaw5_tables.f
  rw [Round_eq p 8 (by omega) (by omega), bs, e1, rNew_eq, bs, if_pos (by omega)]
  rw [Int.natCast_zero] at h1
  exact h1

theorem rPages_eq (l : List Int) : vmfleetref1_Pages.f l = some (pagesv l) := by
  unfold vmfleetref1_Pages.f pagesv
  by_cases h : (l.length : Int) % 32 = 0
  · rw [if_pos h]
    by_cases h2 : (l.length : Int) > 1024
    · rw [if_pos h2, if_neg (by omega)]
    · rw [if_neg h2, if_pos (by omega), w64 (by omega) (by omega)]; simp
  · rw [if_neg h, if_neg (by omega)]

theorem Pages_eq (l : List Int) : memory_Pages.f l = some (pagesv l) := by
  unfold memory_Pages.f pagesv
  by_cases h : (l.length : Int) % 32 = 0
  · rw [if_pos h]
    by_cases h2 : (l.length : Int) > 1024
    · rw [if_pos h2, if_neg (by omega)]
    · rw [if_neg h2, if_pos (by omega), w64 (by omega) (by omega)]; simp
  · rw [if_neg h, if_neg (by omega)]

theorem page_eq (m : List Int) (a : Int) (ha : 0 ≤ a ∧ a ≤ 4294967295) : paging_page.f m a = some (decide (a < pagesv m)) := by
  have hp := pagesv_le m
  unfold paging_page.f
  rw [Pages_eq, bs, u64w (by omega) (by omega), u64w (by omega) (by omega)]

theorem clone_eq (l : List Int) (h : l.length ≤ 70368744177664) : memory_clone.f l = some l := by unfold memory_clone.f; rw [if_pos h]

theorem within_eq (l : List Int) (a s : Int) (ha : 0 ≤ a ∧ a ≤ 4294967295) : memory_within.f l a s = some (decide (withinv l a s)) := by
  have hp := pagesv_le l
  have ea : IntKind.u64.wrap a = a := u64w (by omega) (by omega)
  have ep : IntKind.u64.wrap (wrap64 (pagesv l * 128)) = pagesv l * 128 := by rw [w64 (by omega) (by omega), u64w (by omega) (by omega)]
  unfold memory_within.f
  rw [Pages_eq]; rw [bs]; try dsimp only
  rw [ep, ea]
  by_cases h1 : s = 1
  · subst h1
    have e1 : Int.tmod a (1 % 4294967296) = a % 1 := Int.tmod_eq_emod_of_nonneg ha.1
    have e2 : IntKind.u64.wrap 1 = 1 := u64w (by omega) (by omega)
    have e3 : IntKind.u64.wrap (a + 1) = a + 1 := u64w (by omega) (by omega)
    rw [if_pos rfl, if_neg (by omega), e1, if_pos (by omega), e2, e3]
    exact congrArg some (decide_eq_decide.2 (by unfold withinv; omega))
  · rw [if_neg h1]
    by_cases h4 : s = 4
    · subst h4
      have e1 : Int.tmod a (4 % 4294967296) = a % 4 := Int.tmod_eq_emod_of_nonneg ha.1
      have e2 : IntKind.u64.wrap 4 = 4 := u64w (by omega) (by omega)
      have e3 : IntKind.u64.wrap (a + 4) = a + 4 := u64w (by omega) (by omega)
      rw [if_pos rfl, if_neg (by omega), e1]
      by_cases hm : a % 4 = 0
      · rw [if_pos hm, e2, e3]
        exact congrArg some (decide_eq_decide.2 (by unfold withinv; omega))
      · rw [if_neg hm]; exact congrArg some (decide_eq_false (by unfold withinv; omega)).symm
    · rw [if_neg h4]; exact congrArg some (decide_eq_false (by unfold withinv; omega)).symm

theorem outside_eq (low n : Int) : bits_outside.f low n = some (decide (low < 0 ∨ low > 31 ∨ n < 1)) := by
  unfold bits_outside.f
  by_cases h1 : low < 0
  · rw [if_pos h1]; simp [h1]
  · rw [if_neg h1]
    by_cases h2 : low > 31
    · rw [if_pos h2]; simp [h2]
    · rw [if_neg h2]; simp [h1]; omega

theorem mask_eq (n : Int) (h : 1 ≤ n) : bits_mask.f n = some (B (Mi n)) := by
  unfold bits_mask.f Mi
  split
  · rfl
  · rw [if_pos (by omega), mask_B n (by omega) (by omega)]

theorem SetField_eq (x : BitVec 32) (low n : Int) (v : BitVec 32) : bits_SetField.f (B x) low n (B v) = some (B (setv x low n v)) := by
  unfold bits_SetField.f setv
  rw [outside_eq]; rw [bs]; try dsimp only
  by_cases h : low < 0 ∨ low > 31 ∨ n < 1
  · rw [if_pos (by simpa using h), if_pos h]
  · rw [if_neg (by simpa using h), if_neg h, mask_eq n (by omega)]; rw [bs]; try dsimp only
    rw [if_pos (by omega), shl_B, shl_B, andNot_B, and_B, or_B]

theorem Store_eq (l : List Int) (hl : l.length ≤ 70368744177664) (hw : Ws l) (a s v : Int) (ha : 0 ≤ a ∧ a ≤ 4294967295) (hv : 0 ≤ v ∧ v ≤ 4294967295) : memory_Store.f l a s v = some (storev l a s v) := by
  unfold memory_Store.f storev
  rw [clone_eq l hl]; rw [bs]; try dsimp only
  rw [within_eq l a s ha]; rw [bs]; try dsimp only
  by_cases h : withinv l a s
  · have hi := within_idx h ha.1
    have e1 : Int.tdiv a 4 % 4294967296 = a / 4 := by rw [Int.tdiv_eq_ediv_of_nonneg ha.1]; omega
    have e2a : wrap64 (Int.tmod a 4) = a % 4 := by rw [Int.tmod_eq_emod_of_nonneg ha.1]; exact w64 (by omega) (by omega)
    have e2 : wrap64 (8 * wrap64 (Int.tmod a 4)) = 8 * (a % 4) := by rw [e2a]; exact w64 (by omega) (by omega)
    rw [if_pos (decide_eq_true h), if_pos h, e1, e2]
    unfold put
    by_cases hs : s = 1
    · rw [if_pos hs, if_pos (by omega), if_pos hi.1, if_pos hs, ← B_W (hw.at_ (a / 4))]
      conv => lhs; rw [← B_W hv]
      rw [SetField_eq]; rw [bs]; try dsimp only
      rw [if_pos hi.1, W_B]
    · rw [if_neg hs, if_pos (by omega), if_pos hi.1, if_neg hs]
  · have : ¬ decide (withinv l a s) = true := by simpa using h
    rw [if_neg this, if_neg h]

/-- The entry that Map writes. -/
def entv (f g : Int) : Int := Go.bits .or .u32 g ((f * 256) % 4294967296)
theorem entv_word (f g : Int) (hg : 0 ≤ g ∧ g ≤ 4294967295) : 0 ≤ entv f g ∧ entv f g ≤ 4294967295 := or_word _ _ hg (mod_word _)
theorem Map_eq (m : List Int) (hw : Ws m) (r p f g : Int) (hr : 0 ≤ r ∧ r ≤ 4294967295) (hp : 0 ≤ p ∧ p ≤ 4294967295) (hf : 0 ≤ f ∧ f ≤ 4294967295) (hg : 0 ≤ g ∧ g ≤ 4294967295) (hl : m.length ≤ 70368744177664) :
    paging_Map.f m r p f g = some (if (r < pagesv m ∧ f < pagesv m) ∧ p < 32 ∧ g ≤ 31 then (m.set (r * 32 + p).toNat (entv f g), true) else (m, false)) := by
  have hpg := pagesv_le m
  unfold paging_Map.f
  rw [page_eq m r hr, bs, page_eq m f hf, bs]
  by_cases h : (r < pagesv m ∧ f < pagesv m) ∧ p < 32 ∧ g ≤ 31
  · have e2 : paging_Entry.f r p = some (r * 128 + 4 * p) := by unfold paging_Entry.f; congr 1; omega
    rw [if_pos ⟨decide_eq_true h.1.1, decide_eq_true h.1.2, h.2.1, h.2.2⟩, if_pos h, e2, bs, Store_eq m hl hw _ 4 _ (by omega) (or_word _ _ hg (mod_word (f * 256)))]
    unfold storev
    have e3 : ((r * 128 + 4 * p) / 4).toNat = (r * 32 + p).toNat := by omega
    rw [if_pos ⟨.inr rfl, by omega, by omega⟩, e3]
    unfold put
    rw [if_neg (by decide)]; rfl
  · rw [if_neg (fun h' => h ⟨⟨of_decide_eq_true h'.1, of_decide_eq_true h'.2.1⟩, h'.2.2⟩), if_pos hl, if_neg h]
theorem rd_set_ne (m : List Int) (i j v : Int) (hi : 0 ≤ i) (hj : 0 ≤ j) (h : i ≠ j) : rd (m.set i.toNat v) j = rd m j := by
  unfold rd
  rw [List.getD_eq_getElem?_getD, List.getElem?_set_ne (by omega), ← List.getD_eq_getElem?_getD]
theorem rd_set_eq (m : List Int) (i v : Int) (hi : 0 ≤ i) (hl : i < m.length) : rd (m.set i.toNat v) i = v := by
  unfold rd
  rw [List.getD_eq_getElem?_getD, List.getElem?_set_self (by omega)]; rfl

def causev (a : Int) : Int := if a = 1 then 4 else if a = 3 then 6 else 5
theorem Cause_eq (a : Int) : paging_Cause.f a = some (causev a) := by
  unfold paging_Cause.f causev
  split
  · rfl
  · split <;> rfl
theorem causev_ne (a : Int) : causev a ≠ 0 := by
  unfold causev
  split
  · decide
  · split <;> decide

theorem Field_eq (x : BitVec 32) (low n : Int) : bits_Field.f (B x) low n = some (B (fieldv x low n)) := by
  unfold bits_Field.f fieldv
  rw [outside_eq]; rw [bs]; try dsimp only
  by_cases h : low < 0 ∨ low > 31 ∨ n < 1
  · rw [if_pos (by simpa using h), if_pos h]; rfl
  · rw [if_neg (by simpa using h), if_neg h, if_pos (by omega), mask_eq n (by omega)]; rw [bs]; try dsimp only
    rw [shr_B, and_B]

theorem Load_eq (l : List Int) (hw : Ws l) (a s : Int) (ha : 0 ≤ a ∧ a ≤ 4294967295) : memory_Load.f l a s = some (loadv l a s) := by
  unfold memory_Load.f loadv
  rw [within_eq l a s ha]; rw [bs]; try dsimp only
  by_cases h : withinv l a s
  · have hi := within_idx h ha.1
    have e1 : Int.tdiv a 4 % 4294967296 = a / 4 := by rw [Int.tdiv_eq_ediv_of_nonneg ha.1]; omega
    have e2a : wrap64 (Int.tmod a 4) = a % 4 := by rw [Int.tmod_eq_emod_of_nonneg ha.1]; exact w64 (by omega) (by omega)
    have e2 : wrap64 (8 * wrap64 (Int.tmod a 4)) = 8 * (a % 4) := by rw [e2a]; exact w64 (by omega) (by omega)
    rw [if_pos (decide_eq_true h), if_pos h, e1, e2, if_pos (by omega), if_pos hi.1]
    unfold getw
    by_cases hs : s = 1
    · rw [if_pos hs, if_pos hs, ← B_W (hw.at_ (a / 4)), Field_eq, W_B]; rfl
    · rw [if_neg hs, if_neg hs]
  · have : ¬ decide (withinv l a s) = true := by simpa using h
    rw [if_neg this, if_neg h]

theorem Frame_eq (w : Int) (hw : 0 ≤ w ∧ w ≤ 4294967295) : paging_Frame.f w = some (byt w 1) := by
  unfold paging_Frame.f
  have h := field_byte (W w) 1 (by omega)
  rw [B_W hw] at h
  have e : (8 : Int) * ((1 : Nat) : Int) = 8 := by decide
  rw [e] at h
  have hf : bits_Field.f w 8 8 = some (byt w 1) := by
    rw [← h]
    have := Field_eq (W w) 8 8
    rw [B_W hw] at this
    exact this
  rw [hf, bs]
theorem byt_range (w : Int) (j : Nat) : 0 ≤ byt w j ∧ byt w j ≤ 255 := by unfold byt; omega

def need (a : Int) : Int := if a = 1 then 5 else if a = 3 then 3 else 1
/-- May this entry be used so? -/
def may (w a : Int) : Prop := Go.bits .and .u32 w (need a) = need a
instance (w a : Int) : Decidable (may w a) := by unfold may; infer_instance
def walkv (m : List Int) (r va a : Int) : Int × Int × Int :=
  if 1 ≤ a ∧ a ≤ 3 ∧ va < 4096 ∧ r < pagesv m then
    (if may (rd m (r * 32 + va / 128)) a ∧ byt (rd m (r * 32 + va / 128)) 1 < pagesv m then (byt (rd m (r * 32 + va / 128)) 1 * 128 + va % 128, r * 128 + 4 * (va / 128), 0) else (0, 0, causev a))
  else (0, 0, causev a)
theorem Walk_j1 (m : List Int) (va at_ w nd c : Int) (hw : 0 ≤ w ∧ w ≤ 4294967295) (hva : 0 ≤ va) (k : Nat) (hk : 1 ≤ k) : paging_Walk.j1 k m va at_ w nd 0 0 c = some (if Go.bits .and .u32 w nd = nd ∧ byt w 1 < pagesv m then (byt w 1 * 128 + va % 128, at_, 0) else (0, 0, c)) := by
  obtain ⟨k, rfl⟩ : ∃ q, k = q + 1 := ⟨k - 1, by omega⟩
  have hb := byt_range w 1
  simp only [paging_Walk.j1]
  by_cases h : Go.bits .and .u32 w nd = nd
  · rw [if_pos h, Frame_eq w hw, bs, page_eq m _ (by omega), bs]
    by_cases h2 : byt w 1 < pagesv m
    · have e1 : (byt w 1 * 128 + Int.tmod va 128) % 4294967296 = byt w 1 * 128 + va % 128 := by rw [Int.tmod_eq_emod_of_nonneg hva]; omega
      rw [if_pos (decide_eq_true h2), bs, e1, if_pos ⟨h, h2⟩]
    · rw [if_neg (by simpa using h2), if_neg (fun h' => h2 h'.2)]
  · rw [if_neg h, if_neg (fun h' => h h'.1)]
theorem Walk_eq (m : List Int) (hw : Ws m) (r va a : Int) (hr : 0 ≤ r ∧ r ≤ 4294967295) (hva : 0 ≤ va) (k : Nat) (hk : 4 ≤ k) : paging_Walk.f k m r va a = some (walkv m r va a) := by
  obtain ⟨k, rfl⟩ : ∃ q, k = q + 1 := ⟨k - 1, by omega⟩
  have hp := pagesv_le m
  have ht : ∀ q, paging_Walk.j0 (q + 1) m r va a true 0 0 (causev a) = some (0, 0, causev a) := by
    intro q; simp only [paging_Walk.j0]; rw [if_pos (by trivial)]
  unfold paging_Walk.f walkv
  rw [Cause_eq, bs]
  by_cases h1 : a < 1
  · rw [if_pos h1, if_neg (by omega), ht]
  · rw [if_neg h1]
    by_cases h2 : a > 3
    · rw [if_pos h2, if_neg (by omega), ht]
    · rw [if_neg h2]
      by_cases h3 : va ≥ 4096
      · rw [if_pos h3, if_neg (by omega), ht]
      · rw [if_neg h3, page_eq m r hr, bs]
        by_cases h4 : r < pagesv m
        · rw [if_pos (by omega), decide_eq_true h4]
          simp only [paging_Walk.j0]
          have e1 : Int.tdiv va 128 % 4294967296 = va / 128 := by rw [Int.tdiv_eq_ediv_of_nonneg hva]; omega
          have e2 : paging_Entry.f r (va / 128) = some (r * 128 + 4 * (va / 128)) := by unfold paging_Entry.f; congr 1; omega
          have e3 : memory_Load.f m (r * 128 + 4 * (va / 128)) 4 = some (rd m (r * 32 + va / 128), true) := by
            rw [Load_eq m hw _ 4 (by omega)]
            unfold loadv
            rw [if_pos ⟨.inr rfl, by omega, by omega⟩]
            unfold getw
            rw [if_neg (by decide)]
            congr 3; omega
          rw [if_neg (by simp), e1, e2, bs, e3, bs]
          have hwd := hw.at_ (r * 32 + va / 128)
          by_cases ha1 : a = 1
          · subst ha1
            have en : Go.bits .or .u32 1 4 = need 1 := by decide +kernel
            rw [if_pos rfl, en, Walk_j1 m va _ _ _ _ hwd hva k (by omega)]; rfl
          · rw [if_neg ha1]
            by_cases ha3 : a = 3
            · subst ha3
              have en : Go.bits .or .u32 1 2 = need 3 := by decide +kernel
              rw [if_pos rfl, en, Walk_j1 m va _ _ _ _ hwd hva k (by omega)]; rfl
            · have en : (1 : Int) = need a := by unfold need; rw [if_neg ha1, if_neg ha3]
              rw [if_neg ha3]
              exact (congrArg (fun z => paging_Walk.j1 k m va (r * 128 + 4 * (va / 128)) (rd m (r * 32 + va / 128)) z 0 0 (causev a)) en).trans (Walk_j1 m va _ _ _ _ hwd hva k (by omega))
        · rw [if_neg (fun h => h4 h.2.2.2), decide_eq_false h4]
          exact ht k
theorem walkv_cause (m : List Int) (r va a : Int) : (walkv m r va a).2.2 = 0 ∨ (walkv m r va a) = (0, 0, causev a) := by
  unfold walkv
  split
  · split
    · exact .inl rfl
    · exact .inr rfl
  · exact .inr rfl

theorem awake5 (k : Nat) (hk : 10 ≤ k) : vmfleetlaw5_awake.f k = some true := at_rounds (g := fun k => vmfleetlaw5_awake.f k) (fun k => vmfleetlaw5_awake.mono k) hk (by kernel_rfl)

theorem ent_byt : ∀ (f : Fin 8) (g : Fin 32), byt (entv (f.val : Int) (g.val : Int)) 1 = (f.val : Int) := by decide +kernel
theorem ent_may1 : ∀ (f : Fin 8) (g : Fin 32), may (entv (f.val : Int) (g.val : Int)) 1 ↔ (¬ Go.bits .and .u32 (g.val : Int) 1 = 0) ∧ (¬ Go.bits .and .u32 (g.val : Int) 4 = 0) := by decide +kernel
theorem ent_may2 : ∀ (f : Fin 8) (g : Fin 32), may (entv (f.val : Int) (g.val : Int)) 2 ↔ (¬ Go.bits .and .u32 (g.val : Int) 1 = 0) := by decide +kernel
theorem ent_may3 : ∀ (f : Fin 8) (g : Fin 32), may (entv (f.val : Int) (g.val : Int)) 3 ↔ (¬ Go.bits .and .u32 (g.val : Int) 1 = 0) ∧ (¬ Go.bits .and .u32 (g.val : Int) 2 = 0) := by decide +kernel
theorem ent_may (f g c : Int) (hf : 0 ≤ f ∧ f < 8) (hg : 0 ≤ g ∧ g < 32) (hc : 1 ≤ c ∧ c ≤ 3) : may (entv f g) c ↔ (¬ Go.bits .and .u32 g 1 = 0) ∧ (c = 3 → ¬ Go.bits .and .u32 g 2 = 0) ∧ (c = 1 → ¬ Go.bits .and .u32 g 4 = 0) := by
  obtain ⟨f', rfl⟩ : ∃ q : Fin 8, f = (q.val : Int) := ⟨⟨f.toNat, by omega⟩, by simp only; omega⟩
  obtain ⟨g', rfl⟩ : ∃ q : Fin 32, g = (q.val : Int) := ⟨⟨g.toNat, by omega⟩, by simp only; omega⟩
  obtain rfl | rfl | rfl : c = 1 ∨ c = 2 ∨ c = 3 := by omega
  · rw [ent_may1 f' g']; exact ⟨fun h => ⟨h.1, fun h3 => absurd h3 (by decide), fun _ => h.2⟩, fun h => ⟨h.1, h.2.2 rfl⟩⟩
  · rw [ent_may2 f' g']; exact ⟨fun h => ⟨h, fun h3 => absurd h3 (by decide), fun h3 => absurd h3 (by decide)⟩, fun h => h.1⟩
  · rw [ent_may3 f' g']; exact ⟨fun h => ⟨h.1, fun _ => h.2, fun h3 => absurd h3 (by decide)⟩, fun h => ⟨h.1, h.2.1 rfl⟩⟩
theorem PagingLeads : vmfleetlaw5_PagingLeads.Pure := by
  intro l p r pg fr fl off acc h0 h1 h2 h3 h4 h5 h6 h7 h8 h9
  have b1 := bounds_u32 h4
  have b2 := bounds_u32 h5
  have b3 := bounds_u32 h6
  have b4' := bounds_u32 h7
  have b5 := bounds_u32 h8
  obtain ⟨m, n, em, lm, n1, n8, wm, pm⟩ := tables_ends l p (by unfold maxLen at h0; omega)
  have en : (n : Int) % 4294967296 = (n : Int) := by omega
  refine ⟨2000, ?_⟩
  unfold vmfleetlaw5_PagingLeads.f
  have m1 := Int.emod_nonneg r (show (n : Int) ≠ 0 by omega)
  have m2 := Int.emod_lt_of_pos r (show 0 < (n : Int) by omega)
  have m5 := Int.emod_nonneg fr (show (n : Int) ≠ 0 by omega)
  have m6 := Int.emod_lt_of_pos fr (show 0 < (n : Int) by omega)
  have e0 : wrap64 (1 + acc % 3) = 1 + acc % 3 := w64 (by omega) (by omega)
  rw [em 2000 (by omega), bs, rPages_eq, bs, pm, en, if_neg (by omega), Round_eq acc 3 (by omega) (by omega), bs, Int.tmod_eq_emod_of_nonneg b1.1, Int.tmod_eq_emod_of_nonneg b2.1, Int.tmod_eq_emod_of_nonneg b3.1, Int.tmod_eq_emod_of_nonneg b4'.1, Int.tmod_eq_emod_of_nonneg b5.1, e0]
  have hc : 1 ≤ 1 + acc % 3 ∧ 1 + acc % 3 ≤ 3 := by omega
  have hg : 0 ≤ fl % 32 ∧ fl % 32 < 32 := by omega
  have ho : 0 ≤ off % 128 ∧ off % 128 < 128 := by omega
  have hq : 0 ≤ pg % 32 ∧ pg % 32 < 32 := by omega
  generalize 1 + acc % 3 = c at *
  generalize fl % 32 = g at *
  generalize off % 128 = o at *
  generalize pg % 32 = q at *
  generalize r % (n : Int) = r at *
  generalize fr % (n : Int) = f at *
  have hv := entv_word f g (by omega)
  have ea : (128 * q + o) % 4294967296 = 128 * q + o := by omega
  have eb : (128 * f + o) % 4294967296 = 128 * f + o := by omega
  have ec : (128 * r + 4 * q) % 4294967296 = 128 * r + 4 * q := by omega
  have hok : (r < pagesv m ∧ f < pagesv m) ∧ q < 32 ∧ g ≤ 31 := by omega
  rw [Map_eq m wm r q f g (by omega) (by omega) (by omega) (by omega) (by omega), bs, if_pos hok, ea, eb, ec]
  dsimp only
  have hpg : pagesv (m.set (r * 32 + q).toNat (entv f g)) = n := by rw [← pm]; exact pagesv_congr (by simp)
  have hby : byt (entv f g) 1 = f := by
    obtain ⟨f', rfl⟩ : ∃ q : Fin 8, f = (q.val : Int) := ⟨⟨f.toNat, by omega⟩, by simp only; omega⟩
    obtain ⟨g', rfl⟩ : ∃ q : Fin 32, g = (q.val : Int) := ⟨⟨g.toNat, by omega⟩, by simp only; omega⟩
    exact ent_byt f' g'
  have hmay := ent_may f g c (by omega) hg hc
  have hwk : walkv (m.set (r * 32 + q).toNat (entv f g)) r (128 * q + o) c = if may (entv f g) c then (128 * f + o, 128 * r + 4 * q, 0) else (0, 0, causev c) := by
    have e1 : (128 * q + o) / 128 = q := by omega
    have e2 : (128 * q + o) % 128 = o := by omega
    unfold walkv
    rw [hpg, e1, e2, rd_set_eq m (r * 32 + q) _ (by omega) (by omega), hby, if_pos (by omega)]
    by_cases h : may (entv f g) c
    · rw [if_pos ⟨h, by omega⟩, if_pos h]
      have e3 : f * 128 + o = 128 * f + o := by omega
      have e4 : r * 128 + 4 * q = 128 * r + 4 * q := by omega
      rw [e3, e4]
    · rw [if_neg (fun h' => h h'.1), if_neg h]
  rw [Walk_eq _ (wm.set _ hv) r _ c (by omega) (by omega) 2000 (by omega), bs, hwk, awake5 2000 (by omega)]
  simp only [bs]
  have hcn := causev_ne c
  generalize causev c = z at *
  generalize Go.bits .and .u32 g 1 = A1 at *
  generalize Go.bits .and .u32 g 2 = A2 at *
  generalize Go.bits .and .u32 g 4 = A4 at *
  generalize 128 * f + o = X at *
  generalize 128 * r + 4 * q = Y at *
  by_cases hm : may (entv f g) c
  · have h' := hmay.1 hm
    obtain ⟨k1, k2, k3⟩ := h'
    rw [if_pos hm, if_neg k1]
    by_cases hc3 : c = 3
    · have k2' := k2 hc3
      simp [hc3, k2']
    · by_cases hc1 : c = 1
      · have k3' := k3 hc1
        simp [hc1, k3']
      · simp [hc1, hc3]
  · have h' : ¬ (¬A1 = 0 ∧ (c = 3 → ¬A2 = 0) ∧ (c = 1 → ¬A4 = 0)) := fun h2 => hm (hmay.2 h2)
    rw [if_neg hm]
    by_cases k1 : A1 = 0
    · rw [if_pos k1]; simp [hcn]
    · rw [if_neg k1]
      by_cases hc3 : c = 3
      · have k2 : A2 = 0 := by
          by_cases k2 : A2 = 0
          · exact k2
          · exact absurd ⟨k1, fun _ => k2, fun h1 => absurd (hc3.symm.trans h1) (by decide)⟩ h'
        simp [hc3, k2, hcn]
      · by_cases hc1 : c = 1
        · have k4 : A4 = 0 := by
            by_cases k4 : A4 = 0
            · exact k4
            · exact absurd ⟨k1, fun h3 => absurd (hc1.symm.trans h3) (by decide), fun _ => k4⟩ h'
          simp [hc1, k4, hcn]
        · exact absurd ⟨k1, fun h3 => absurd h3 hc3, fun h1 => absurd h1 hc1⟩ h'

end Go.Proofs.Ytbijkhoeaddemaa.Pure
