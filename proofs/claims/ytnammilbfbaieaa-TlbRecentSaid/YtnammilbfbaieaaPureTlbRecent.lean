/- Proved: the buffer keeps the translations that were used most recently: MaxTlb different pages that are accessed in succession are all hits afterwards. Conditions: none. -/
import Derived.Test.YtnammilbfbaieaaHTlbRecentx1
import Derived.Test.YtnammilbfbaieaaHTlbRecentx2
import Derived.Test.YtnammilbfbaieaaHTlbRecentx3
import Derived.Test.YtnammilbfbaieaaHTlbRecentx4
import Derived.Test.YtnammilbfbaieaaHTlbRecentx5
import Derived.Test.YtnammilbfbaieaaHTlbRecentx6
import Derived.Test.YtnammilbfbaieaaHTlbRecentx7
import Derived.Test.YtnammilbfbaieaaBv
import Derived.Test.YtnammilbfbaieaaMem
namespace Go.Proofs.Ytnammilbfbaieaa.Pure
open Go.RowKit Go.Proofs.Ytnammilbfbaieaa.HTlbRecent Go.Proofs.YtnammilbfbaieaaW.PrintWords Go.Proofs.YtnammilbfbaieaaW.PrintLast Go.Proofs.Ytnammilbfbaieaa.Bv Go.Proofs.Ytnammilbfbaieaa.Mem
set_option linter.unusedVariables false
set_option linter.unusedSimpArgs false

/-- A bind of what is there. -/
theorem bs {α β : Type} (a : α) (f : α → Option β) : (some a).bind f = f a := rfl

theorem Idx_eq (t : List S49) (h : t.length ≤ 1000000000000) (p : Int) : api_TlbEntry_18.f t p = some (tlb_idx p t 0) := by unfold api_TlbEntry_18.f; rw [if_pos h]
/-- The place of a page: nowhere, or the place of an entry of that page. -/
theorem idx_spec (p : Int) : ∀ (t : List S49) (i : Nat), (tlb_idx p t i = -1 ∧ ∀ e ∈ t, e.f0 ≠ p) ∨ ∃ j : Nat, j < t.length ∧ tlb_idx p t i = ((i + j : Nat) : Int) ∧ (rd_T49 t (j : Int)).f0 = p ∧ t = t.take j ++ rd_T49 t (j : Int) :: t.drop (j + 1)
  | [], i => .inl ⟨rfl, fun e h => by cases h⟩
  | x :: xs, i => by
    by_cases h : x.f0 = p
    · exact .inr ⟨0, by simp, by unfold tlb_idx; rw [if_pos h]; rfl, h, rfl⟩
    · rcases idx_spec p xs (i + 1) with ⟨h1, h2⟩ | ⟨j, h1, h2, h3, h4⟩
      · refine .inl ⟨by unfold tlb_idx; rw [if_neg h]; exact h1, fun e he => ?_⟩
        rcases List.mem_cons.1 he with rfl | he
        · exact h
        · exact h2 e he
      · have e : rd_T49 (x :: xs) ((j + 1 : Nat) : Int) = rd_T49 xs (j : Int) := by unfold rd_T49; rw [Int.toNat_natCast, Int.toNat_natCast]; rfl
        refine .inr ⟨j + 1, by simpa using h1, by unfold tlb_idx; rw [if_neg h, h2]; congr 1; omega, by rw [e]; exact h3, ?_⟩
        rw [e, List.take_succ_cons, List.drop_succ_cons, List.cons_append, ← h4]

theorem CloneT_eq (t : List S49) (h : t.length ≤ 1000000000000) : api_TlbEntry_20.f t = some t := by unfold api_TlbEntry_20.f; rw [if_pos h]

theorem Front_eq (t : List S49) (ht : t.length ≤ 8) (j : Nat) (hj : j < t.length) : api_TlbEntry_21.f t (j : Int) = some (rd_T49 t (j : Int) :: (t.take j ++ t.drop (j + 1))) := by
  have e1 : wrap64 ((j : Int) + 1) = ((j + 1 : Nat) : Int) := w64n (by simp) (by omega)
  unfold api_TlbEntry_21.f
  rw [if_pos (by omega), if_pos (by omega), bs, if_pos (by omega), if_pos (by omega), bs, if_pos (by simp), bs, if_pos (by omega), bs, if_pos (by simp; omega), bs, e1, if_pos (by omega), if_pos (by omega), bs, if_pos (by simp; omega)]
  rw [Int.toNat_natCast, Int.toNat_natCast]
  simp

/-- Does the entry allow the access? -/
def allowed (e : S49) (a : Int) : Prop := a = 2 ∨ (a = 3 ∧ e.f2 = true) ∨ (a = 1 ∧ e.f3 = true)
instance (e : S49) (a : Int) : Decidable (allowed e a) := by unfold allowed; infer_instance
theorem Lookup_j0 (t : List S49) (ht : t.length ≤ 8) (j : Nat) (hj : j < t.length) (b : Bool) (k : Nat) (hk : 1 ≤ k) : tlb_Lookup.j0 k t (j : Int) b = some (if b = true then ((rd_T49 t (j : Int)).f1, rd_T49 t (j : Int) :: (t.take j ++ t.drop (j + 1)), true) else (0, t, false)) := by
  obtain ⟨k, rfl⟩ : ∃ q, k = q + 1 := ⟨k - 1, by omega⟩
  simp only [tlb_Lookup.j0]
  cases b with
  | true => rw [if_pos rfl, if_pos (by omega), if_pos (by omega), Front_eq t ht j hj, bs, if_pos rfl]
  | false => rw [if_neg Bool.false_ne_true, CloneT_eq t (by omega), bs, if_neg Bool.false_ne_true]
theorem Lookup_eq (t : List S49) (ht : t.length ≤ 8) (p a : Int) (k : Nat) (hk : 1 ≤ k) :
    ((∀ e ∈ t, e.f0 ≠ p) ∧ tlb_Lookup.f k t p a = some (0, t, false)) ∨ ∃ j : Nat, j < t.length ∧ (rd_T49 t (j : Int)).f0 = p ∧ t = t.take j ++ rd_T49 t (j : Int) :: t.drop (j + 1) ∧
      tlb_Lookup.f k t p a = some (if allowed (rd_T49 t (j : Int)) a then ((rd_T49 t (j : Int)).f1, rd_T49 t (j : Int) :: (t.take j ++ t.drop (j + 1)), true) else (0, t, false)) := by
  unfold tlb_Lookup.f
  rw [Idx_eq t (by omega) p, bs]
  rcases idx_spec p t 0 with ⟨h1, h2⟩ | ⟨j, h1, h2, h3, h4⟩
  · refine .inl ⟨h2, ?_⟩
    rw [h1, if_pos (by decide), CloneT_eq t (by omega), bs]
  · refine .inr ⟨j, h1, h3, h4, ?_⟩
    rw [Nat.zero_add] at h2
    rw [h2, if_neg (by omega)]
    by_cases a2 : a = 2
    · rw [if_pos a2, Lookup_j0 t ht j h1 true k hk, if_pos rfl, if_pos (show allowed (rd_T49 t (j : Int)) a from Or.inl a2)]
    · rw [if_neg a2]
      by_cases a3 : a = 3
      · rw [if_pos a3, if_pos (by omega), if_pos (by omega), Lookup_j0 t ht j h1 _ k hk]
        congr 1
        by_cases h : (rd_T49 t (j : Int)).f2 = true
        · rw [if_pos h, if_pos (show allowed (rd_T49 t (j : Int)) a from Or.inr (Or.inl ⟨a3, h⟩))]
        · rw [if_neg h, if_neg (show ¬ allowed (rd_T49 t (j : Int)) a from fun h' => by rcases h' with h' | h' | h'; exact a2 h'; exact h h'.2; omega)]
      · rw [if_neg a3]
        by_cases a1 : a = 1
        · rw [if_pos a1, if_pos (by omega), if_pos (by omega), Lookup_j0 t ht j h1 _ k hk]
          congr 1
          by_cases h : (rd_T49 t (j : Int)).f3 = true
          · rw [if_pos h, if_pos (show allowed (rd_T49 t (j : Int)) a from Or.inr (Or.inr ⟨a1, h⟩))]
          · rw [if_neg h, if_neg (show ¬ allowed (rd_T49 t (j : Int)) a from fun h' => by rcases h' with h' | h' | h'; exact a2 h'; omega; exact h h'.2)]
        · rw [if_neg a1, Lookup_j0 t ht j h1 false k hk, if_neg Bool.false_ne_true, if_neg (show ¬ allowed (rd_T49 t (j : Int)) a from fun h' => by rcases h' with h' | h' | h'; exact a2 h'; exact a3 h'.1; exact a1 h'.1)]

def causev (a : Int) : Int := if a = 1 then 4 else if a = 3 then 6 else 5
theorem Cause_eq (a : Int) : paging_Cause.f a = some (causev a) := by
  unfold paging_Cause.f causev
  split
  · rfl
  · split <;> rfl
theorem causev_ne (a : Int) : causev a ≠ 0 := by
  unfold causev
  split
  · decide
  · split <;> decide

theorem Pages_eq (l : List Int) : memory_Pages.f l = some (pagesv l) := by
  unfold memory_Pages.f pagesv
  by_cases h : (l.length : Int) % 32 = 0
  · rw [if_pos h]
    by_cases h2 : (l.length : Int) > 1024
    · rw [if_pos h2, if_neg (by omega)]
    · rw [if_neg h2, if_pos (by omega), w64 (by omega) (by omega)]; simp
  · rw [if_neg h, if_neg (by omega)]

theorem page_eq (m : List Int) (a : Int) (ha : 0 ≤ a ∧ a ≤ 4294967295) : paging_page.f m a = some (decide (a < pagesv m)) := by
  have hp := pagesv_le m
  unfold paging_page.f
  rw [Pages_eq, bs, u64w (by omega) (by omega), u64w (by omega) (by omega)]

theorem within_eq (l : List Int) (a s : Int) (ha : 0 ≤ a ∧ a ≤ 4294967295) : memory_within.f l a s = some (decide (withinv l a s)) := by
  have hp := pagesv_le l
  have ea : IntKind.u64.wrap a = a := u64w (by omega) (by omega)
  have ep : IntKind.u64.wrap (wrap64 (pagesv l * 128)) = pagesv l * 128 := by rw [w64 (by omega) (by omega), u64w (by omega) (by omega)]
  unfold memory_within.f
  rw [Pages_eq]; rw [bs]; try dsimp only
  rw [ep, ea]
  by_cases h1 : s = 1
  · subst h1
    have e1 : Int.tmod a (1 % 4294967296) = a % 1 := Int.tmod_eq_emod_of_nonneg ha.1
    have e2 : IntKind.u64.wrap 1 = 1 := u64w (by omega) (by omega)
    have e3 : IntKind.u64.wrap (a + 1) = a + 1 := u64w (by omega) (by omega)
    rw [if_pos rfl, if_neg (by omega), e1, if_pos (by omega), e2, e3]
    exact congrArg some (decide_eq_decide.2 (by unfold withinv; omega))
  · rw [if_neg h1]
    by_cases h4 : s = 4
    · subst h4
      have e1 : Int.tmod a (4 % 4294967296) = a % 4 := Int.tmod_eq_emod_of_nonneg ha.1
      have e2 : IntKind.u64.wrap 4 = 4 := u64w (by omega) (by omega)
      have e3 : IntKind.u64.wrap (a + 4) = a + 4 := u64w (by omega) (by omega)
      rw [if_pos rfl, if_neg (by omega), e1]
      by_cases hm : a % 4 = 0
      · rw [if_pos hm, e2, e3]
        exact congrArg some (decide_eq_decide.2 (by unfold withinv; omega))
      · rw [if_neg hm]; exact congrArg some (decide_eq_false (by unfold withinv; omega)).symm
    · rw [if_neg h4]; exact congrArg some (decide_eq_false (by unfold withinv; omega)).symm

theorem outside_eq (low n : Int) : bits_outside.f low n = some (decide (low < 0 ∨ low > 31 ∨ n < 1)) := by
  unfold bits_outside.f
  by_cases h1 : low < 0
  · rw [if_pos h1]; simp [h1]
  · rw [if_neg h1]
    by_cases h2 : low > 31
    · rw [if_pos h2]; simp [h2]
    · rw [if_neg h2]; simp [h1]; omega

theorem mask_eq (n : Int) (h : 1 ≤ n) : bits_mask.f n = some (B (Mi n)) := by
  unfold bits_mask.f Mi
  split
  · rfl
  · rw [if_pos (by omega), mask_B n (by omega) (by omega)]

theorem Field_eq (x : BitVec 32) (low n : Int) : bits_Field.f (B x) low n = some (B (fieldv x low n)) := by
  unfold bits_Field.f fieldv
  rw [outside_eq]; rw [bs]; try dsimp only
  by_cases h : low < 0 ∨ low > 31 ∨ n < 1
  · rw [if_pos (by simpa using h), if_pos h]; rfl
  · rw [if_neg (by simpa using h), if_neg h, if_pos (by omega), mask_eq n (by omega)]; rw [bs]; try dsimp only
    rw [shr_B, and_B]

theorem Load_eq (l : List Int) (hw : Ws l) (a s : Int) (ha : 0 ≤ a ∧ a ≤ 4294967295) : memory_Load.f l a s = some (loadv l a s) := by
  unfold memory_Load.f loadv
  rw [within_eq l a s ha]; rw [bs]; try dsimp only
  by_cases h : withinv l a s
  · have hi := within_idx h ha.1
    have e1 : Int.tdiv a 4 % 4294967296 = a / 4 := by rw [Int.tdiv_eq_ediv_of_nonneg ha.1]; omega
    have e2a : wrap64 (Int.tmod a 4) = a % 4 := by rw [Int.tmod_eq_emod_of_nonneg ha.1]; exact w64 (by omega) (by omega)
    have e2 : wrap64 (8 * wrap64 (Int.tmod a 4)) = 8 * (a % 4) := by rw [e2a]; exact w64 (by omega) (by omega)
    rw [if_pos (decide_eq_true h), if_pos h, e1, e2, if_pos (by omega), if_pos hi.1]
    unfold getw
    by_cases hs : s = 1
    · rw [if_pos hs, if_pos hs, ← B_W (hw.at_ (a / 4)), Field_eq, W_B]; rfl
    · rw [if_neg hs, if_neg hs]
  · have : ¬ decide (withinv l a s) = true := by simpa using h
    rw [if_neg this, if_neg h]

theorem Frame_eq (w : Int) (hw : 0 ≤ w ∧ w ≤ 4294967295) : paging_Frame.f w = some (byt w 1) := by
  unfold paging_Frame.f
  have h := field_byte (W w) 1 (by omega)
  rw [B_W hw] at h
  have e : (8 : Int) * ((1 : Nat) : Int) = 8 := by decide
  rw [e] at h
  have hf : bits_Field.f w 8 8 = some (byt w 1) := by
    rw [← h]
    have := Field_eq (W w) 8 8
    rw [B_W hw] at this
    exact this
  rw [hf, bs]
theorem byt_range (w : Int) (j : Nat) : 0 ≤ byt w j ∧ byt w j ≤ 255 := by unfold byt; omega

def need (a : Int) : Int := if a = 1 then 5 else if a = 3 then 3 else 1
/-- May this entry be used so? -/
def may (w a : Int) : Prop := Go.bits .and .u32 w (need a) = need a
instance (w a : Int) : Decidable (may w a) := by unfold may; infer_instance
def walkv (m : List Int) (r va a : Int) : Int × Int × Int :=
  if 1 ≤ a ∧ a ≤ 3 ∧ va < 4096 ∧ r < pagesv m then
    (if may (rd m (r * 32 + va / 128)) a ∧ byt (rd m (r * 32 + va / 128)) 1 < pagesv m then (byt (rd m (r * 32 + va / 128)) 1 * 128 + va % 128, r * 128 + 4 * (va / 128), 0) else (0, 0, causev a))
  else (0, 0, causev a)
theorem Walk_j1 (m : List Int) (va at_ w nd c : Int) (hw : 0 ≤ w ∧ w ≤ 4294967295) (hva : 0 ≤ va) (k : Nat) (hk : 1 ≤ k) : paging_Walk.j1 k m va at_ w nd 0 0 c = some (if Go.bits .and .u32 w nd = nd ∧ byt w 1 < pagesv m then (byt w 1 * 128 + va % 128, at_, 0) else (0, 0, c)) := by
  obtain ⟨k, rfl⟩ : ∃ q, k = q + 1 := ⟨k - 1, by omega⟩
  have hb := byt_range w 1
  simp only [paging_Walk.j1]
  by_cases h : Go.bits .and .u32 w nd = nd
  · rw [if_pos h, Frame_eq w hw, bs, page_eq m _ (by omega), bs]
    by_cases h2 : byt w 1 < pagesv m
    · have e1 : (byt w 1 * 128 + Int.tmod va 128) % 4294967296 = byt w 1 * 128 + va % 128 := by rw [Int.tmod_eq_emod_of_nonneg hva]; omega
      rw [if_pos (decide_eq_true h2), bs, e1, if_pos ⟨h, h2⟩]
    · rw [if_neg (by simpa using h2), if_neg (fun h' => h2 h'.2)]
  · rw [if_neg h, if_neg (fun h' => h h'.1)]
theorem Walk_eq (m : List Int) (hw : Ws m) (r va a : Int) (hr : 0 ≤ r ∧ r ≤ 4294967295) (hva : 0 ≤ va) (k : Nat) (hk : 4 ≤ k) : paging_Walk.f k m r va a = some (walkv m r va a) := by
  obtain ⟨k, rfl⟩ : ∃ q, k = q + 1 := ⟨k - 1, by omega⟩
  have hp := pagesv_le m
  have ht : ∀ q, paging_Walk.j0 (q + 1) m r va a true 0 0 (causev a) = some (0, 0, causev a) := by
    intro q; simp only [paging_Walk.j0]; rw [if_pos (by trivial)]
  unfold paging_Walk.f walkv
  rw [Cause_eq, bs]
  by_cases h1 : a < 1
  · rw [if_pos h1, if_neg (by omega), ht]
  · rw [if_neg h1]
    by_cases h2 : a > 3
    · rw [if_pos h2, if_neg (by omega), ht]
    · rw [if_neg h2]
      by_cases h3 : va ≥ 4096
      · rw [if_pos h3, if_neg (by omega), ht]
      · rw [if_neg h3, page_eq m r hr, bs]
        by_cases h4 : r < pagesv m
        · rw [if_pos (by omega), decide_eq_true h4]
          simp only [paging_Walk.j0]
          have e1 : Int.tdiv va 128 % 4294967296 = va / 128 := by rw [Int.tdiv_eq_ediv_of_nonneg hva]; omega
          have e2 : paging_Entry.f r (va / 128) = some (r * 128 + 4 * (va / 128)) := by unfold paging_Entry.f; congr 1; omega
          have e3 : memory_Load.f m (r * 128 + 4 * (va / 128)) 4 = some (rd m (r * 32 + va / 128), true) := by
            rw [Load_eq m hw _ 4 (by omega)]
            unfold loadv
            rw [if_pos ⟨.inr rfl, by omega, by omega⟩]
            unfold getw
            rw [if_neg (by decide)]
            congr 3; omega
          rw [if_neg (by simp), e1, e2, bs, e3, bs]
          have hwd := hw.at_ (r * 32 + va / 128)
          by_cases ha1 : a = 1
          · subst ha1
            have en : Go.bits .or .u32 1 4 = need 1 := by decide +kernel
            rw [if_pos rfl, en, Walk_j1 m va _ _ _ _ hwd hva k (by omega)]; rfl
          · rw [if_neg ha1]
            by_cases ha3 : a = 3
            · subst ha3
              have en : Go.bits .or .u32 1 2 = need 3 := by decide +kernel
              rw [if_pos rfl, en, Walk_j1 m va _ _ _ _ hwd hva k (by omega)]; rfl
            · have en : (1 : Int) = need a := by unfold need; rw [if_neg ha1, if_neg ha3]
              rw [if_neg ha3]
              exact (congrArg (fun z => paging_Walk.j1 k m va (r * 128 + 4 * (va / 128)) (rd m (r * 32 + va / 128)) z 0 0 (causev a)) en).trans (Walk_j1 m va _ _ _ _ hwd hva k (by omega))
        · rw [if_neg (fun h => h4 h.2.2.2), decide_eq_false h4]
          exact ht k
theorem walkv_cause (m : List Int) (r va a : Int) : (walkv m r va a).2.2 = 0 ∨ (walkv m r va a) = (0, 0, causev a) := by
  unfold walkv
  split
  · split
    · exact .inl rfl
    · exact .inr rfl
  · exact .inr rfl

theorem clone_eq (l : List Int) (h : l.length ≤ 70368744177664) : memory_clone.f l = some l := by unfold memory_clone.f; rw [if_pos h]

theorem SetField_eq (x : BitVec 32) (low n : Int) (v : BitVec 32) : bits_SetField.f (B x) low n (B v) = some (B (setv x low n v)) := by
  unfold bits_SetField.f setv
  rw [outside_eq]; rw [bs]; try dsimp only
  by_cases h : low < 0 ∨ low > 31 ∨ n < 1
  · rw [if_pos (by simpa using h), if_pos h]
  · rw [if_neg (by simpa using h), if_neg h, mask_eq n (by omega)]; rw [bs]; try dsimp only
    rw [if_pos (by omega), shl_B, shl_B, andNot_B, and_B, or_B]

theorem Store_eq (l : List Int) (hl : l.length ≤ 70368744177664) (hw : Ws l) (a s v : Int) (ha : 0 ≤ a ∧ a ≤ 4294967295) (hv : 0 ≤ v ∧ v ≤ 4294967295) : memory_Store.f l a s v = some (storev l a s v) := by
  unfold memory_Store.f storev
  rw [clone_eq l hl]; rw [bs]; try dsimp only
  rw [within_eq l a s ha]; rw [bs]; try dsimp only
  by_cases h : withinv l a s
  · have hi := within_idx h ha.1
    have e1 : Int.tdiv a 4 % 4294967296 = a / 4 := by rw [Int.tdiv_eq_ediv_of_nonneg ha.1]; omega
    have e2a : wrap64 (Int.tmod a 4) = a % 4 := by rw [Int.tmod_eq_emod_of_nonneg ha.1]; exact w64 (by omega) (by omega)
    have e2 : wrap64 (8 * wrap64 (Int.tmod a 4)) = 8 * (a % 4) := by rw [e2a]; exact w64 (by omega) (by omega)
    rw [if_pos (decide_eq_true h), if_pos h, e1, e2]
    unfold put
    by_cases hs : s = 1
    · rw [if_pos hs, if_pos (by omega), if_pos hi.1, if_pos hs, ← B_W (hw.at_ (a / 4))]
      conv => lhs; rw [← B_W hv]
      rw [SetField_eq]; rw [bs]; try dsimp only
      rw [if_pos hi.1, W_B]
    · rw [if_neg hs, if_pos (by omega), if_pos hi.1, if_neg hs]
  · have : ¬ decide (withinv l a s) = true := by simpa using h
    rw [if_neg this, if_neg h]

theorem or_keeps (y c d : BitVec 32) (h : c &&& d = 0) : (y ||| c) &&& d = y &&& d := by
  apply BitVec.eq_of_getLsbD_eq
  intro i hi
  have := congrArg (fun z => BitVec.getLsbD z i) h
  simp only [BitVec.getLsbD_and, BitVec.getLsbD_or] at this ⊢
  cases hc : c.getLsbD i <;> cases hd : d.getLsbD i <;> simp_all
theorem may_or (w c a : Int) (hw : 0 ≤ w ∧ w ≤ 4294967295) (hc : c = 8 ∨ c = 16) : may (Go.bits .or .u32 w c) a ↔ may w a := by
  unfold may
  have hn : 0 ≤ need a ∧ need a ≤ 4294967295 := by
    unfold need
    split
    · omega
    · split <;> omega
  have hcw : 0 ≤ c ∧ c ≤ 4294967295 := by omega
  have hz : W c &&& W (need a) = 0 := by
    unfold need
    rcases hc with rfl | rfl
    · split
      · decide +kernel
      · split <;> decide +kernel
    · split
      · decide +kernel
      · split <;> decide +kernel
  have e : Go.bits .and .u32 (Go.bits .or .u32 w c) (need a) = Go.bits .and .u32 w (need a) := by
    rw [← B_W hw, ← B_W hcw, ← B_W hn, or_B, and_B, and_B, or_keeps _ _ _ hz]
  rw [e]
theorem byt_or (w c : Int) (hw : 0 ≤ w ∧ w ≤ 4294967295) (hc : c = 8 ∨ c = 16) : byt (Go.bits .or .u32 w c) 1 = byt w 1 := by
  have hcw : 0 ≤ c ∧ c ≤ 4294967295 := by omega
  have e : Go.bits .or .u32 w c = B (W w ||| W c) := by rw [← or_B, B_W hw, B_W hcw]
  rw [e]
  conv => rhs; rw [← B_W hw]
  rw [← field_byte _ 1 (by omega), ← field_byte _ 1 (by omega)]
  congr 1
  unfold fieldv
  rw [if_neg (by omega), if_neg (by omega), BitVec.ushiftRight_or_distrib]
  have hz : W c >>> (8 * ((1 : Nat) : Int)).toNat = 0 := by rcases hc with rfl | rfl <;> decide +kernel
  rw [hz]; simp
/-- The entry, its use recorded. -/
def tw (w a : Int) : Int := if a = 3 then Go.bits .or .u32 (Go.bits .or .u32 w 8) 16 else Go.bits .or .u32 w 8
theorem tw_word (w a : Int) (hw : 0 ≤ w ∧ w ≤ 4294967295) : 0 ≤ tw w a ∧ tw w a ≤ 4294967295 := by
  unfold tw
  have h1 := or_word w 8 hw (by omega)
  split
  · exact or_word _ 16 h1 (by omega)
  · exact h1
theorem tw_may (w a c : Int) (hw : 0 ≤ w ∧ w ≤ 4294967295) : may (tw w a) c ↔ may w c := by
  unfold tw
  have h1 := or_word w 8 hw (by omega)
  split
  · rw [may_or _ 16 c h1 (.inr rfl), may_or _ 8 c hw (.inl rfl)]
  · rw [may_or _ 8 c hw (.inl rfl)]
theorem tw_byt (w a : Int) (hw : 0 ≤ w ∧ w ≤ 4294967295) : byt (tw w a) 1 = byt w 1 := by
  unfold tw
  have h1 := or_word w 8 hw (by omega)
  split
  · rw [byt_or _ 16 h1 (.inr rfl), byt_or _ 8 hw (.inl rfl)]
  · rw [byt_or _ 8 hw (.inl rfl)]
theorem tw_tw (w a : Int) (hw : 0 ≤ w ∧ w ≤ 4294967295) : tw (tw w a) a = tw w a := by
  have e8 : (8 : Int) = B (W 8) := by rw [B_W (by omega)]
  have e16 : (16 : Int) = B (W 16) := by rw [B_W (by omega)]
  unfold tw
  split
  · rw [← B_W hw, e8, e16]
    rw [or_B, or_B, or_B, or_B]
    congr 1
    apply BitVec.eq_of_getLsbD_eq
    intro i hi
    simp only [BitVec.getLsbD_or]
    generalize (W w).getLsbD i = x
    generalize (W 8).getLsbD i = y
    generalize (W 16).getLsbD i = z
    cases x <;> cases y <;> cases z <;> rfl
  · rw [← B_W hw, e8]
    rw [or_B, or_B]
    congr 1
    apply BitVec.eq_of_getLsbD_eq
    intro i hi
    simp only [BitVec.getLsbD_or]
    generalize (W w).getLsbD i = x
    generalize (W 8).getLsbD i = y
    cases x <;> cases y <;> rfl
def touchv (m : List Int) (e a : Int) : List Int := if e % 4 = 0 ∧ e + 4 ≤ pagesv m * 128 then m.set (e / 4).toNat (tw (rd m (e / 4)) a) else m
theorem Touch_eq (m : List Int) (hw : Ws m) (hl : m.length ≤ 70368744177664) (e a : Int) (he : 0 ≤ e ∧ e ≤ 4294967295) : paging_Touch.f m e a = some (touchv m e a) := by
  unfold paging_Touch.f touchv
  rw [Load_eq m hw e 4 he, bs]
  by_cases h : withinv m e 4
  · have hl4 : loadv m e 4 = (rd m (e / 4), true) := by
      unfold loadv getw
      rw [if_pos h, if_neg (by decide)]
    have hwd := hw.at_ (e / 4)
    have hst : ∀ v, 0 ≤ v ∧ v ≤ 4294967295 → memory_Store.f m e 4 v = some (m.set (e / 4).toNat v, true) := by
      intro v hv
      rw [Store_eq m hl hw e 4 v he hv]
      unfold storev put
      rw [if_pos h, if_neg (by decide)]
    have h1 := or_word _ 8 hwd (by omega)
    have h2 := or_word _ 16 h1 (by omega)
    have hc : e % 4 = 0 ∧ e + 4 ≤ pagesv m * 128 := ⟨h.2.1, h.2.2⟩
    rw [hl4, if_pos hc]
    dsimp only
    unfold tw
    by_cases h3 : a = 3
    · rw [if_pos h3, if_pos h3, hst _ h2, bs]
    · rw [if_neg h3, if_neg h3, hst _ h1, bs]
  · have hl4 : loadv m e 4 = (0, false) := by unfold loadv; rw [if_neg h]
    have hst : ∀ v, 0 ≤ v ∧ v ≤ 4294967295 → memory_Store.f m e 4 v = some (m, false) := by
      intro v hv
      rw [Store_eq m hl hw e 4 v he hv]
      unfold storev
      rw [if_neg h]
    have h1 := or_word 0 8 (by omega) (by omega)
    have h2 := or_word _ 16 h1 (by omega)
    have hc : ¬ (e % 4 = 0 ∧ e + 4 ≤ pagesv m * 128) := fun h' => h ⟨.inr rfl, h'.1, h'.2⟩
    rw [hl4, if_neg hc]
    dsimp only
    by_cases h3 : a = 3
    · rw [if_pos h3, hst _ h2, bs]
    · rw [if_neg h3, hst _ h1, bs]
theorem touchv_len (m : List Int) (e a : Int) : (touchv m e a).length = m.length := by unfold touchv; split <;> simp
theorem touchv_ws (m : List Int) (hw : Ws m) (e a : Int) : Ws (touchv m e a) := by
  unfold touchv
  split
  · exact hw.set _ (tw_word _ a (hw.at_ _))
  · exact hw
theorem rd_touch (m : List Int) (hw : Ws m) (e a i : Int) (he : 0 ≤ e) (hi : 0 ≤ i) : rd (touchv m e a) i = rd m i ∨ rd (touchv m e a) i = tw (rd m i) a := by
  have hp := pagesv_le m
  unfold touchv
  split
  · rename_i h
    by_cases hj : e / 4 = i
    · right; rw [← hj]; exact rd_set_eq m _ _ (by omega) (by omega)
    · left; exact rd_set_ne m _ i _ (by omega) hi hj
  · exact .inl rfl
theorem touch_walk (m : List Int) (hw : Ws m) (e a r va c : Int) (he : 0 ≤ e) (hr : 0 ≤ r) (hva : 0 ≤ va) : walkv (touchv m e a) r va c = walkv m r va c := by
  have hpg : pagesv (touchv m e a) = pagesv m := pagesv_congr (touchv_len m e a)
  have hwd := hw.at_ (r * 32 + va / 128)
  unfold walkv
  rw [hpg]
  rcases rd_touch m hw e a (r * 32 + va / 128) he (by omega) with h | h
  · rw [h]
  · rw [h, tw_byt _ a hwd]
    by_cases h2 : may (rd m (r * 32 + va / 128)) c
    · have h3 := (tw_may _ a c hwd).2 h2
      simp only [h2, h3]
    · have h3 : ¬ may (tw (rd m (r * 32 + va / 128)) a) c := fun h4 => h2 ((tw_may _ a c hwd).1 h4)
      simp only [h2, h3]
theorem touchv_of (m : List Int) (e a : Int) (h : e % 4 = 0 ∧ e + 4 ≤ pagesv m * 128) : touchv m e a = m.set (e / 4).toNat (tw (rd m (e / 4)) a) := by unfold touchv; rw [if_pos h]
theorem touch_touch (m : List Int) (hw : Ws m) (e a : Int) (he : 0 ≤ e) : touchv (touchv m e a) e a = touchv m e a := by
  have hp := pagesv_le m
  have hpg : pagesv (touchv m e a) = pagesv m := pagesv_congr (touchv_len m e a)
  by_cases h : e % 4 = 0 ∧ e + 4 ≤ pagesv m * 128
  · have h1 : touchv m e a = m.set (e / 4).toNat (tw (rd m (e / 4)) a) := by unfold touchv; rw [if_pos h]
    have h2 := touchv_of (touchv m e a) e a (by rw [hpg]; exact h)
    rw [h2, h1, rd_set_eq m (e / 4) _ (by omega) (by omega), tw_tw _ a (hw.at_ _), List.set_set]
  · have h1 : touchv m e a = m := by unfold touchv; rw [if_neg h]
    rw [h1, h1]

theorem CloneU_eq (l : List Int) (h : l.length ≤ 1000000000000) : slices_Clone_uint32_uint32.f l = some l := by unfold slices_Clone_uint32_uint32.f; rw [if_pos h]

theorem Entry4 (m : List Int) (hw : Ws m) (r p : Int) (hr : 0 ≤ r ∧ r < pagesv m) (hp : 0 ≤ p ∧ p < 32) : tlb_entry.f m (r * 128 + 4 * p) = some (rd m (r * 32 + p)) := by
  have hpg := pagesv_le m
  unfold tlb_entry.f
  have e3 : memory_Load.f m (r * 128 + 4 * p) 4 = some (rd m (r * 32 + p), true) := by
    rw [Load_eq m hw _ 4 (by omega)]
    unfold loadv
    rw [if_pos ⟨.inr rfl, by omega, by omega⟩]
    unfold getw
    rw [if_neg (by decide)]
    congr 3; omega
  rw [e3, bs]
theorem PEntry (r p : Int) (hr : 0 ≤ r ∧ r ≤ 4294967) (hp : 0 ≤ p ∧ p < 32) : paging_Entry.f r p = some (r * 128 + 4 * p) := by unfold paging_Entry.f; congr 1; omega

/-- All bits of a mask are set. -/
def has (w c : Int) : Prop := Go.bits .and .u32 w c = c
instance (w c : Int) : Decidable (has w c) := by unfold has; infer_instance
theorem all_eq (w c : Int) : tlb_all.f w c = some (decide (has w c)) := by
  unfold tlb_all.f has
  by_cases h : Go.bits .and .u32 w c = c
  · exact congrArg some ((beq_iff_eq.2 h).trans (decide_eq_true h).symm)
  · exact congrArg some ((beq_eq_false_iff_ne.2 h).trans (decide_eq_false h).symm)
theorem has_W {w c : Int} (hw : 0 ≤ w ∧ w ≤ 4294967295) (hc : 0 ≤ c ∧ c ≤ 4294967295) : has w c ↔ W w &&& W c = W c := by
  unfold has
  rw [← B_W hw, ← B_W hc, and_B, W_B, W_B]
  exact ⟨fun h => by have := congrArg W h; rwa [W_B, W_B] at this, fun h => by rw [h]⟩
theorem has_sub {w c d : Int} (hw : 0 ≤ w ∧ w ≤ 4294967295) (hc : 0 ≤ c ∧ c ≤ 4294967295) (hd : 0 ≤ d ∧ d ≤ 4294967295) (h : W c &&& W d = W d) (h1 : has w c) : has w d := by
  rw [has_W hw hc] at h1
  rw [has_W hw hd, ← h, ← BitVec.and_assoc, h1]
theorem has_both {w c d e : Int} (hw : 0 ≤ w ∧ w ≤ 4294967295) (hc : 0 ≤ c ∧ c ≤ 4294967295) (hd : 0 ≤ d ∧ d ≤ 4294967295) (he : 0 ≤ e ∧ e ≤ 4294967295) (h : W c ||| W d = W e) (h1 : has w c) (h2 : has w d) : has w e := by
  rw [has_W hw hc] at h1
  rw [has_W hw hd] at h2
  rw [has_W hw he, ← h, BitVec.and_or_distrib_left, h1, h2]
theorem has_or {w x c : Int} (hw : 0 ≤ w ∧ w ≤ 4294967295) (hx : 0 ≤ x ∧ x ≤ 4294967295) (hc : 0 ≤ c ∧ c ≤ 4294967295) (h : has w c) : has (Go.bits .or .u32 w x) c := by
  rw [has_W hw hc] at h
  rw [has_W (or_word w x hw hx) hc]
  have e : Go.bits .or .u32 w x = B (W w ||| W x) := by rw [← or_B, B_W hw, B_W hx]
  rw [e, W_B]
  apply BitVec.eq_of_getLsbD_eq
  intro i hi
  have := congrArg (fun z => BitVec.getLsbD z i) h
  simp only [BitVec.getLsbD_and, BitVec.getLsbD_or] at this ⊢
  cases ha : (W w).getLsbD i <;> cases hb : (W c).getLsbD i <;> cases hd : (W x).getLsbD i <;> simp_all
theorem has_or_self {w c : Int} (hw : 0 ≤ w ∧ w ≤ 4294967295) (hc : 0 ≤ c ∧ c ≤ 4294967295) : has (Go.bits .or .u32 w c) c := by
  rw [has_W (or_word w c hw hc) hc]
  have e : Go.bits .or .u32 w c = B (W w ||| W c) := by rw [← or_B, B_W hw, B_W hc]
  rw [e, W_B]
  apply BitVec.eq_of_getLsbD_eq
  intro i hi
  simp only [BitVec.getLsbD_and, BitVec.getLsbD_or]
  cases (W w).getLsbD i <;> cases (W c).getLsbD i <;> rfl
theorem or_has {w c : Int} (hw : 0 ≤ w ∧ w ≤ 4294967295) (hc : 0 ≤ c ∧ c ≤ 4294967295) (h : has w c) : Go.bits .or .u32 w c = w := by
  rw [has_W hw hc] at h
  have e : Go.bits .or .u32 w c = B (W w ||| W c) := by rw [← or_B, B_W hw, B_W hc]
  rw [e]
  have e2 : W w ||| W c = W w := by
    apply BitVec.eq_of_getLsbD_eq
    intro i hi
    have := congrArg (fun z => BitVec.getLsbD z i) h
    simp only [BitVec.getLsbD_and, BitVec.getLsbD_or] at this ⊢
    cases ha : (W w).getLsbD i <;> cases hb : (W c).getLsbD i <;> simp_all
  rw [e2, B_W hw]
theorem tw_has {w a c : Int} (hw : 0 ≤ w ∧ w ≤ 4294967295) (hc : 0 ≤ c ∧ c ≤ 4294967295) (h : has w c) : has (tw w a) c := by
  unfold tw
  split
  · exact has_or (or_word w 8 hw (by omega)) (by omega) hc (has_or hw (by omega) hc h)
  · exact has_or hw (by omega) hc h
theorem tw_8 {w a : Int} (hw : 0 ≤ w ∧ w ≤ 4294967295) : has (tw w a) 8 := by
  unfold tw
  split
  · exact has_or (or_word w 8 hw (by omega)) (by omega) (by omega) (has_or_self hw (by omega))
  · exact has_or_self hw (by omega)
theorem tw_16 {w : Int} (hw : 0 ≤ w ∧ w ≤ 4294967295) : has (tw w 3) 16 := by
  unfold tw
  rw [if_pos rfl]
  exact has_or_self (or_word w 8 hw (by omega)) (by omega)
theorem tw_id {w a : Int} (hw : 0 ≤ w ∧ w ≤ 4294967295) (h8 : has w 8) (h16 : a = 3 → has w 16) : tw w a = w := by
  unfold tw
  split
  · rename_i h
    rw [or_has hw (by omega) h8, or_has hw (by omega) (h16 h)]
  · exact or_has hw (by omega) h8
theorem may_1 {w a : Int} (hw : 0 ≤ w ∧ w ≤ 4294967295) (h : may w a) : has w 1 := by
  have h : has w (need a) := h
  unfold need at h
  split at h
  · exact has_sub hw (by omega) (by omega) (by decide +kernel) h
  · split at h
    · exact has_sub hw (by omega) (by omega) (by decide +kernel) h
    · exact h

theorem Clip_eq (t : List S49) : api_TlbEntry_31.f t = some t := rfl

theorem Fill_from (m : List Int) (t : List S49) (ht : t.length ≤ 8) (c d e : Int) (x : S49) (n : Nat) : ∀ (i k : Nat) (l : List S49), i ≤ t.length → t.length - i = n → n < k → l.length + n ≤ 100 →
    tlb_Fill.l0 k m (x :: l) t (t.length : Int) (i : Int) c d e = some (c, d, e, (x :: (l ++ (t.drop i).filter (fun y => decide (¬ y.f0 = x.f0)))).take 8, m) := by
  induction n with
  | zero =>
    intro i k l h1 h2 h3 h4
    obtain ⟨k, rfl⟩ : ∃ q, k = q + 1 := ⟨k - 1, by omega⟩
    simp only [tlb_Fill.l0]
    have hm : mn (((x :: l).length : Nat) : Int) 8 = ((min (x :: l).length 8 : Nat) : Int) := by unfold mn; split <;> omega
    rw [if_neg (by omega), List.drop_of_length_le (by omega), hm, if_pos (by omega), if_pos (by omega), Int.toNat_natCast, Clip_eq, bs, List.filter_nil, List.append_nil]
    congr 5
    rw [List.take_eq_take_iff]; omega
  | succ n ih =>
    intro i k l h1 h2 h3 h4
    obtain ⟨k, rfl⟩ : ∃ q, k = q + 1 := ⟨k - 1, by omega⟩
    simp only [tlb_Fill.l0]
    have e1 : wrap64 ((i : Int) + 1) = ((i + 1 : Nat) : Int) := w64n (by simp) (by omega)
    have hi : i < t.length := by omega
    have hr : rd_T49 t (i : Int) = t[i] := by unfold rd_T49; rw [Int.toNat_natCast, List.getD_eq_getElem?_getD, List.getElem?_eq_getElem hi]; rfl
    have hx : rd_T49 (x :: l) 0 = x := rfl
    rw [if_pos (by omega), if_pos (by omega), if_pos (by omega), if_pos (by simp), e1, hx, hr, List.drop_eq_getElem_cons hi, List.filter_cons]
    by_cases h : t[i].f0 = x.f0
    · rw [if_pos h, ih (i + 1) k l (by omega) (by omega) (by omega) (by omega), if_neg (by simp [h])]
    · rw [if_neg h, if_pos (by simp; omega), List.cons_append, ih (i + 1) k _ (by omega) (by omega) (by omega) (by simp; omega), if_pos (by simpa using h), List.append_assoc]; rfl
/-- The entry that a walk gives. -/
def newE (m : List Int) (r va a : Int) : S49 := ⟨va / 128, byt (rd m (r * 32 + va / 128)) 1, decide (has (tw (rd m (r * 32 + va / 128)) a) 18), decide (has (tw (rd m (r * 32 + va / 128)) a) 4)⟩
/-- Does the walk come to a frame? -/
def okw (m : List Int) (r va a : Int) : Prop := 1 ≤ a ∧ a ≤ 3 ∧ va < 4096 ∧ r < pagesv m ∧ may (rd m (r * 32 + va / 128)) a ∧ byt (rd m (r * 32 + va / 128)) 1 < pagesv m
instance (m : List Int) (r va a : Int) : Decidable (okw m r va a) := by unfold okw; infer_instance
theorem walkv_ok {m : List Int} {r va a : Int} (h : okw m r va a) : walkv m r va a = (byt (rd m (r * 32 + va / 128)) 1 * 128 + va % 128, r * 128 + 4 * (va / 128), 0) := by
  unfold walkv
  rw [if_pos ⟨h.1, h.2.1, h.2.2.1, h.2.2.2.1⟩, if_pos h.2.2.2.2]
theorem walkv_no {m : List Int} {r va a : Int} (h : ¬ okw m r va a) : walkv m r va a = (0, 0, causev a) := by
  unfold walkv
  split
  · rename_i h1
    rw [if_neg (fun h2 => h ⟨h1.1, h1.2.1, h1.2.2.1, h1.2.2.2, h2⟩)]
  · rfl
theorem touch_at (m : List Int) (r p a : Int) (hr : 0 ≤ r ∧ r < pagesv m) (hp : 0 ≤ p ∧ p < 32) : touchv m (r * 128 + 4 * p) a = m.set (r * 32 + p).toNat (tw (rd m (r * 32 + p)) a) := by
  have e : (r * 128 + 4 * p) / 4 = r * 32 + p := by omega
  rw [touchv_of m _ a ⟨by omega, by omega⟩, e]
def fillT (t : List S49) (m : List Int) (r va a : Int) : List S49 := if okw m r va a then (newE m r va a :: t.filter (fun y => decide (¬ y.f0 = va / 128))).take 8 else t
def fillM (m : List Int) (r va a : Int) : List Int := if okw m r va a then m.set (r * 32 + va / 128).toNat (tw (rd m (r * 32 + va / 128)) a) else m
theorem Fill_eq (t : List S49) (ht : t.length ≤ 8) (m : List Int) (hw : Ws m) (hl : m.length ≤ 1024) (r va a : Int) (hr : 0 ≤ r ∧ r ≤ 4294967295) (hva : 0 ≤ va ∧ va < 4096) (k : Nat) (hk : 20 ≤ k) :
    tlb_Fill.f k t m r va a = some ((walkv m r va a).1, (walkv m r va a).2.1, (walkv m r va a).2.2, fillT t m r va a, fillM m r va a) := by
  have hp := pagesv_le m
  unfold tlb_Fill.f fillT fillM
  rw [Walk_eq m hw r va a hr hva.1 k (by omega), bs]
  by_cases h : okw m r va a
  · have hb := byt_range (rd m (r * 32 + va / 128)) 1
    have hwd := hw.at_ (r * 32 + va / 128)
    have hrr : 0 ≤ r ∧ r < pagesv m := ⟨hr.1, h.2.2.2.1⟩
    have hpp : 0 ≤ va / 128 ∧ va / 128 < 32 := by omega
    have ex : (⟨Int.tdiv va 128 % 4294967296, Int.tdiv (byt (rd m (r * 32 + va / 128)) 1 * 128 + va % 128) 128 % 4294967296, decide (has (tw (rd m (r * 32 + va / 128)) a) 18), decide (has (tw (rd m (r * 32 + va / 128)) a) 4)⟩ : S49) = newE m r va a := by
      unfold newE
      congr 1
      · rw [Int.tdiv_eq_ediv_of_nonneg hva.1]; omega
      · rw [Int.tdiv_eq_ediv_of_nonneg (by omega)]; omega
    have hme : rd (m.set (r * 32 + va / 128).toNat (tw (rd m (r * 32 + va / 128)) a)) (r * 32 + va / 128) = tw (rd m (r * 32 + va / 128)) a := rd_set_eq m _ _ (by omega) (by omega)
    have hpg : pagesv (m.set (r * 32 + va / 128).toNat (tw (rd m (r * 32 + va / 128)) a)) = pagesv m := pagesv_congr (by simp)
    have hent := Entry4 (m.set (r * 32 + va / 128).toNat (tw (rd m (r * 32 + va / 128)) a)) (hw.set _ (tw_word _ a hwd)) r (va / 128) (by rw [hpg]; exact hrr) hpp
    rw [hme] at hent
    rw [walkv_ok h, if_pos h, if_pos h]
    dsimp only
    rw [if_pos rfl, Touch_eq m hw (by omega) _ a (by omega), bs, touch_at m r (va / 128) a hrr hpp, hent, bs, all_eq, bs, all_eq, bs, ex]
    have hf := Fill_from (m.set (r * 32 + va / 128).toNat (tw (rd m (r * 32 + va / 128)) a)) t ht (byt (rd m (r * 32 + va / 128)) 1 * 128 + va % 128) (r * 128 + 4 * (va / 128)) 0 (newE m r va a) t.length 0 k [] (by omega) (by omega) (by omega) (by simp; omega)
    rw [Int.natCast_zero, List.drop_zero, List.nil_append] at hf
    exact hf
  · rw [walkv_no h, if_neg h, if_neg h]
    dsimp only
    rw [if_neg (causev_ne a), CloneT_eq t (by omega), bs, CloneU_eq m (by omega), bs]

/-- An entry agrees with the page table. -/
def Agr (m : List Int) (r : Int) (e : S49) : Prop := (0 ≤ e.f0 ∧ e.f0 < 32) ∧ (0 ≤ e.f1 ∧ e.f1 < pagesv m) ∧ has (rd m (r * 32 + e.f0)) 9 ∧ byt (rd m (r * 32 + e.f0)) 1 = e.f1 ∧ (e.f2 = true → has (rd m (r * 32 + e.f0)) 18) ∧ (e.f3 = true → has (rd m (r * 32 + e.f0)) 4)
theorem Agrees_eq (m : List Int) (hw : Ws m) (r : Int) (hr : 0 ≤ r ∧ r < pagesv m) (e : S49) (h : Agr m r e) (k : Nat) (hk : 1 ≤ k) : tlb_Agrees.f k e.f0 e.f1 e.f2 e.f3 m r = some true := by
  obtain ⟨k, rfl⟩ : ∃ q, k = q + 1 := ⟨k - 1, by omega⟩
  obtain ⟨h0, h1, h9, hb, h2, h3⟩ := h
  have hp := pagesv_le m
  have hwd := hw.at_ (r * 32 + e.f0)
  unfold tlb_Agrees.f
  rw [Pages_eq, bs, if_neg (by omega), u64w (by omega) (by omega), u64w (by omega) (by omega), if_neg (by omega), u64w (by omega) (by omega), decide_eq_false (by omega)]
  simp only [tlb_Agrees.j0]
  rw [if_neg Bool.false_ne_true, PEntry r e.f0 (by omega) h0, bs, Entry4 m hw r e.f0 hr h0, bs, all_eq, bs, decide_eq_true h9, if_pos rfl, Frame_eq _ hwd, bs, hb, if_pos rfl]
  cases c2 : e.f2 with
  | true =>
    rw [if_pos rfl, all_eq, bs, decide_eq_true (h2 c2), if_pos rfl]
    cases c3 : e.f3 with
    | true => rw [if_pos rfl, all_eq, bs, decide_eq_true (h3 c3)]
    | false => rw [if_neg Bool.false_ne_true]
  | false =>
    rw [if_neg Bool.false_ne_true]
    cases c3 : e.f3 with
    | true => rw [if_pos rfl, all_eq, bs, decide_eq_true (h3 c3)]
    | false => rw [if_neg Bool.false_ne_true]

/-- The buffer is coherent. -/
def Inv (m : List Int) (r : Int) (t : List S49) : Prop := t.length ≤ 8 ∧ (∀ e ∈ t, Agr m r e) ∧ (t.map (·.f0)).Nodup
theorem Coh_go (m : List Int) (hw : Ws m) (r : Int) (hr : 0 ≤ r ∧ r < pagesv m) (k : Nat) (hk : 1 ≤ k) : ∀ (t : List S49) (seen : List Int), (∀ e ∈ t, Agr m r e) → (t.map (·.f0)).Nodup → (∀ e ∈ t, e.f0 ∉ seen) → tlb_Coherent.go k m r t seen = some true
  | [], _, _, _, _ => by simp only [tlb_Coherent.go]
  | x :: xs, seen, h1, h2, h3 => by
    have hx := h1 x (List.mem_cons_self ..)
    rw [List.map_cons, List.nodup_cons] at h2
    simp only [tlb_Coherent.go]
    rw [Agrees_eq m hw r hr x hx k hk, bs, if_pos rfl, if_pos hx.1, if_neg (h3 x (List.mem_cons_self ..))]
    refine Coh_go m hw r hr k hk xs (x.f0 :: seen) (fun e he => h1 e (List.mem_cons_of_mem _ he)) h2.2 (fun e he hc => ?_)
    rcases List.mem_cons.1 hc with h | h
    · exact h2.1 (h ▸ List.mem_map_of_mem he)
    · exact h3 e (List.mem_cons_of_mem _ he) h
theorem Coherent_eq (m : List Int) (hw : Ws m) (r : Int) (hr : 0 ≤ r ∧ r < pagesv m) (t : List S49) (h : Inv m r t) (k : Nat) (hk : 1 ≤ k) : tlb_Coherent.f k t m r = some true := by
  unfold tlb_Coherent.f
  rw [if_neg (by have := h.1; omega)]
  exact Coh_go m hw r hr k hk t [] h.2.1 h.2.2 (fun e _ hc => by cases hc)
/-- A hit's walk, and that its use is recorded already. -/
theorem hit_ok (m : List Int) (hw : Ws m) (r va a : Int) (hr : 0 ≤ r ∧ r < pagesv m) (hva : 0 ≤ va ∧ va < 4096) (e : S49) (h : Agr m r e) (hp : e.f0 = va / 128) (ha : allowed e a) :
    okw m r va a ∧ touchv m (r * 128 + 4 * (va / 128)) a = m := by
  obtain ⟨h0, h1, h9, hb, h2, h3⟩ := h
  rw [hp] at h0 h9 hb h2 h3
  have hwd := hw.at_ (r * 32 + va / 128)
  have hpg := pagesv_le m
  have w1 : has (rd m (r * 32 + va / 128)) 1 := has_sub hwd (by omega) (by omega) (by decide +kernel) h9
  have w8 : has (rd m (r * 32 + va / 128)) 8 := has_sub hwd (by omega) (by omega) (by decide +kernel) h9
  have hmay : 1 ≤ a ∧ a ≤ 3 ∧ may (rd m (r * 32 + va / 128)) a := by
    rcases ha with rfl | ⟨rfl, h⟩ | ⟨rfl, h⟩
    · exact ⟨by omega, by omega, w1⟩
    · have w2 : has (rd m (r * 32 + va / 128)) 2 := has_sub hwd (by omega) (by omega) (by decide +kernel) (h2 h)
      exact ⟨by omega, by omega, has_both hwd (c := 1) (d := 2) (e := 3) (by omega) (by omega) (by omega) (by decide +kernel) w1 w2⟩
    · exact ⟨by omega, by omega, has_both hwd (c := 1) (d := 4) (e := 5) (by omega) (by omega) (by omega) (by decide +kernel) w1 (h3 h)⟩
  refine ⟨⟨hmay.1, hmay.2.1, hva.2, hr.2, hmay.2.2, by rw [hb]; exact h1.2⟩, ?_⟩
  have htw : tw (rd m (r * 32 + va / 128)) a = rd m (r * 32 + va / 128) := by
    refine tw_id hwd w8 (fun h => ?_)
    rcases ha with rfl | ⟨rfl, h'⟩ | ⟨rfl, h'⟩
    · omega
    · exact has_sub hwd (by omega) (by omega) (by decide +kernel) (h2 h')
    · omega
  rw [touch_at m r (va / 128) a hr (by omega), htw]
  apply List.ext_getElem?
  intro i
  by_cases hi : (r * 32 + va / 128).toNat = i
  · subst hi
    rw [List.getElem?_set_self (by omega)]
    unfold rd
    rw [List.getD_eq_getElem?_getD, List.getElem?_eq_getElem (by omega)]; rfl
  · rw [List.getElem?_set_ne hi]
theorem Agr_set (m : List Int) (hw : Ws m) (r : Int) (hr : 0 ≤ r ∧ r < pagesv m) (q a : Int) (hq : 0 ≤ q ∧ q < 32) (e : S49) (h : Agr m r e) : Agr (m.set (r * 32 + q).toNat (tw (rd m (r * 32 + q)) a)) r e := by
  have hpg : pagesv (m.set (r * 32 + q).toNat (tw (rd m (r * 32 + q)) a)) = pagesv m := pagesv_congr (by simp)
  have hpl := pagesv_le m
  obtain ⟨h0, h1, h9, hb, h2, h3⟩ := h
  have hwd := hw.at_ (r * 32 + e.f0)
  unfold Agr
  rw [hpg]
  by_cases hj : q = e.f0
  · subst hj
    have e1 : rd (m.set (r * 32 + e.f0).toNat (tw (rd m (r * 32 + e.f0)) a)) (r * 32 + e.f0) = tw (rd m (r * 32 + e.f0)) a := rd_set_eq m _ _ (by omega) (by omega)
    rw [e1]
    exact ⟨h0, h1, tw_has hwd (by omega) h9, (tw_byt _ a hwd).trans hb, fun h => tw_has hwd (by omega) (h2 h), fun h => tw_has hwd (by omega) (h3 h)⟩
  · have e1 : rd (m.set (r * 32 + q).toNat (tw (rd m (r * 32 + q)) a)) (r * 32 + e.f0) = rd m (r * 32 + e.f0) := rd_set_ne m _ _ _ (by omega) (by omega) (by omega)
    rw [e1]
    exact ⟨h0, h1, h9, hb, h2, h3⟩
theorem Agr_new (m : List Int) (hw : Ws m) (r : Int) (hr : 0 ≤ r ∧ r < pagesv m) (va a : Int) (hva : 0 ≤ va ∧ va < 4096) (h : okw m r va a) : Agr (m.set (r * 32 + va / 128).toNat (tw (rd m (r * 32 + va / 128)) a)) r (newE m r va a) := by
  have hpg : pagesv (m.set (r * 32 + va / 128).toNat (tw (rd m (r * 32 + va / 128)) a)) = pagesv m := pagesv_congr (by simp)
  have hpl := pagesv_le m
  have hwd := hw.at_ (r * 32 + va / 128)
  have hb := byt_range (rd m (r * 32 + va / 128)) 1
  have e1 : rd (m.set (r * 32 + va / 128).toNat (tw (rd m (r * 32 + va / 128)) a)) (r * 32 + va / 128) = tw (rd m (r * 32 + va / 128)) a := rd_set_eq m _ _ (by omega) (by omega)
  unfold Agr newE
  dsimp only
  rw [hpg, e1]
  exact ⟨by omega, ⟨hb.1, h.2.2.2.2.2⟩, has_both (tw_word _ a hwd) (c := 1) (d := 8) (e := 9) (by omega) (by omega) (by omega) (by decide +kernel) (tw_has hwd (by omega) (may_1 hwd h.2.2.2.2.1)) (tw_8 hwd), tw_byt _ a hwd, of_decide_eq_true, of_decide_eq_true⟩
theorem Inv_fill (m : List Int) (hw : Ws m) (r : Int) (hr : 0 ≤ r ∧ r < pagesv m) (va a : Int) (hva : 0 ≤ va ∧ va < 4096) (t : List S49) (h : Inv m r t) : Inv (fillM m r va a) r (fillT t m r va a) := by
  unfold fillM fillT
  by_cases ho : okw m r va a
  · rw [if_pos ho, if_pos ho]
    have hnd : ((newE m r va a :: t.filter (fun y => decide (¬ y.f0 = va / 128))).map (·.f0)).Nodup := by
      rw [List.map_cons, List.nodup_cons]
      refine ⟨fun hm => ?_, ?_⟩
      · obtain ⟨y, hy, he⟩ := List.mem_map.1 hm
        have := (List.mem_filter.1 hy).2
        exact (of_decide_eq_true this) he
      · exact h.2.2.sublist (List.Sublist.map _ (List.filter_sublist))
    refine ⟨by rw [List.length_take]; omega, fun e he => ?_, ?_⟩
    · rcases List.mem_cons.1 (List.mem_of_mem_take he) with rfl | he
      · exact Agr_new m hw r hr va a hva ho
      · exact Agr_set m hw r hr (va / 128) a (by omega) e (h.2.1 e (List.mem_filter.1 he).1)
    · exact hnd.sublist (List.Sublist.map _ (List.take_sublist _ _))
  · rw [if_neg ho, if_neg ho]; exact h
theorem fillM_len (m : List Int) (r va a : Int) : (fillM m r va a).length = m.length := by unfold fillM; split <;> simp
theorem fillM_ws (m : List Int) (hw : Ws m) (r va a : Int) : Ws (fillM m r va a) := by
  unfold fillM
  split
  · exact hw.set _ (tw_word _ a (hw.at_ _))
  · exact hw
theorem perm_front (t : List S49) (j : Nat) (h : t = t.take j ++ rd_T49 t (j : Int) :: t.drop (j + 1)) : (rd_T49 t (j : Int) :: (t.take j ++ t.drop (j + 1))).Perm t := by
  conv => rhs; rw [h]
  exact List.perm_middle.symm

theorem rNew_eq (n : Int) : vmfleetref1_New.f n = some (if 1 ≤ n ∧ n ≤ 32 then List.replicate (32 * n.toNat) 0 else []) := by
  unfold vmfleetref1_New.f
  by_cases h1 : n < 1
  · rw [if_pos h1, if_neg (by omega)]
  · rw [if_neg h1]
    by_cases h2 : n > 32
    · rw [if_pos h2, if_neg (by omega)]
    · have e : wrap64 (n * 32) = n * 32 := w64 (by omega) (by omega)
      have e2 : (n * 32).toNat = 32 * n.toNat := by omega
      rw [if_neg h2, e, if_pos (by omega), if_pos (by omega), if_pos (by omega), e2]

theorem awake14 (k : Nat) (hk : 60 ≤ k) : vmfleetlaw14_awake.f k = some true := at_rounds (g := fun k => vmfleetlaw14_awake.f k) (fun k => vmfleetlaw14_awake.mono k) hk (by kernel_rfl)

theorem Round_eq (a n : Int) (hn : 0 < n) (hn2 : n ≤ 4611686018427387904) : vmfleetmake_Round.f a n = some (a % n) := by
  unfold vmfleetmake_Round.f
  rw [if_neg (by omega)]
  have h1 := Int.emod_nonneg a (show n ≠ 0 by omega)
  have h2 := Int.emod_lt_of_pos a hn
  have h3 := Int.tmod_lt_of_pos a hn
  have h4 := Int.lt_tmod_of_pos a hn
  have h5 : Int.tmod a n = a % n ∨ Int.tmod a n = a % n - n := by
    rw [Int.tmod_eq_emod]; split <;> simp <;> omega
  by_cases h : Int.tmod a n < 0
  · rw [if_pos h, w64 (by omega) (by omega)]; congr 1; omega
  · rw [if_neg h]; congr 1; omega

/-- A memory of two pages, the first one a page table in which every page may be loaded and lies in frame 1. -/
def RM (m : List Int) : Prop := m.length = 64 ∧ Ws m ∧ ∀ p, 0 ≤ p → p < 32 → may (rd m p) 2 ∧ byt (rd m p) 1 = 1
theorem RM_pages {m : List Int} (h : RM m) : pagesv m = 2 := pagesv_of (n := 2) (by rw [h.1]) (by omega)
theorem RM_ok {m : List Int} (h : RM m) (va : Int) (hva : 0 ≤ va ∧ va < 4096) : okw m 0 va 2 := by
  obtain ⟨h1, h2⟩ := h.2.2 (va / 128) (by omega) (by omega)
  have e : (0 : Int) * 32 + va / 128 = va / 128 := by omega
  refine ⟨by omega, by omega, hva.2, by rw [RM_pages h]; omega, ?_, ?_⟩
  · rw [e]; exact h1
  · rw [e, h2, RM_pages h]; omega
theorem RM_fill {m : List Int} (h : RM m) (va : Int) (hva : 0 ≤ va ∧ va < 4096) : RM (fillM m 0 va 2) := by
  refine ⟨by rw [fillM_len]; exact h.1, fillM_ws m h.2.1 0 va 2, fun p p0 p1 => ?_⟩
  unfold fillM
  rw [if_pos (RM_ok h va hva)]
  have e : (0 : Int) * 32 + va / 128 = va / 128 := by omega
  rw [e]
  have hwd := h.2.1.at_ (va / 128)
  obtain ⟨h1, h2⟩ := h.2.2 p p0 p1
  by_cases hp : va / 128 = p
  · have hr := rd_set_eq m (va / 128) (tw (rd m (va / 128)) 2) (by omega) (by rw [h.1]; omega)
    rw [hp] at hr hwd
    rw [hp, hr, tw_byt _ 2 hwd]
    exact ⟨(tw_may _ 2 2 hwd).2 h1, h2⟩
  · rw [rd_set_ne m _ _ _ (by omega) p0 hp]
    exact ⟨h1, h2⟩
theorem new_f1 {m : List Int} (h : RM m) (va : Int) (hva : 0 ≤ va ∧ va < 4096) : (newE m 0 va 2).f1 = 1 := by
  have e : (0 : Int) * 32 + va / 128 = va / 128 := by omega
  show byt (rd m (0 * 32 + va / 128)) 1 = 1
  rw [e]
  exact (h.2.2 (va / 128) (by omega) (by omega)).2
theorem fillT_ok {m : List Int} (h : RM m) (t : List S49) (va : Int) (hva : 0 ≤ va ∧ va < 4096) : fillT t m 0 va 2 = (newE m 0 va 2 :: t.filter (fun y => decide (¬ y.f0 = va / 128))).take 8 := by
  unfold fillT; rw [if_pos (RM_ok h va hva)]
/-- Every entry leads to frame 1, and there are at most eight. -/
def RT (t : List S49) : Prop := t.length ≤ 8 ∧ ∀ e ∈ t, e.f1 = 1
theorem RT_fill {m : List Int} (h : RM m) {t : List S49} (ht : RT t) (va : Int) (hva : 0 ≤ va ∧ va < 4096) : RT (fillT t m 0 va 2) := by
  rw [fillT_ok h t va hva]
  refine ⟨by rw [List.length_take]; omega, fun e he => ?_⟩
  rcases List.mem_cons.1 (List.mem_of_mem_take he) with rfl | he
  · exact new_f1 h va hva
  · exact ht.2 e (List.mem_filter.1 he).1
theorem look_from (a0 : Int) (n : Nat) (hn : n ≤ 8) (d : Nat) : ∀ (i k : Nat) (t : List S49), i ≤ n → n - i = d → d + 100 < k → RT t → (∀ j : Nat, j < n → ∃ e ∈ t, e.f0 = (a0 + (j : Int)) % 32) → vmfleetlaw14_TlbRecent.l3 k a0 (n : Int) t (i : Int) = some true := by
  induction d with
  | zero =>
    intro i k t h1 h2 h3 ht hj
    obtain ⟨k, rfl⟩ : ∃ q, k = q + 1 := ⟨k - 1, by omega⟩
    simp only [vmfleetlaw14_TlbRecent.l3]
    rw [if_neg (by omega), awake14 k (by omega), bs]
  | succ d ih =>
    intro i k t h1 h2 h3 ht hj
    obtain ⟨k, rfl⟩ : ∃ q, k = q + 1 := ⟨k - 1, by omega⟩
    simp only [vmfleetlaw14_TlbRecent.l3]
    have ew : wrap64 ((i : Int) + 1) = ((i + 1 : Nat) : Int) := w64n (by simp) (by omega)
    have ep : (a0 + (i : Int)) % 4294967296 % 32 = (a0 + (i : Int)) % 32 := by omega
    rw [if_pos (by omega), ep, ew]
    rcases Lookup_eq t ht.1 ((a0 + (i : Int)) % 32) 2 k (by omega) with ⟨hno, _⟩ | ⟨j, hjl, hf, htt, hl⟩
    · obtain ⟨e, he, hf⟩ := hj i (by omega)
      exact absurd hf (hno e he)
    · rw [if_pos (show allowed (rd_T49 t (j : Int)) 2 from Or.inl rfl)] at hl
      have hmem : rd_T49 t (j : Int) ∈ t := by
        have : rd_T49 t (j : Int) ∈ t.take j ++ rd_T49 t (j : Int) :: t.drop (j + 1) := by simp
        rwa [← htt] at this
      have hp := perm_front t j htt
      rw [hl, bs]
      dsimp only
      rw [if_pos rfl, if_pos (ht.2 _ hmem)]
      refine ih (i + 1) k _ (by omega) (by omega) (by omega) ⟨by rw [hp.length_eq]; exact ht.1, fun e he => ht.2 e (hp.mem_iff.1 he)⟩ (fun q hq => ?_)
      obtain ⟨e, he, hf⟩ := hj q hq
      exact ⟨e, hp.mem_iff.2 he, hf⟩
/-- The pages of the first i accesses, the last one first. -/
def lastP (a0 : Int) (i : Nat) : List Int := (List.range i).reverse.map fun (j : Nat) => (a0 + (j : Int)) % 32
theorem lastP_succ (a0 : Int) (i : Nat) : lastP a0 (i + 1) = (a0 + (i : Int)) % 32 :: lastP a0 i := by unfold lastP; rw [List.range_succ, List.reverse_append]; rfl
theorem many_from (a0 : Int) (n : Nat) (hn : n ≤ 8) (d : Nat) : ∀ (i k : Nat) (m : List Int) (t : List S49), i ≤ n → n - i = d → d + 120 < k → RM m → RT t → (t.take i).map (·.f0) = lastP a0 i → vmfleetlaw14_TlbRecent.l2 k a0 (n : Int) m t (i : Int) = some true := by
  induction d with
  | zero =>
    intro i k m t h1 h2 h3 hm ht hp
    obtain ⟨k, rfl⟩ : ∃ q, k = q + 1 := ⟨k - 1, by omega⟩
    simp only [vmfleetlaw14_TlbRecent.l2]
    rw [if_neg (by omega)]
    have := look_from a0 n hn n 0 k t (by omega) (by omega) (by omega) ht (fun j hj => ?_)
    · rw [Int.natCast_zero] at this; exact this
    · have hmem : (a0 + (j : Int)) % 32 ∈ (t.take i).map (·.f0) := by
        rw [hp]
        unfold lastP
        exact List.mem_map.2 ⟨j, by rw [List.mem_reverse, List.mem_range]; omega, rfl⟩
      obtain ⟨e, he, hf⟩ := List.mem_map.1 hmem
      exact ⟨e, List.mem_of_mem_take he, hf⟩
  | succ d ih =>
    intro i k m t h1 h2 h3 hm ht hp
    obtain ⟨k, rfl⟩ : ∃ q, k = q + 1 := ⟨k - 1, by omega⟩
    simp only [vmfleetlaw14_TlbRecent.l2]
    have ew : wrap64 ((i : Int) + 1) = ((i + 1 : Nat) : Int) := w64n (by simp) (by omega)
    have ep : (a0 + (i : Int)) % 4294967296 % 32 = (a0 + (i : Int)) % 32 := by omega
    have hva : 0 ≤ (a0 + (i : Int)) % 32 * 128 ∧ (a0 + (i : Int)) % 32 * 128 < 4096 := by omega
    have hpg : (a0 + (i : Int)) % 32 * 128 / 128 = (a0 + (i : Int)) % 32 := by omega
    rw [if_pos (by omega), ep, ew, Fill_eq t ht.1 m hm.2.1 (by rw [hm.1]; omega) 0 _ 2 (by omega) hva k (by omega), bs]
    dsimp only
    refine ih (i + 1) k _ _ (by omega) (by omega) (by omega) (RM_fill hm _ hva) (RT_fill hm ht _ hva) ?_
    rw [fillT_ok hm t _ hva, hpg, lastP_succ, List.take_take, Nat.min_eq_left (by omega), List.take_succ_cons, List.map_cons]
    have hlen : (t.take i).length = i := by
      have := congrArg List.length hp
      simpa [lastP] using this
    have hne : ∀ e ∈ t.take i, decide (¬ e.f0 = (a0 + (i : Int)) % 32) = true := by
      intro e he
      apply decide_eq_true
      intro hc
      have hmem : (a0 + (i : Int)) % 32 ∈ lastP a0 i := by rw [← hp, ← hc]; exact List.mem_map_of_mem (f := fun x : S49 => x.f0) he
      unfold lastP at hmem
      obtain ⟨j, hj, hj2⟩ := List.mem_map.1 hmem
      rw [List.mem_reverse, List.mem_range] at hj
      omega
    have hf : (t.filter (fun y => decide (¬ y.f0 = (a0 + (i : Int)) % 32))).take i = t.take i := by
      conv => lhs; rw [← List.take_append_drop i t]
      rw [List.filter_append, List.filter_eq_self.2 hne, List.take_append_of_le_length (by omega), List.take_take, Nat.min_self]
    rw [hf, hp]
    congr 1
theorem first_from (a0 : Int) (n : Nat) (hn : n ≤ 8) (acts : List Int) (ha : acts.length ≤ 20) (d : Nat) : ∀ (i k : Nat) (m : List Int) (t : List S49), i ≤ acts.length → acts.length - i = d → d + 150 < k → RM m → RT t → vmfleetlaw14_TlbRecent.l1 k a0 (n : Int) acts m t (i : Int) = some true := by
  induction d with
  | zero =>
    intro i k m t h1 h2 h3 hm ht
    obtain ⟨k, rfl⟩ : ∃ q, k = q + 1 := ⟨k - 1, by omega⟩
    simp only [vmfleetlaw14_TlbRecent.l1]
    rw [if_neg (by omega)]
    have := many_from a0 n hn n 0 k m t (by omega) (by omega) (by omega) hm ht rfl
    rw [Int.natCast_zero] at this; exact this
  | succ d ih =>
    intro i k m t h1 h2 h3 hm ht
    obtain ⟨k, rfl⟩ : ∃ q, k = q + 1 := ⟨k - 1, by omega⟩
    simp only [vmfleetlaw14_TlbRecent.l1]
    have ew : wrap64 ((i : Int) + 1) = ((i + 1 : Nat) : Int) := w64n (by simp) (by omega)
    have hva : 0 ≤ rd acts (i : Int) % 4096 % 4294967296 ∧ rd acts (i : Int) % 4096 % 4294967296 < 4096 := by omega
    rw [if_pos (by omega), if_pos (by omega), Round_eq _ 4096 (by omega) (by omega), bs, ew, Fill_eq t ht.1 m hm.2.1 (by rw [hm.1]; omega) 0 _ 2 (by omega) hva k (by omega), bs]
    dsimp only
    exact ih (i + 1) k _ _ (by omega) (by omega) (by omega) (RM_fill hm _ hva) (RT_fill hm ht _ hva)
theorem laid_from (a0 : Int) (n : Nat) (hn : n ≤ 8) (acts : List Int) (ha : acts.length ≤ 20) (d : Nat) : ∀ (i k : Nat) (m : List Int), i ≤ 32 → 32 - i = d → d + 200 < k → m.length = 64 → Ws m → (∀ p, 0 ≤ p → p < (i : Int) → rd m p = 257) → vmfleetlaw14_TlbRecent.l0 k a0 (n : Int) acts m (i : Int) = some true := by
  induction d with
  | zero =>
    intro i k m h1 h2 h3 hl hw hp
    obtain ⟨k, rfl⟩ : ∃ q, k = q + 1 := ⟨k - 1, by omega⟩
    simp only [vmfleetlaw14_TlbRecent.l0]
    rw [if_neg (by omega)]
    have h257 : may 257 2 := by decide +kernel
    have b257 : byt 257 1 = 1 := by decide +kernel
    have := first_from a0 n hn acts ha acts.length 0 k m [] (by omega) (by omega) (by omega) ⟨hl, hw, fun p p0 p1 => by rw [hp p p0 (by omega)]; exact ⟨h257, b257⟩⟩ ⟨by simp, fun e h => (nomatch h)⟩
    rw [Int.natCast_zero] at this; exact this
  | succ d ih =>
    intro i k m h1 h2 h3 hl hw hp
    obtain ⟨k, rfl⟩ : ∃ q, k = q + 1 := ⟨k - 1, by omega⟩
    simp only [vmfleetlaw14_TlbRecent.l0]
    have ew : wrap64 ((i : Int) + 1) = ((i + 1 : Nat) : Int) := w64n (by simp) (by omega)
    rw [if_pos (by omega), if_pos (by omega), if_pos (by rw [hl]; omega), ew]
    refine ih (i + 1) k _ (by omega) (by omega) (by omega) (by simpa using hl) (hw.set _ (by omega)) (fun p p0 p1 => ?_)
    by_cases h : (i : Int) = p
    · subst h; exact rd_set_eq m _ 257 (by omega) (by rw [hl]; omega)
    · rw [rd_set_ne m _ _ 257 (by omega) p0 h]; exact hp p p0 (by omega)
theorem TlbRecent : vmfleetlaw14_TlbRecent.Pure := by
  intro a0 a1 acts h0 h1 h2 h3 h4
  refine ⟨1000, ?_⟩
  have hj : vmfleetlaw14_TlbRecent.j0 1000 a0 a1 acts true = some true := by
    rw [show (1000 : Nat) = 999 + 1 from rfl]
    simp only [vmfleetlaw14_TlbRecent.j0]
    rw [if_pos (by trivial), awake14 999 (by omega), bs]
  unfold vmfleetlaw14_TlbRecent.f
  by_cases c1 : a1 < 1
  · rw [if_pos c1, hj]
  · rw [if_neg c1]
    by_cases c8 : a1 > 8
    · rw [if_pos c8, hj]
    · rw [if_neg c8]
      by_cases c20 : (acts.length : Int) > 20
      · rw [decide_eq_true c20, hj]
      · rw [decide_eq_false c20, show (1000 : Nat) = 999 + 1 from rfl]
        simp only [vmfleetlaw14_TlbRecent.j0]
        rw [if_neg (by simp), rNew_eq, bs, if_pos (by omega)]
        have := laid_from a0 a1.toNat (by omega) acts (by omega) 32 0 999 (List.replicate (32 * (2 : Int).toNat) 0) (by omega) (by omega) (by omega) (by simp) (Ws.rep _) (fun p p0 p1 => by omega)
        rw [Int.toNat_of_nonneg (by omega), Int.natCast_zero] at this
        exact this

end Go.Proofs.Ytnammilbfbaieaa.Pure
