/- Proved: after the announcement of a guest at its new port, frames to it go there, wherever it was before, and whatever other traffic there is, as long as it is not seen elsewhere. Conditions: none. -/
import Derived.Test.YtdkbhjmoiblobaaHSwitchMovesx1
import Derived.Test.YtdkbhjmoiblobaaHSwitchMovesx2
import Derived.Test.YtdkbhjmoiblobaaHSwitchMovesx3
import Derived.Test.YtdkbhjmoiblobaaHSwitchMovesx4
import Derived.Test.YtdkbhjmoiblobaaHSwitchMovesx5
import Derived.Test.YtdkbhjmoiblobaaHSwitchMovesx6
import Derived.Test.YtdkbhjmoiblobaaHSwitchMovesx7
import Derived.Test.YtdkbhjmoiblobaaBv
import Derived.Test.YtdkbhjmoiblobaaMem
namespace Go.Proofs.Ytdkbhjmoiblobaa.Pure
open Go.RowKit Go.Proofs.Ytdkbhjmoiblobaa.HSwitchMoves Go.Proofs.YtdkbhjmoiblobaaW.PrintWords Go.Proofs.YtdkbhjmoiblobaaW.PrintLast Go.Proofs.Ytdkbhjmoiblobaa.Bv Go.Proofs.Ytdkbhjmoiblobaa.Mem
set_option linter.unusedVariables false
set_option linter.unusedSimpArgs false

/-- A bind of what is there. -/
theorem bs {α β : Type} (a : α) (f : α → Option β) : (some a).bind f = f a := rfl

theorem nNew_eq (n : Int) (h : 1 ≤ n ∧ n ≤ 8) : network_New.f n = some (n, [], true) := by
  unfold network_New.f
  rw [if_neg (by omega), if_neg (by omega)]

theorem Find_eq (t : List S35) (h : t.length ≤ 1000000000000) (p : Int) : network_find.f t p = some (lrn_idx p t 0) := by unfold network_find.f; rw [if_pos h]
/-- The place of an address: nowhere, or the place of an entry of it. -/
theorem lidx_spec (p : Int) : ∀ (t : List S35) (i : Nat), (lrn_idx p t i = -1 ∧ ∀ e ∈ t, e.f0 ≠ p) ∨ ∃ j : Nat, j < t.length ∧ lrn_idx p t i = ((i + j : Nat) : Int) ∧ (rd_T35 t (j : Int)).f0 = p ∧ t = t.take j ++ rd_T35 t (j : Int) :: t.drop (j + 1)
  | [], i => .inl ⟨rfl, fun e h => by cases h⟩
  | x :: xs, i => by
    by_cases h : x.f0 = p
    · exact .inr ⟨0, by simp, by unfold lrn_idx; rw [if_pos h]; rfl, h, rfl⟩
    · rcases lidx_spec p xs (i + 1) with ⟨h1, h2⟩ | ⟨j, h1, h2, h3, h4⟩
      · refine .inl ⟨by unfold lrn_idx; rw [if_neg h]; exact h1, fun e he => ?_⟩
        rcases List.mem_cons.1 he with rfl | he
        · exact h
        · exact h2 e he
      · have e : rd_T35 (x :: xs) ((j + 1 : Nat) : Int) = rd_T35 xs (j : Int) := by unfold rd_T35; rw [Int.toNat_natCast, Int.toNat_natCast]; rfl
        refine .inr ⟨j + 1, by simpa using h1, by unfold lrn_idx; rw [if_neg h, h2]; congr 1; omega, by rw [e]; exact h3, ?_⟩
        rw [e, List.take_succ_cons, List.drop_succ_cons, List.cons_append, ← h4]
theorem nodup_inj : ∀ (t : List S35), (t.map (·.f0)).Nodup → ∀ a ∈ t, ∀ b ∈ t, a.f0 = b.f0 → a = b
  | [], _, a, ha, _, _, _ => by cases ha
  | x :: xs, hn, a, ha, b, hb, h => by
    rw [List.map_cons, List.nodup_cons] at hn
    rcases List.mem_cons.1 ha with rfl | ha'
    · rcases List.mem_cons.1 hb with rfl | hb'
      · rfl
      · exact absurd (h ▸ List.mem_map_of_mem (f := fun y : S35 => y.f0) hb') hn.1
    · rcases List.mem_cons.1 hb with rfl | hb'
      · exact absurd (h ▸ List.mem_map_of_mem (f := fun y : S35 => y.f0) ha') hn.1
      · exact nodup_inj xs hn.2 a ha' b hb' h
/-- Among entries with different addresses the place of an address leads to its entry. -/
theorem lidx_of (t : List S35) (hn : (t.map (·.f0)).Nodup) (e : S35) (he : e ∈ t) : ∃ j : Nat, j < t.length ∧ lrn_idx e.f0 t 0 = (j : Int) ∧ rd_T35 t (j : Int) = e ∧ t = t.take j ++ e :: t.drop (j + 1) := by
  rcases lidx_spec e.f0 t 0 with ⟨_, h2⟩ | ⟨j, h1, h2, h3, h4⟩
  · exact absurd rfl (h2 e he)
  · rw [Nat.zero_add] at h2
    have hm : rd_T35 t (j : Int) ∈ t := by
      have : rd_T35 t (j : Int) ∈ t.take j ++ rd_T35 t (j : Int) :: t.drop (j + 1) := by simp
      rwa [← h4] at this
    have heq : rd_T35 t (j : Int) = e := nodup_inj t hn _ hm e he h3
    exact ⟨j, h1, h2, heq, by rw [← heq]; exact h4⟩
theorem lidx_no (t : List S35) (p : Int) (h : ∀ e ∈ t, e.f0 ≠ p) : lrn_idx p t 0 = -1 := by
  rcases lidx_spec p t 0 with ⟨h1, _⟩ | ⟨j, h1, h2, h3, h4⟩
  · exact h1
  · have hm : rd_T35 t (j : Int) ∈ t := by
      have : rd_T35 t (j : Int) ∈ t.take j ++ rd_T35 t (j : Int) :: t.drop (j + 1) := by simp
      rwa [← h4] at this
    exact absurd h3 (h _ hm)

/-- A valid table of a switch with n ports. -/
def VT (n : Int) (t : List S35) : Prop := t.length ≤ 16 ∧ (∀ e ∈ t, e.f0 ≠ 255 ∧ 0 ≤ e.f1 ∧ e.f1 < n) ∧ (t.map (·.f0)).Nodup
theorem Valid_from (n : Int) (t : List S35) (h : VT n t) (d : Nat) : ∀ (i k : Nat), i ≤ t.length → t.length - i = d → d < k → network_Valid.l0 k t (t.length : Int) (i : Int) n t = some true := by
  have hl := h.1
  induction d with
  | zero =>
    intro i k h1 h2 h3
    obtain ⟨k, rfl⟩ : ∃ q, k = q + 1 := ⟨k - 1, by omega⟩
    simp only [network_Valid.l0]
    rw [if_neg (by omega)]
  | succ d ih =>
    intro i k h1 h2 h3
    obtain ⟨k, rfl⟩ : ∃ q, k = q + 1 := ⟨k - 1, by omega⟩
    simp only [network_Valid.l0]
    have hi : i < t.length := by omega
    have hr : rd_T35 t (i : Int) = t[i] := by unfold rd_T35; rw [Int.toNat_natCast, List.getD_eq_getElem?_getD, List.getElem?_eq_getElem hi]; rfl
    obtain ⟨g1, g2, g3⟩ := h.2.1 t[i] (List.getElem_mem hi)
    have ew : wrap64 ((i : Int) + 1) = ((i + 1 : Nat) : Int) := w64n (by simp) (by omega)
    have hno : lrn_idx t[i].f0 (t.take i) 0 = -1 := by
      apply lidx_no
      intro e he hc
      have hn := h.2.2
      rw [← List.take_append_drop i t, List.map_append, List.nodup_append] at hn
      have h5 : t[i].f0 ∈ (t.drop i).map (·.f0) := List.mem_map.2 ⟨t[i], by rw [List.drop_eq_getElem_cons hi]; exact List.mem_cons_self .., rfl⟩
      exact hn.2.2 _ (List.mem_map.2 ⟨e, he, rfl⟩) _ h5 hc
    rw [if_pos (by omega), if_pos (by omega), if_pos (by omega), hr, if_neg g1, if_neg (by omega), if_neg (by omega), if_pos (by omega), Int.toNat_natCast, Find_eq _ (by rw [List.length_take]; omega), bs, hno, if_neg (by decide), ew]
    exact ih (i + 1) k (by omega) (by omega) (by omega)
theorem Valid_eq (n : Int) (hn : 1 ≤ n ∧ n ≤ 8) (t : List S35) (h : VT n t) (k : Nat) (hk : 20 ≤ k) : network_Valid.f k n t = some true := by
  obtain ⟨k, rfl⟩ : ∃ q, k = q + 1 := ⟨k - 1, by omega⟩
  have hl := h.1
  unfold network_Valid.f
  rw [if_neg (by omega), if_neg (by omega), decide_eq_false (by omega)]
  simp only [network_Valid.j0]
  rw [if_neg Bool.false_ne_true]
  have := Valid_from n t h t.length 0 k (by omega) (by omega) (by omega)
  rw [Int.natCast_zero] at this
  exact this

theorem Port_in (n : Int) (t : List S35) (ht : t.length ≤ 1000) (hn : (t.map (·.f0)).Nodup) (e : S35) (he : e ∈ t) : network_Port.f n t e.f0 = some (e.f1, true) := by
  obtain ⟨j, h1, h2, h3, _⟩ := lidx_of t hn e he
  unfold network_Port.f
  rw [Find_eq t (by omega), bs, h2, if_neg (by omega), if_pos (by omega), if_pos (by omega), h3]
theorem Port_no (n : Int) (t : List S35) (ht : t.length ≤ 1000) (p : Int) (h : ∀ e ∈ t, e.f0 ≠ p) : network_Port.f n t p = some (0, false) := by
  unfold network_Port.f
  rw [Find_eq t (by omega), bs, lidx_no t p h, if_pos (by decide)]

theorem CloneL_eq (t : List S35) (h : t.length ≤ 1000000000000) : api_Learned_16.f t = some t := by unfold api_Learned_16.f; rw [if_pos h]

theorem Addr_eq (s : ByteArray) (h : 2 ≤ s.size ∧ s.size ≤ 128) : network_Addresses.f s = some (bt s 0, bt s 1, true) := by
  unfold network_Addresses.f
  rw [if_neg (by omega), if_neg (by omega), if_pos (by omega), if_pos (by omega)]

/-- The ports of a switch with n ports to_ which a frame from port p goes: to_ known alone, if there is one. -/
def outv (n : Nat) (p known : Int) : List Int := ((List.range n).map fun (q : Nat) => (q : Int)).filter fun q => decide (q ≠ p ∧ (known < 0 ∨ q = known))
theorem out_from (n : Nat) (hn : n ≤ 8) (p known : Int) (t : List S35) (d : Nat) : ∀ (i k : Nat) (acc : List Int), i ≤ n → n - i = d → d < k → acc.length + d ≤ 100 → network_Forward.l0 k p acc known (n : Int) (i : Int) (n : Int) t = some ((n : Int), t, acc ++ (((List.range n).drop i).map fun (q : Nat) => (q : Int)).filter fun q => decide (q ≠ p ∧ (known < 0 ∨ q = known))) := by
  induction d with
  | zero =>
    intro i k acc h1 h2 h3 h4
    obtain ⟨k, rfl⟩ : ∃ q, k = q + 1 := ⟨k - 1, by omega⟩
    simp only [network_Forward.l0]
    rw [if_neg (by omega), List.drop_of_length_le (by simp; omega)]
    simp
  | succ d ih =>
    intro i k acc h1 h2 h3 h4
    obtain ⟨k, rfl⟩ : ∃ q, k = q + 1 := ⟨k - 1, by omega⟩
    simp only [network_Forward.l0]
    have ew : wrap64 ((i : Int) + 1) = ((i + 1 : Nat) : Int) := w64n (by simp) (by omega)
    have hi : i < (List.range n).length := by simp; omega
    have hd : (List.range n).drop i = i :: (List.range n).drop (i + 1) := by rw [List.drop_eq_getElem_cons hi]; simp
    rw [if_pos (by omega), ew, hd, List.map_cons, List.filter_cons]
    by_cases c1 : (i : Int) = p
    · rw [if_pos c1, ih (i + 1) k acc (by omega) (by omega) (by omega) (by omega), if_neg (by simp [c1])]
    · rw [if_neg c1]
      by_cases c2 : known < 0
      · rw [if_pos c2, if_pos (by omega), ih (i + 1) k _ (by omega) (by omega) (by omega) (by simp; omega), if_pos (by simp [c1, c2]), List.append_assoc]; rfl
      · rw [if_neg c2]
        by_cases c3 : (i : Int) = known
        · rw [if_pos c3, if_pos (by omega), ih (i + 1) k _ (by omega) (by omega) (by omega) (by simp; omega), if_pos (by simp [c3] at c1 ⊢; exact c1), List.append_assoc]; rfl
        · rw [if_neg c3, ih (i + 1) k acc (by omega) (by omega) (by omega) (by omega), if_neg (by simp [c2, c3])]
theorem Forward_j2 (n : Nat) (hn : n ≤ 8) (p known : Int) (t : List S35) (k : Nat) (hk : 20 ≤ k) : network_Forward.j2 k p [] known (n : Int) t = some ((n : Int), t, outv n p known) := by
  obtain ⟨k, rfl⟩ : ∃ q, k = q + 1 := ⟨k - 1, by omega⟩
  simp only [network_Forward.j2]
  have := out_from n hn p known t n 0 k [] (by omega) (by omega) (by omega) (by simp; omega)
  rw [Int.natCast_zero, List.drop_zero, List.nil_append] at this
  exact this
/-- Where an address was seen last: its port, or -1. -/
def portv (t : List S35) (a : Int) : Int := match t.find? (fun e => decide (e.f0 = a)) with | some e => e.f1 | none => -1
theorem portv_in (t : List S35) (hn : (t.map (·.f0)).Nodup) (e : S35) (he : e ∈ t) : portv t e.f0 = e.f1 := by
  unfold portv
  cases h : t.find? (fun x => decide (x.f0 = e.f0)) with
  | none =>
    have := List.find?_eq_none.1 h e he
    simp at this
  | some x =>
    have h1 := List.mem_of_find?_eq_some h
    have h2 := List.find?_some h
    rw [nodup_inj t hn x h1 e he (of_decide_eq_true h2)]
theorem portv_no (t : List S35) (a : Int) (h : ∀ e ∈ t, e.f0 ≠ a) : portv t a = -1 := by
  unfold portv
  rw [List.find?_eq_none.2 (fun x hx => by simpa using h x hx)]
theorem Forward_j1 (n : Nat) (hn : n ≤ 8) (p to_ : Int) (t : List S35) (h : VT (n : Int) t) (k : Nat) (hk : 30 ≤ k) : network_Forward.j1 k p to_ (n : Int) t = some ((n : Int), t, outv n p (portv t to_)) := by
  obtain ⟨k, rfl⟩ : ∃ q, k = q + 1 := ⟨k - 1, by omega⟩
  have hl := h.1
  simp only [network_Forward.j1]
  by_cases c : to_ = 255
  · rw [if_pos c, Forward_j2 n hn p _ t k (by omega), portv_no t to_ (fun e he => by rw [c]; exact (h.2.1 e he).1)]
  · rw [if_neg c]
    by_cases c2 : ∃ e ∈ t, e.f0 = to_
    · obtain ⟨e, he, rfl⟩ := c2
      rw [Port_in _ t (by omega) h.2.2 e he, bs, if_pos rfl, Forward_j2 n hn p _ t k (by omega), portv_in t h.2.2 e he]
    · have hno : ∀ e ∈ t, e.f0 ≠ to_ := fun e he hc => c2 ⟨e, he, hc⟩
      rw [Port_no _ t (by omega) to_ hno, bs, if_neg Bool.false_ne_true, Forward_j2 n hn p _ t k (by omega), portv_no t to_ hno]
/-- The table after a frame from an address at a port. -/
def learnv (t : List S35) (from_ p : Int) : List S35 := if from_ = 255 then t else ((⟨from_, p⟩ : S35) :: t.filter (fun e => decide (e.f0 ≠ from_))).take 16
theorem erase_filter (t : List S35) (hn : (t.map (·.f0)).Nodup) (j : Nat) (e : S35) (ht : t = t.take j ++ e :: t.drop (j + 1)) : t.take j ++ t.drop (j + 1) = t.filter (fun x => decide (x.f0 ≠ e.f0)) := by
  have hn2 := hn
  rw [ht, List.map_append, List.map_cons, List.nodup_append, List.nodup_cons] at hn2
  conv => rhs; rw [ht]
  rw [List.filter_append, List.filter_cons, if_neg (by simp), List.filter_eq_self.2, List.filter_eq_self.2]
  · intro x hx
    apply decide_eq_true
    intro hc
    exact hn2.2.1.1 (hc ▸ List.mem_map_of_mem (f := fun y : S35 => y.f0) hx)
  · intro x hx
    apply decide_eq_true
    intro hc
    exact hn2.2.2 _ (List.mem_map_of_mem (f := fun y : S35 => y.f0) hx) _ (List.mem_cons_self ..) hc
theorem learn_VT (n : Int) (t : List S35) (h : VT n t) (from_ p : Int) (hp : 0 ≤ p ∧ p < n) : VT n (learnv t from_ p) := by
  unfold learnv
  by_cases c : from_ = 255
  · rw [if_pos c]; exact h
  · rw [if_neg c]
    have hnd : (((⟨from_, p⟩ : S35) :: t.filter (fun e => decide (e.f0 ≠ from_))).map (·.f0)).Nodup := by
      rw [List.map_cons, List.nodup_cons]
      refine ⟨fun hm => ?_, h.2.2.sublist (List.Sublist.map _ List.filter_sublist)⟩
      obtain ⟨y, hy, he⟩ := List.mem_map.1 hm
      exact (of_decide_eq_true (List.mem_filter.1 hy).2) he
    refine ⟨by rw [List.length_take]; omega, fun e he => ?_, hnd.sublist (List.Sublist.map _ (List.take_sublist _ _))⟩
    rcases List.mem_cons.1 (List.mem_of_mem_take he) with rfl | he
    · exact ⟨c, hp.1, hp.2⟩
    · exact h.2.1 e (List.mem_filter.1 he).1
theorem take16 (l : List S35) : l.take (mn (l.length : Int) 16).toNat = l.take 16 := by
  have hm : (mn (l.length : Int) 16).toNat = min l.length 16 := by unfold mn; split <;> omega
  rw [hm, List.take_eq_take_iff]; omega
theorem Forward_eq (n : Nat) (hn : 1 ≤ n ∧ n ≤ 8) (t : List S35) (h : VT (n : Int) t) (p : Int) (hp : 0 ≤ p ∧ p < (n : Int)) (s : ByteArray) (hs : 2 ≤ s.size ∧ s.size ≤ 128) (k : Nat) (hk : 60 ≤ k) :
    network_Forward.f k (n : Int) t p s = some ((n : Int), learnv t (bt s 1) p, outv n p (portv (learnv t (bt s 1) p) (bt s 0))) := by
  obtain ⟨k, rfl⟩ : ∃ q, k = q + 1 := ⟨k - 1, by omega⟩
  have hl := h.1
  have hv := learn_VT (n : Int) t h (bt s 1) p hp
  unfold network_Forward.f
  rw [CloneL_eq t (by omega), bs, Addr_eq s hs, bs, if_pos rfl, Valid_eq (n : Int) (by omega) t h (k + 1) (by omega), bs, if_pos rfl, if_neg (by omega), decide_eq_false (by omega)]
  simp only [network_Forward.j0]
  rw [if_neg Bool.false_ne_true]
  generalize bt s 1 = from_ at hv ⊢
  generalize bt s 0 = to_
  by_cases c : from_ = 255
  · have e1 : learnv t from_ p = t := by unfold learnv; rw [if_pos c]
    rw [if_pos c, Forward_j1 n hn.2 p to_ t h k (by omega), e1]
  · have e1 : learnv t from_ p = ((⟨from_, p⟩ : S35) :: t.filter (fun e => decide (e.f0 ≠ from_))).take 16 := by unfold learnv; rw [if_neg c]
    have hmn : ∀ l : List S35, 0 ≤ mn (l.length : Int) 16 ∧ mn (l.length : Int) 16 ≤ (l.length : Int) := fun l => by unfold mn; split <;> omega
    rw [if_neg c, Find_eq t (by omega), bs]
    by_cases c2 : ∃ e ∈ t, e.f0 = from_
    · obtain ⟨e, he, rfl⟩ := c2
      obtain ⟨j, j1, j2, j3, j4⟩ := lidx_of t h.2.2 e he
      rw [j2, if_pos (by omega), if_pos ⟨by omega, by omega⟩, bs, Int.toNat_natCast, erase_filter t h.2.2 j e j4,
        if_pos (by have := List.length_filter_le (fun x : S35 => decide (x.f0 ≠ e.f0)) t; omega), bs, if_pos (hmn _).1, if_pos (hmn _).2, take16, ← e1]
      exact Forward_j1 n hn.2 p to_ _ hv k (by omega)
    · have hno : ∀ e ∈ t, e.f0 ≠ from_ := fun e he hc => c2 ⟨e, he, hc⟩
      have e2 : t.filter (fun e => decide (e.f0 ≠ from_)) = t := List.filter_eq_self.2 (fun x hx => decide_eq_true (hno x hx))
      rw [e2] at e1
      rw [lidx_no t from_ hno, if_neg (by decide), if_pos (by omega), bs, if_pos (hmn _).1, if_pos (hmn _).2, take16, ← e1]
      exact Forward_j1 n hn.2 p to_ _ hv k (by omega)

theorem Ann_eq (a : Int) : network_Announce.f a = some (strOfNums [255, a]) := rfl
theorem bt_list (l : List UInt8) (i : Nat) (h : i < l.length) : bt (⟨l.toArray⟩ : ByteArray) (i : Int) = ((l[i]).toNat : Int) := by
  unfold bt
  rw [dif_pos (by rw [Int.toNat_natCast]; simpa [ByteArray.size] using h)]
  congr 1
theorem bt_two (x y : Int) (hx : 0 ≤ x ∧ x ≤ 255) (hy : 0 ≤ y ∧ y ≤ 255) (d : ByteArray) : bt (strOfNums [x, y] ++ d) 0 = x ∧ bt (strOfNums [x, y] ++ d) 1 = y := by
  have e : strOfNums [x, y] ++ d = (⟨([UInt8.ofNat x.toNat, UInt8.ofNat y.toNat] ++ d.data.toList).toArray⟩ : ByteArray) := by
    apply ByteArray.ext
    simp [strOfNums, ByteArray.data_append]
  rw [e]
  have h0 := bt_list ([UInt8.ofNat x.toNat, UInt8.ofNat y.toNat] ++ d.data.toList) 0 (by simp)
  have h1 := bt_list ([UInt8.ofNat x.toNat, UInt8.ofNat y.toNat] ++ d.data.toList) 1 (by simp)
  refine ⟨h0.trans ?_, h1.trans ?_⟩
  · simp; omega
  · simp; omega
theorem bt_pair (x y : Int) (hx : 0 ≤ x ∧ x ≤ 255) (hy : 0 ≤ y ∧ y ≤ 255) : bt (strOfNums [x, y]) 0 = x ∧ bt (strOfNums [x, y]) 1 = y := by
  have := bt_two x y hx hy ⟨#[]⟩
  have e : strOfNums [x, y] ++ (⟨#[]⟩ : ByteArray) = strOfNums [x, y] := by
    apply ByteArray.ext
    simp [ByteArray.data_append]
  rwa [e] at this

theorem SameInts_from (a : List Int) (hb : a.length ≤ 140737488355328) (d : Nat) : ∀ (i k : Nat), i ≤ a.length → a.length - i = d → d < k → vmfleetref1_SameInts.l0 k a a (i : Int) = some true := by
  induction d with
  | zero =>
    intro i k h1 h2 h3
    obtain ⟨k, rfl⟩ : ∃ q, k = q + 1 := ⟨k - 1, by omega⟩
    simp only [vmfleetref1_SameInts.l0]
    rw [if_neg (by omega)]
  | succ d ih =>
    intro i k h1 h2 h3
    obtain ⟨k, rfl⟩ : ∃ q, k = q + 1 := ⟨k - 1, by omega⟩
    simp only [vmfleetref1_SameInts.l0]
    have e1 : wrap64 ((i : Int) + 1) = ((i + 1 : Nat) : Int) := by rw [w64 (by omega) (by omega)]; simp
    rw [if_pos (by omega), if_pos (by omega), if_pos (by omega), if_pos trivial, e1, ih (i + 1) k (by omega) (by omega) (by omega)]
theorem SameInts_same (a : List Int) (hb : a.length ≤ 140737488355328) (k : Nat) (hk : a.length < k) : vmfleetref1_SameInts.f k a a = some true := by
  unfold vmfleetref1_SameInts.f
  have := SameInts_from a hb a.length 0 k (by omega) (by omega) hk
  rw [Int.natCast_zero] at this
  rw [if_pos rfl, this]

theorem awake33 (k : Nat) (hk : 60 ≤ k) : vmfleetlaw33_awake.f k = some true := at_rounds (g := fun k => vmfleetlaw33_awake.f k) (fun k => vmfleetlaw33_awake.mono k) hk (by kernel_rfl)

theorem Mix_ends (a b : Int) : ∃ r, vmfleetmake_Mix.f a b = some r ∧ 0 ≤ r ∧ r ≤ 9223372036854775807 := by
  unfold vmfleetmake_Mix.f
  obtain ⟨p, q, hp, h0, h1⟩ : ∃ p q, vmfleetref1_Next.f (Go.bits .xor .u64 (IntKind.u64.wrap (a)) (IntKind.u64.wrap ((IntKind.u64.wrap (b)) * 11400714819323198485))) = some (p, q) ∧ 0 ≤ p ∧ p ≤ 18446744073709551615 := by
    refine ⟨_, _, rfl, ?_⟩
    show 0 ≤ IntKind.u64.wrap _ ∧ IntKind.u64.wrap _ ≤ _
    rw [wu64]; omega
  rw [hp]; rw [bs]; try dsimp only
  exact ⟨_, rfl, by rw [w64 (by omega) (by omega)]; omega, by rw [w64 (by omega) (by omega)]; omega⟩

theorem Data_from (x : Int) (n : Nat) (hn : n ≤ 1000000) (d : Nat) : ∀ (i k : Nat) (l : List Int), l.length = i → i ≤ n → n - i = d → d < k → ∃ s, vmfleetmake_Data.l0 k x (n : Int) l (i : Int) = some s ∧ s.size = n := by
  induction d with
  | zero =>
    intro i k l hl h1 h2 h3
    obtain ⟨k, rfl⟩ : ∃ q, k = q + 1 := ⟨k - 1, by omega⟩
    simp only [vmfleetmake_Data.l0]
    rw [if_neg (by omega)]
    exact ⟨_, rfl, by rw [strOfNums_size]; omega⟩
  | succ d ih =>
    intro i k l hl h1 h2 h3
    obtain ⟨k, rfl⟩ : ∃ q, k = q + 1 := ⟨k - 1, by omega⟩
    simp only [vmfleetmake_Data.l0]
    obtain ⟨p, e1, p0, p1⟩ := Mix_ends x (wrap64 (Int.tdiv (i : Int) 9))
    have ew : wrap64 ((i : Int) + 1) = ((i + 1 : Nat) : Int) := by rw [w64 (by omega) (by omega)]; simp
    rw [if_pos (by omega), e1, bs, if_pos (by omega), ew]
    exact ih (i + 1) k _ (by simp; omega) (by omega) (by omega) (by omega)
theorem Data_ends (x : Int) (n : Nat) (hn : n ≤ 1000000) : ∃ s, (∀ k, n < k → vmfleetmake_Data.f k x (n : Int) = some s) ∧ s.size = n := by
  obtain ⟨s, h1, h2⟩ := Data_from x n hn n 0 (n + 1) [] rfl (by omega) (by omega) (by omega)
  rw [Int.natCast_zero] at h1
  exact ⟨s, fun k hk => at_rounds (g := fun k => vmfleetmake_Data.f k x (n : Int)) (fun k => vmfleetmake_Data.mono _ _ k) hk h1, h2⟩

theorem and_mask (x : Int) (j : Nat) (hj : j ≤ 32) (m : Int) (hm : m = 2 ^ j - 1) (h : 0 ≤ x ∧ x ≤ 9223372036854775807) : Go.bits .and .i64 x m = x % 2 ^ j := by
  subst hm
  obtain ⟨n, rfl⟩ : ∃ n : Nat, x = (n : Int) := ⟨x.toNat, by omega⟩
  have e0 : ((2 : Int) ^ j - 1) = ((2 ^ j - 1 : Nat) : Int) := by
    have h1 := Nat.two_pow_pos j
    have h2 : ((2 ^ j : Nat) : Int) = (2 : Int) ^ j := by rw [Int.natCast_pow]; rfl
    omega
  rw [e0]
  show IntKind.i64.wrap ((BitVec.ofInt 64 (n : Int) &&& BitVec.ofInt 64 ((2 ^ j - 1 : Nat) : Int)).toNat : Int) = _
  have hp : 2 ^ j ≤ 2 ^ 32 := Nat.pow_le_pow_right (by omega) hj
  have e1 : (BitVec.ofInt 64 ((2 ^ j - 1 : Nat) : Int)).toNat = 2 ^ j - 1 := by simp; omega
  have e2 : (BitVec.ofInt 64 (n : Int)).toNat = n := by simp; omega
  rw [BitVec.toNat_and, e1, e2, Nat.and_two_pow_sub_one_eq_mod]
  have h3 : n % 2 ^ j < 2 ^ j := Nat.mod_lt _ (Nat.two_pow_pos j)
  rw [IntKind.wrap_i64]
  have e4 : (n : Int) % 2 ^ j = ((n % 2 ^ j : Nat) : Int) := by rw [Int.natCast_emod, Int.natCast_pow]; rfl
  rw [e4]; omega
/-- A frame: its bytes for the receiver and the sender. -/
theorem frame_ends (a : Int) : ∃ (s : ByteArray) (to_ from_ : Int), (∀ k, 100 ≤ k → vmfleetlaw33_frame.f k a = some (s, to_, from_)) ∧ 2 ≤ s.size ∧ s.size ≤ 128 ∧ bt s 0 = to_ ∧ bt s 1 = from_ ∧ (0 ≤ to_ ∧ to_ ≤ 255) ∧ (0 ≤ from_ ∧ from_ ≤ 31) := by
  obtain ⟨v, e1, v0, v1⟩ := Mix_ends a 21
  have m5 : Go.bits .and .i64 (v / 32) 31 = v / 32 % 2 ^ 5 := and_mask _ 5 (by omega) 31 (by decide) ⟨by omega, by omega⟩
  have m0 : Go.bits .and .i64 v 31 = v % 2 ^ 5 := and_mask _ 5 (by omega) 31 (by decide) ⟨by omega, by omega⟩
  have m4 : Go.bits .and .i64 (v / 8192) 15 = v / 8192 % 2 ^ 4 := and_mask _ 4 (by omega) 15 (by decide) ⟨by omega, by omega⟩
  have p5 : (2 : Int) ^ 5 = 32 := by decide
  have p4 : (2 : Int) ^ 4 = 16 := by decide
  rw [p5] at m5 m0
  rw [p4] at m4
  obtain ⟨d, ed, sd⟩ := Data_ends v (v / 8192 % 16).toNat (by omega)
  rw [Int.toNat_of_nonneg (by omega)] at ed
  have q5 : v / 32 % 32 % 256 = v / 32 % 32 := by omega
  have q0 : v % 32 % 256 = v % 32 := by omega
  have hsz : ∀ x y : Int, (strOfNums [x, y] ++ d).size = 2 + d.size := fun x y => by rw [ByteArray.size_append, strOfNums_size]; rfl
  by_cases c : Go.bits .and .i64 (v / 1024) 7 = 0
  · have hb := bt_two 255 (v / 32 % 32) (by omega) (by omega) d
    refine ⟨strOfNums [255, v / 32 % 32] ++ d, 255, v / 32 % 32, fun k hk => ?_, by rw [hsz]; omega, by rw [hsz]; omega, hb.1, hb.2, by omega, by omega⟩
    unfold vmfleetlaw33_frame.f
    rw [e1, bs, if_pos c, bs, m5, m4, q5, ed k (by omega), bs, if_pos (by rw [strOfNums_size]; simp; omega)]
  · have hb := bt_two (v % 32) (v / 32 % 32) (by omega) (by omega) d
    refine ⟨strOfNums [v % 32, v / 32 % 32] ++ d, v % 32, v / 32 % 32, fun k hk => ?_, by rw [hsz]; omega, by rw [hsz]; omega, hb.1, hb.2, by omega, by omega⟩
    unfold vmfleetlaw33_frame.f
    rw [e1, bs, if_neg c, bs, m5, m4, m0, q5, q0, ed k (by omega), bs, if_pos (by rw [strOfNums_size]; simp; omega)]

theorem Round_eq (a n : Int) (hn : 0 < n) (hn2 : n ≤ 4611686018427387904) : vmfleetmake_Round.f a n = some (a % n) := by
  unfold vmfleetmake_Round.f
  rw [if_neg (by omega)]
  have h1 := Int.emod_nonneg a (show n ≠ 0 by omega)
  have h2 := Int.emod_lt_of_pos a hn
  have h3 := Int.tmod_lt_of_pos a hn
  have h4 := Int.lt_tmod_of_pos a hn
  have h5 : Int.tmod a n = a % n ∨ Int.tmod a n = a % n - n := by
    rw [Int.tmod_eq_emod]; split <;> simp <;> omega
  by_cases h : Int.tmod a n < 0
  · rw [if_pos h, w64 (by omega) (by omega)]; congr 1; omega
  · rw [if_neg h]; congr 1; omega

/-- The guest stands among the first i + 1 entries, at port g. -/
def At (g : Int) (i : Nat) (t : List S35) : Prop := ∃ pre post, t = pre ++ (⟨200, g⟩ : S35) :: post ∧ pre.length ≤ i
theorem at_learn (g : Int) (i : Nat) (hi : i ≤ 14) (t : List S35) (h : At g i t) (from_ p : Int) (hf : from_ ≠ 200) : At g (i + 1) (learnv t from_ p) := by
  obtain ⟨pre, post, rfl, hl⟩ := h
  unfold learnv
  by_cases c : from_ = 255
  · rw [if_pos c]; exact ⟨pre, post, rfl, by omega⟩
  · rw [if_neg c, List.filter_append, List.filter_cons, if_pos (by simpa using fun h => hf h.symm)]
    have hfl := List.length_filter_le (fun e : S35 => decide (e.f0 ≠ from_)) pre
    generalize List.filter (fun e : S35 => decide (e.f0 ≠ from_)) pre = pre' at hfl ⊢
    generalize List.filter (fun e : S35 => decide (e.f0 ≠ from_)) post = post'
    refine ⟨(⟨from_, p⟩ : S35) :: pre', post'.take (16 - (pre'.length + 2)), ?_, by simp; omega⟩
    rw [← List.cons_append, List.take_append, List.take_of_length_le (by simp; omega)]
    congr 1
    rw [show 16 - ((⟨from_, p⟩ : S35) :: pre').length = (16 - (pre'.length + 2)) + 1 by simp; omega, List.take_succ_cons]
theorem at_port (g : Int) (i : Nat) (t : List S35) (h : At g i t) (n : Int) (hv : VT n t) : portv t 200 = g ∧ 0 ≤ g ∧ g < n := by
  obtain ⟨pre, post, rfl, hl⟩ := h
  have hm : (⟨200, g⟩ : S35) ∈ pre ++ (⟨200, g⟩ : S35) :: post := by simp
  exact ⟨portv_in _ hv.2.2 ⟨200, g⟩ hm, (hv.2.1 _ hm).2⟩
theorem outs : ∀ q g : Fin 8, outv 8 (q.val : Int) (g.val : Int) = if q = g then [] else [(g.val : Int)] := by decide +kernel
theorem outs_all : ∀ q : Fin 8, (outv 8 (q.val : Int) (-1)).length = 7 := by decide +kernel
theorem others_from (x3 : Int) (others : List Int) (ho : others.length ≤ 10) (g : Int) (d : Nat) : ∀ (i k : Nat) (t : List S35), i ≤ others.length → others.length - i = d → d + 200 < k → VT 8 t → At g i t →
    vmfleetlaw33_SwitchMoves.l1 k x3 others g (i : Int) 8 t = some true := by
  induction d with
  | zero =>
    intro i k t h1 h2 h3 hv ha
    obtain ⟨k, rfl⟩ : ∃ q, k = q + 1 := ⟨k - 1, by omega⟩
    simp only [vmfleetlaw33_SwitchMoves.l1]
    have hq0 := Int.emod_nonneg x3 (show (8 : Int) ≠ 0 by decide)
    have hq1 := Int.emod_lt_of_pos x3 (show (0 : Int) < 8 by decide)
    have hb := bt_pair 200 3 (by omega) (by omega)
    have hF : network_Forward.f k 8 t (x3 % 8) (strOfNums [200, 3]) = some (8, learnv t (bt (strOfNums [200, 3]) 1) (x3 % 8), outv 8 (x3 % 8) (portv (learnv t (bt (strOfNums [200, 3]) 1) (x3 % 8)) (bt (strOfNums [200, 3]) 0))) := Forward_eq 8 (by omega) t hv (x3 % 8) ⟨hq0, hq1⟩ (strOfNums [200, 3]) (by rw [strOfNums_size]; decide) k (by omega)
    have hv2 := learn_VT 8 t hv 3 (x3 % 8) ⟨hq0, hq1⟩
    have ha2 := at_learn g i (by omega) t ha 3 (x3 % 8) (by omega)
    obtain ⟨hp, g0, g1⟩ := at_port g (i + 1) _ ha2 8 hv2
    rw [hb.1, hb.2, hp] at hF
    obtain ⟨q, hq⟩ : ∃ q : Fin 8, (q.val : Int) = x3 % 8 := ⟨⟨(x3 % 8).toNat, by omega⟩, by simp; omega⟩
    obtain ⟨f, hf⟩ : ∃ f : Fin 8, (f.val : Int) = g := ⟨⟨g.toNat, by omega⟩, by simp; omega⟩
    have ho := outs q f
    rw [hq, hf] at ho
    rw [ho] at hF
    rw [if_neg (by omega), Round_eq x3 8 (by omega) (by omega), bs]
    rw [hF, bs]
    by_cases c : q = f
    · have e : x3 % 8 = g := by rw [← hq, ← hf, c]
      rw [if_pos c]
      show (if x3 % 8 = g then _ else _) = _
      rw [if_pos e, if_pos (by rfl), awake33 k (by omega), bs]
    · have e : ¬ x3 % 8 = g := by rw [← hq, ← hf]; intro h; exact c (Fin.ext (by omega))
      rw [if_neg c]
      show (if x3 % 8 = g then _ else _) = _
      rw [if_neg e, if_pos (by rfl), if_pos (by simp), if_pos (by rfl), awake33 k (by omega), bs]
  | succ d ih =>
    intro i k t h1 h2 h3 hv ha
    obtain ⟨k, rfl⟩ : ∃ q, k = q + 1 := ⟨k - 1, by omega⟩
    simp only [vmfleetlaw33_SwitchMoves.l1]
    have ew : wrap64 ((i : Int) + 1) = ((i + 1 : Nat) : Int) := w64n (by simp) (by omega)
    obtain ⟨s, to_, fr, es, s2, s128, b0, b1, _, hfr⟩ := frame_ends (rd others (i : Int))
    have hq0 := Int.emod_nonneg (rd others (i : Int)) (show (8 : Int) ≠ 0 by decide)
    have hq1 := Int.emod_lt_of_pos (rd others (i : Int)) (show (0 : Int) < 8 by decide)
    have hF : network_Forward.f k 8 t (rd others (i : Int) % 8) s = some (8, learnv t (bt s 1) (rd others (i : Int) % 8), outv 8 (rd others (i : Int) % 8) (portv (learnv t (bt s 1) (rd others (i : Int) % 8)) (bt s 0))) := Forward_eq 8 (by omega) t hv (rd others (i : Int) % 8) ⟨hq0, hq1⟩ s ⟨s2, s128⟩ k (by omega)
    rw [if_pos (by omega), if_pos (by omega), es k (by omega), bs]
    dsimp only
    rw [Round_eq _ 8 (by omega) (by omega), bs, hF, bs, ew]
    dsimp only
    rw [b1]
    exact ih (i + 1) k _ (by omega) (by omega) (by omega) (learn_VT 8 t hv fr _ ⟨hq0, hq1⟩) (at_learn g i (by omega) t ha fr _ (by omega))
theorem before_from (before at_ : List Int) (hb : before.length ≤ 40) (hat : before.length ≤ at_.length) (x2 x3 : Int) (others : List Int) (ho : others.length ≤ 10) (d : Nat) : ∀ (i k : Nat) (t : List S35), i ≤ before.length → before.length - i = d → d + 300 < k → VT 8 t →
    vmfleetlaw33_SwitchMoves.l0 k before at_ x2 x3 others (i : Int) 8 t = some true := by
  induction d with
  | zero =>
    intro i k t h1 h2 h3 hv
    obtain ⟨k, rfl⟩ : ∃ q, k = q + 1 := ⟨k - 1, by omega⟩
    simp only [vmfleetlaw33_SwitchMoves.l0]
    have hq0 := Int.emod_nonneg x2 (show (8 : Int) ≠ 0 by decide)
    have hq1 := Int.emod_lt_of_pos x2 (show (0 : Int) < 8 by decide)
    have hb2 := bt_pair 255 200 (by omega) (by omega)
    have hF : network_Forward.f k 8 t (x2 % 8) (strOfNums [255, 200]) = some (8, learnv t (bt (strOfNums [255, 200]) 1) (x2 % 8), outv 8 (x2 % 8) (portv (learnv t (bt (strOfNums [255, 200]) 1) (x2 % 8)) (bt (strOfNums [255, 200]) 0))) := Forward_eq 8 (by omega) t hv (x2 % 8) ⟨hq0, hq1⟩ (strOfNums [255, 200]) (by rw [strOfNums_size]; decide) k (by omega)
    have hv2 := learn_VT 8 t hv 200 (x2 % 8) ⟨hq0, hq1⟩
    rw [hb2.1, hb2.2, portv_no _ 255 (fun e he => (hv2.2.1 e he).1)] at hF
    obtain ⟨q, hq⟩ : ∃ q : Fin 8, (q.val : Int) = x2 % 8 := ⟨⟨(x2 % 8).toNat, by omega⟩, by simp; omega⟩
    have hlen := outs_all q
    rw [hq] at hlen
    rw [if_neg (by omega), Round_eq x2 8 (by omega) (by omega), bs, Ann_eq, bs, hF, bs]
    dsimp only
    rw [hlen, if_pos (by rfl)]
    have ha : At (x2 % 8) 0 (learnv t 200 (x2 % 8)) := by
      unfold learnv
      rw [if_neg (by decide), show (16 : Nat) = 15 + 1 from rfl, List.take_succ_cons]
      exact ⟨[], _, rfl, Nat.le_refl _⟩
    have := others_from x3 others ho (x2 % 8) others.length 0 k _ (by omega) (by omega) (by omega) hv2 ha
    rw [Int.natCast_zero] at this
    exact this
  | succ d ih =>
    intro i k t h1 h2 h3 hv
    obtain ⟨k, rfl⟩ : ∃ q, k = q + 1 := ⟨k - 1, by omega⟩
    simp only [vmfleetlaw33_SwitchMoves.l0]
    have ew : wrap64 ((i : Int) + 1) = ((i + 1 : Nat) : Int) := w64n (by simp) (by omega)
    obtain ⟨s, to_, fr, es, s2, s128, b0, b1, _, hfr⟩ := frame_ends (rd before (i : Int))
    have hq0 := Int.emod_nonneg (rd at_ (i : Int)) (show (8 : Int) ≠ 0 by decide)
    have hq1 := Int.emod_lt_of_pos (rd at_ (i : Int)) (show (0 : Int) < 8 by decide)
    have hF : network_Forward.f k 8 t (rd at_ (i : Int) % 8) s = some (8, learnv t (bt s 1) (rd at_ (i : Int) % 8), outv 8 (rd at_ (i : Int) % 8) (portv (learnv t (bt s 1) (rd at_ (i : Int) % 8)) (bt s 0))) := Forward_eq 8 (by omega) t hv (rd at_ (i : Int) % 8) ⟨hq0, hq1⟩ s ⟨s2, s128⟩ k (by omega)
    rw [if_pos (by omega), if_pos (by omega), es k (by omega), bs]
    dsimp only
    rw [if_pos (by omega), Round_eq _ 8 (by omega) (by omega), bs, hF, bs, ew]
    dsimp only
    exact ih (i + 1) k _ (by omega) (by omega) (by omega) (learn_VT 8 t hv _ _ ⟨hq0, hq1⟩)
theorem SwitchMoves : vmfleetlaw33_SwitchMoves.Pure := by
  intro before at_ x2 x3 others h0 h1 h2 h3 h4 h5 h6 h7 h8 h9 h10
  refine ⟨1000, ?_⟩
  have hj : vmfleetlaw33_SwitchMoves.j0 1000 before at_ x2 x3 others true = some true := by
    rw [show (1000 : Nat) = 999 + 1 from rfl]
    simp only [vmfleetlaw33_SwitchMoves.j0]
    rw [if_pos (by trivial), awake33 999 (by omega), bs]
  unfold vmfleetlaw33_SwitchMoves.f
  by_cases c1 : (before.length : Int) > 40
  · rw [if_pos c1, hj]
  · rw [if_neg c1]
    by_cases c2 : (at_.length : Int) < (before.length : Int)
    · rw [if_pos c2, hj]
    · rw [if_neg c2]
      by_cases c3 : (others.length : Int) > 10
      · rw [decide_eq_true c3, hj]
      · rw [decide_eq_false c3, show (1000 : Nat) = 999 + 1 from rfl]
        simp only [vmfleetlaw33_SwitchMoves.j0]
        rw [if_neg (by simp), nNew_eq 8 (by omega), bs, if_pos rfl]
        have := before_from before at_ (by omega) (by omega) x2 x3 others (by omega) before.length 0 999 [] (by omega) (by omega) (by omega) ⟨by simp, fun e h => (nomatch h), by simp⟩
        rw [Int.natCast_zero] at this
        exact this

end Go.Proofs.Ytdkbhjmoiblobaa.Pure
