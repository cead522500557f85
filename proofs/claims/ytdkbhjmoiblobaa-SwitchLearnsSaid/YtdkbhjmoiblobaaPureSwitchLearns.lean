/- Proved: a frame is forwarded to the port behind which its receiver was seen last, if that is among the MaxTable addresses that were seen most recently; otherwise to all other ports; never to the port at which it arrived. (60 frames.) Conditions: none. -/
import Derived.Test.YtdkbhjmoiblobaaHSwitchLearnsx1
import Derived.Test.YtdkbhjmoiblobaaHSwitchLearnsx2
import Derived.Test.YtdkbhjmoiblobaaHSwitchLearnsx3
import Derived.Test.YtdkbhjmoiblobaaHSwitchLearnsx4
import Derived.Test.YtdkbhjmoiblobaaHSwitchLearnsx5
import Derived.Test.YtdkbhjmoiblobaaHSwitchLearnsx6
import Derived.Test.YtdkbhjmoiblobaaHSwitchLearnsx7
import Derived.Test.YtdkbhjmoiblobaaBv
import Derived.Test.YtdkbhjmoiblobaaMem
namespace Go.Proofs.Ytdkbhjmoiblobaa.Pure
open Go.RowKit Go.Proofs.Ytdkbhjmoiblobaa.HSwitchLearns Go.Proofs.YtdkbhjmoiblobaaW.PrintWords Go.Proofs.YtdkbhjmoiblobaaW.PrintLast Go.Proofs.Ytdkbhjmoiblobaa.Bv Go.Proofs.Ytdkbhjmoiblobaa.Mem
set_option linter.unusedVariables false
set_option linter.unusedSimpArgs false

/-- A bind of what is there. -/
theorem bs {α β : Type} (a : α) (f : α → Option β) : (some a).bind f = f a := rfl

theorem nNew_eq (n : Int) (h : 1 ≤ n ∧ n ≤ 8) : network_New.f n = some (n, [], true) := by
  unfold network_New.f
  rw [if_neg (by omega), if_neg (by omega)]

theorem Find_eq (t : List S35) (h : t.length ≤ 1000000000000) (p : Int) : network_find.f t p = some (lrn_idx p t 0) := by unfold network_find.f; rw [if_pos h]
/-- The place of an address: nowhere, or the place of an entry of it. -/
theorem lidx_spec (p : Int) : ∀ (t : List S35) (i : Nat), (lrn_idx p t i = -1 ∧ ∀ e ∈ t, e.f0 ≠ p) ∨ ∃ j : Nat, j < t.length ∧ lrn_idx p t i = ((i + j : Nat) : Int) ∧ (rd_T35 t (j : Int)).f0 = p ∧ t = t.take j ++ rd_T35 t (j : Int) :: t.drop (j + 1)
  | [], i => .inl ⟨rfl, fun e h => by cases h⟩
  | x :: xs, i => by
    by_cases h : x.f0 = p
    · exact .inr ⟨0, by simp, by unfold lrn_idx; rw [if_pos h]; rfl, h, rfl⟩
    · rcases lidx_spec p xs (i + 1) with ⟨h1, h2⟩ | ⟨j, h1, h2, h3, h4⟩
      · refine .inl ⟨by unfold lrn_idx; rw [if_neg h]; exact h1, fun e he => ?_⟩
        rcases List.mem_cons.1 he with rfl | he
        · exact h
        · exact h2 e he
      · have e : rd_T35 (x :: xs) ((j + 1 : Nat) : Int) = rd_T35 xs (j : Int) := by unfold rd_T35; rw [Int.toNat_natCast, Int.toNat_natCast]; rfl
        refine .inr ⟨j + 1, by simpa using h1, by unfold lrn_idx; rw [if_neg h, h2]; congr 1; omega, by rw [e]; exact h3, ?_⟩
        rw [e, List.take_succ_cons, List.drop_succ_cons, List.cons_append, ← h4]
theorem nodup_inj : ∀ (t : List S35), (t.map (·.f0)).Nodup → ∀ a ∈ t, ∀ b ∈ t, a.f0 = b.f0 → a = b
  | [], _, a, ha, _, _, _ => by cases ha
  | x :: xs, hn, a, ha, b, hb, h => by
    rw [List.map_cons, List.nodup_cons] at hn
    rcases List.mem_cons.1 ha with rfl | ha'
    · rcases List.mem_cons.1 hb with rfl | hb'
      · rfl
      · exact absurd (h ▸ List.mem_map_of_mem (f := fun y : S35 => y.f0) hb') hn.1
    · rcases List.mem_cons.1 hb with rfl | hb'
      · exact absurd (h ▸ List.mem_map_of_mem (f := fun y : S35 => y.f0) ha') hn.1
      · exact nodup_inj xs hn.2 a ha' b hb' h
/-- Among entries with different addresses the place of an address leads to its entry. -/
theorem lidx_of (t : List S35) (hn : (t.map (·.f0)).Nodup) (e : S35) (he : e ∈ t) : ∃ j : Nat, j < t.length ∧ lrn_idx e.f0 t 0 = (j : Int) ∧ rd_T35 t (j : Int) = e ∧ t = t.take j ++ e :: t.drop (j + 1) := by
  rcases lidx_spec e.f0 t 0 with ⟨_, h2⟩ | ⟨j, h1, h2, h3, h4⟩
  · exact absurd rfl (h2 e he)
  · rw [Nat.zero_add] at h2
    have hm : rd_T35 t (j : Int) ∈ t := by
      have : rd_T35 t (j : Int) ∈ t.take j ++ rd_T35 t (j : Int) :: t.drop (j + 1) := by simp
      rwa [← h4] at this
    have heq : rd_T35 t (j : Int) = e := nodup_inj t hn _ hm e he h3
    exact ⟨j, h1, h2, heq, by rw [← heq]; exact h4⟩
theorem lidx_no (t : List S35) (p : Int) (h : ∀ e ∈ t, e.f0 ≠ p) : lrn_idx p t 0 = -1 := by
  rcases lidx_spec p t 0 with ⟨h1, _⟩ | ⟨j, h1, h2, h3, h4⟩
  · exact h1
  · have hm : rd_T35 t (j : Int) ∈ t := by
      have : rd_T35 t (j : Int) ∈ t.take j ++ rd_T35 t (j : Int) :: t.drop (j + 1) := by simp
      rwa [← h4] at this
    exact absurd h3 (h _ hm)

/-- A valid table of a switch with n ports. -/
def VT (n : Int) (t : List S35) : Prop := t.length ≤ 16 ∧ (∀ e ∈ t, e.f0 ≠ 255 ∧ 0 ≤ e.f1 ∧ e.f1 < n) ∧ (t.map (·.f0)).Nodup
theorem Valid_from (n : Int) (t : List S35) (h : VT n t) (d : Nat) : ∀ (i k : Nat), i ≤ t.length → t.length - i = d → d < k → network_Valid.l0 k t (t.length : Int) (i : Int) n t = some true := by
  have hl := h.1
  induction d with
  | zero =>
    intro i k h1 h2 h3
    obtain ⟨k, rfl⟩ : ∃ q, k = q + 1 := ⟨k - 1, by omega⟩
    simp only [network_Valid.l0]
    rw [if_neg (by omega)]
  | succ d ih =>
    intro i k h1 h2 h3
    obtain ⟨k, rfl⟩ : ∃ q, k = q + 1 := ⟨k - 1, by omega⟩
    simp only [network_Valid.l0]
    have hi : i < t.length := by omega
    have hr : rd_T35 t (i : Int) = t[i] := by unfold rd_T35; rw [Int.toNat_natCast, List.getD_eq_getElem?_getD, List.getElem?_eq_getElem hi]; rfl
    obtain ⟨g1, g2, g3⟩ := h.2.1 t[i] (List.getElem_mem hi)
    have ew : wrap64 ((i : Int) + 1) = ((i + 1 : Nat) : Int) := w64n (by simp) (by omega)
    have hno : lrn_idx t[i].f0 (t.take i) 0 = -1 := by
      apply lidx_no
      intro e he hc
      have hn := h.2.2
      rw [← List.take_append_drop i t, List.map_append, List.nodup_append] at hn
      have h5 : t[i].f0 ∈ (t.drop i).map (·.f0) := List.mem_map.2 ⟨t[i], by rw [List.drop_eq_getElem_cons hi]; exact List.mem_cons_self .., rfl⟩
      exact hn.2.2 _ (List.mem_map.2 ⟨e, he, rfl⟩) _ h5 hc
    rw [if_pos (by omega), if_pos (by omega), if_pos (by omega), hr, if_neg g1, if_neg (by omega), if_neg (by omega), if_pos (by omega), Int.toNat_natCast, Find_eq _ (by rw [List.length_take]; omega), bs, hno, if_neg (by decide), ew]
    exact ih (i + 1) k (by omega) (by omega) (by omega)
theorem Valid_eq (n : Int) (hn : 1 ≤ n ∧ n ≤ 8) (t : List S35) (h : VT n t) (k : Nat) (hk : 20 ≤ k) : network_Valid.f k n t = some true := by
  obtain ⟨k, rfl⟩ : ∃ q, k = q + 1 := ⟨k - 1, by omega⟩
  have hl := h.1
  unfold network_Valid.f
  rw [if_neg (by omega), if_neg (by omega), decide_eq_false (by omega)]
  simp only [network_Valid.j0]
  rw [if_neg Bool.false_ne_true]
  have := Valid_from n t h t.length 0 k (by omega) (by omega) (by omega)
  rw [Int.natCast_zero] at this
  exact this

theorem Port_in (n : Int) (t : List S35) (ht : t.length ≤ 1000) (hn : (t.map (·.f0)).Nodup) (e : S35) (he : e ∈ t) : network_Port.f n t e.f0 = some (e.f1, true) := by
  obtain ⟨j, h1, h2, h3, _⟩ := lidx_of t hn e he
  unfold network_Port.f
  rw [Find_eq t (by omega), bs, h2, if_neg (by omega), if_pos (by omega), if_pos (by omega), h3]
theorem Port_no (n : Int) (t : List S35) (ht : t.length ≤ 1000) (p : Int) (h : ∀ e ∈ t, e.f0 ≠ p) : network_Port.f n t p = some (0, false) := by
  unfold network_Port.f
  rw [Find_eq t (by omega), bs, lidx_no t p h, if_pos (by decide)]

theorem CloneL_eq (t : List S35) (h : t.length ≤ 1000000000000) : api_Learned_16.f t = some t := by unfold api_Learned_16.f; rw [if_pos h]

theorem Addr_eq (s : ByteArray) (h : 2 ≤ s.size ∧ s.size ≤ 128) : network_Addresses.f s = some (bt s 0, bt s 1, true) := by
  unfold network_Addresses.f
  rw [if_neg (by omega), if_neg (by omega), if_pos (by omega), if_pos (by omega)]

/-- The ports of a switch with n ports to_ which a frame from port p goes: to_ known alone, if there is one. -/
def outv (n : Nat) (p known : Int) : List Int := ((List.range n).map fun (q : Nat) => (q : Int)).filter fun q => decide (q ≠ p ∧ (known < 0 ∨ q = known))
theorem out_from (n : Nat) (hn : n ≤ 8) (p known : Int) (t : List S35) (d : Nat) : ∀ (i k : Nat) (acc : List Int), i ≤ n → n - i = d → d < k → acc.length + d ≤ 100 → network_Forward.l0 k p acc known (n : Int) (i : Int) (n : Int) t = some ((n : Int), t, acc ++ (((List.range n).drop i).map fun (q : Nat) => (q : Int)).filter fun q => decide (q ≠ p ∧ (known < 0 ∨ q = known))) := by
  induction d with
  | zero =>
    intro i k acc h1 h2 h3 h4
    obtain ⟨k, rfl⟩ : ∃ q, k = q + 1 := ⟨k - 1, by omega⟩
    simp only [network_Forward.l0]
    rw [if_neg (by omega), List.drop_of_length_le (by simp; omega)]
    simp
  | succ d ih =>
    intro i k acc h1 h2 h3 h4
    obtain ⟨k, rfl⟩ : ∃ q, k = q + 1 := ⟨k - 1, by omega⟩
    simp only [network_Forward.l0]
    have ew : wrap64 ((i : Int) + 1) = ((i + 1 : Nat) : Int) := w64n (by simp) (by omega)
    have hi : i < (List.range n).length := by simp; omega
    have hd : (List.range n).drop i = i :: (List.range n).drop (i + 1) := by rw [List.drop_eq_getElem_cons hi]; simp
    rw [if_pos (by omega), ew, hd, List.map_cons, List.filter_cons]
    by_cases c1 : (i : Int) = p
    · rw [if_pos c1, ih (i + 1) k acc (by omega) (by omega) (by omega) (by omega), if_neg (by simp [c1])]
    · rw [if_neg c1]
      by_cases c2 : known < 0
      · rw [if_pos c2, if_pos (by omega), ih (i + 1) k _ (by omega) (by omega) (by omega) (by simp; omega), if_pos (by simp [c1, c2]), List.append_assoc]; rfl
      · rw [if_neg c2]
        by_cases c3 : (i : Int) = known
        · rw [if_pos c3, if_pos (by omega), ih (i + 1) k _ (by omega) (by omega) (by omega) (by simp; omega), if_pos (by simp [c3] at c1 ⊢; exact c1), List.append_assoc]; rfl
        · rw [if_neg c3, ih (i + 1) k acc (by omega) (by omega) (by omega) (by omega), if_neg (by simp [c2, c3])]
theorem Forward_j2 (n : Nat) (hn : n ≤ 8) (p known : Int) (t : List S35) (k : Nat) (hk : 20 ≤ k) : network_Forward.j2 k p [] known (n : Int) t = some ((n : Int), t, outv n p known) := by
  obtain ⟨k, rfl⟩ : ∃ q, k = q + 1 := ⟨k - 1, by omega⟩
  simp only [network_Forward.j2]
  have := out_from n hn p known t n 0 k [] (by omega) (by omega) (by omega) (by simp; omega)
  rw [Int.natCast_zero, List.drop_zero, List.nil_append] at this
  exact this
/-- Where an address was seen last: its port, or -1. -/
def portv (t : List S35) (a : Int) : Int := match t.find? (fun e => decide (e.f0 = a)) with | some e => e.f1 | none => -1
theorem portv_in (t : List S35) (hn : (t.map (·.f0)).Nodup) (e : S35) (he : e ∈ t) : portv t e.f0 = e.f1 := by
  unfold portv
  cases h : t.find? (fun x => decide (x.f0 = e.f0)) with
  | none =>
    have := List.find?_eq_none.1 h e he
    simp at this
  | some x =>
    have h1 := List.mem_of_find?_eq_some h
    have h2 := List.find?_some h
    rw [nodup_inj t hn x h1 e he (of_decide_eq_true h2)]
theorem portv_no (t : List S35) (a : Int) (h : ∀ e ∈ t, e.f0 ≠ a) : portv t a = -1 := by
  unfold portv
  rw [List.find?_eq_none.2 (fun x hx => by simpa using h x hx)]
theorem Forward_j1 (n : Nat) (hn : n ≤ 8) (p to_ : Int) (t : List S35) (h : VT (n : Int) t) (k : Nat) (hk : 30 ≤ k) : network_Forward.j1 k p to_ (n : Int) t = some ((n : Int), t, outv n p (portv t to_)) := by
  obtain ⟨k, rfl⟩ : ∃ q, k = q + 1 := ⟨k - 1, by omega⟩
  have hl := h.1
  simp only [network_Forward.j1]
  by_cases c : to_ = 255
  · rw [if_pos c, Forward_j2 n hn p _ t k (by omega), portv_no t to_ (fun e he => by rw [c]; exact (h.2.1 e he).1)]
  · rw [if_neg c]
    by_cases c2 : ∃ e ∈ t, e.f0 = to_
    · obtain ⟨e, he, rfl⟩ := c2
      rw [Port_in _ t (by omega) h.2.2 e he, bs, if_pos rfl, Forward_j2 n hn p _ t k (by omega), portv_in t h.2.2 e he]
    · have hno : ∀ e ∈ t, e.f0 ≠ to_ := fun e he hc => c2 ⟨e, he, hc⟩
      rw [Port_no _ t (by omega) to_ hno, bs, if_neg Bool.false_ne_true, Forward_j2 n hn p _ t k (by omega), portv_no t to_ hno]
/-- The table after a frame from an address at a port. -/
def learnv (t : List S35) (from_ p : Int) : List S35 := if from_ = 255 then t else ((⟨from_, p⟩ : S35) :: t.filter (fun e => decide (e.f0 ≠ from_))).take 16
theorem erase_filter (t : List S35) (hn : (t.map (·.f0)).Nodup) (j : Nat) (e : S35) (ht : t = t.take j ++ e :: t.drop (j + 1)) : t.take j ++ t.drop (j + 1) = t.filter (fun x => decide (x.f0 ≠ e.f0)) := by
  have hn2 := hn
  rw [ht, List.map_append, List.map_cons, List.nodup_append, List.nodup_cons] at hn2
  conv => rhs; rw [ht]
  rw [List.filter_append, List.filter_cons, if_neg (by simp), List.filter_eq_self.2, List.filter_eq_self.2]
  · intro x hx
    apply decide_eq_true
    intro hc
    exact hn2.2.1.1 (hc ▸ List.mem_map_of_mem (f := fun y : S35 => y.f0) hx)
  · intro x hx
    apply decide_eq_true
    intro hc
    exact hn2.2.2 _ (List.mem_map_of_mem (f := fun y : S35 => y.f0) hx) _ (List.mem_cons_self ..) hc
theorem learn_VT (n : Int) (t : List S35) (h : VT n t) (from_ p : Int) (hp : 0 ≤ p ∧ p < n) : VT n (learnv t from_ p) := by
  unfold learnv
  by_cases c : from_ = 255
  · rw [if_pos c]; exact h
  · rw [if_neg c]
    have hnd : (((⟨from_, p⟩ : S35) :: t.filter (fun e => decide (e.f0 ≠ from_))).map (·.f0)).Nodup := by
      rw [List.map_cons, List.nodup_cons]
      refine ⟨fun hm => ?_, h.2.2.sublist (List.Sublist.map _ List.filter_sublist)⟩
      obtain ⟨y, hy, he⟩ := List.mem_map.1 hm
      exact (of_decide_eq_true (List.mem_filter.1 hy).2) he
    refine ⟨by rw [List.length_take]; omega, fun e he => ?_, hnd.sublist (List.Sublist.map _ (List.take_sublist _ _))⟩
    rcases List.mem_cons.1 (List.mem_of_mem_take he) with rfl | he
    · exact ⟨c, hp.1, hp.2⟩
    · exact h.2.1 e (List.mem_filter.1 he).1
theorem take16 (l : List S35) : l.take (mn (l.length : Int) 16).toNat = l.take 16 := by
  have hm : (mn (l.length : Int) 16).toNat = min l.length 16 := by unfold mn; split <;> omega
  rw [hm, List.take_eq_take_iff]; omega
theorem Forward_eq (n : Nat) (hn : 1 ≤ n ∧ n ≤ 8) (t : List S35) (h : VT (n : Int) t) (p : Int) (hp : 0 ≤ p ∧ p < (n : Int)) (s : ByteArray) (hs : 2 ≤ s.size ∧ s.size ≤ 128) (k : Nat) (hk : 60 ≤ k) :
    network_Forward.f k (n : Int) t p s = some ((n : Int), learnv t (bt s 1) p, outv n p (portv (learnv t (bt s 1) p) (bt s 0))) := by
  obtain ⟨k, rfl⟩ : ∃ q, k = q + 1 := ⟨k - 1, by omega⟩
  have hl := h.1
  have hv := learn_VT (n : Int) t h (bt s 1) p hp
  unfold network_Forward.f
  rw [CloneL_eq t (by omega), bs, Addr_eq s hs, bs, if_pos rfl, Valid_eq (n : Int) (by omega) t h (k + 1) (by omega), bs, if_pos rfl, if_neg (by omega), decide_eq_false (by omega)]
  simp only [network_Forward.j0]
  rw [if_neg Bool.false_ne_true]
  generalize bt s 1 = from_ at hv ⊢
  generalize bt s 0 = to_
  by_cases c : from_ = 255
  · have e1 : learnv t from_ p = t := by unfold learnv; rw [if_pos c]
    rw [if_pos c, Forward_j1 n hn.2 p to_ t h k (by omega), e1]
  · have e1 : learnv t from_ p = ((⟨from_, p⟩ : S35) :: t.filter (fun e => decide (e.f0 ≠ from_))).take 16 := by unfold learnv; rw [if_neg c]
    have hmn : ∀ l : List S35, 0 ≤ mn (l.length : Int) 16 ∧ mn (l.length : Int) 16 ≤ (l.length : Int) := fun l => by unfold mn; split <;> omega
    rw [if_neg c, Find_eq t (by omega), bs]
    by_cases c2 : ∃ e ∈ t, e.f0 = from_
    · obtain ⟨e, he, rfl⟩ := c2
      obtain ⟨j, j1, j2, j3, j4⟩ := lidx_of t h.2.2 e he
      rw [j2, if_pos (by omega), if_pos ⟨by omega, by omega⟩, bs, Int.toNat_natCast, erase_filter t h.2.2 j e j4,
        if_pos (by have := List.length_filter_le (fun x : S35 => decide (x.f0 ≠ e.f0)) t; omega), bs, if_pos (hmn _).1, if_pos (hmn _).2, take16, ← e1]
      exact Forward_j1 n hn.2 p to_ _ hv k (by omega)
    · have hno : ∀ e ∈ t, e.f0 ≠ from_ := fun e he hc => c2 ⟨e, he, hc⟩
      have e2 : t.filter (fun e => decide (e.f0 ≠ from_)) = t := List.filter_eq_self.2 (fun x hx => decide_eq_true (hno x hx))
      rw [e2] at e1
      rw [lidx_no t from_ hno, if_neg (by decide), if_pos (by omega), bs, if_pos (hmn _).1, if_pos (hmn _).2, take16, ← e1]
      exact Forward_j1 n hn.2 p to_ _ hv k (by omega)

theorem Ann_eq (a : Int) : network_Announce.f a = some (strOfNums [255, a]) := rfl
theorem bt_list (l : List UInt8) (i : Nat) (h : i < l.length) : bt (⟨l.toArray⟩ : ByteArray) (i : Int) = ((l[i]).toNat : Int) := by
  unfold bt
  rw [dif_pos (by rw [Int.toNat_natCast]; simpa [ByteArray.size] using h)]
  congr 1
theorem bt_two (x y : Int) (hx : 0 ≤ x ∧ x ≤ 255) (hy : 0 ≤ y ∧ y ≤ 255) (d : ByteArray) : bt (strOfNums [x, y] ++ d) 0 = x ∧ bt (strOfNums [x, y] ++ d) 1 = y := by
  have e : strOfNums [x, y] ++ d = (⟨([UInt8.ofNat x.toNat, UInt8.ofNat y.toNat] ++ d.data.toList).toArray⟩ : ByteArray) := by
    apply ByteArray.ext
    simp [strOfNums, ByteArray.data_append]
  rw [e]
  have h0 := bt_list ([UInt8.ofNat x.toNat, UInt8.ofNat y.toNat] ++ d.data.toList) 0 (by simp)
  have h1 := bt_list ([UInt8.ofNat x.toNat, UInt8.ofNat y.toNat] ++ d.data.toList) 1 (by simp)
  refine ⟨h0.trans ?_, h1.trans ?_⟩
  · simp; omega
  · simp; omega
theorem bt_pair (x y : Int) (hx : 0 ≤ x ∧ x ≤ 255) (hy : 0 ≤ y ∧ y ≤ 255) : bt (strOfNums [x, y]) 0 = x ∧ bt (strOfNums [x, y]) 1 = y := by
  have := bt_two x y hx hy ⟨#[]⟩
  have e : strOfNums [x, y] ++ (⟨#[]⟩ : ByteArray) = strOfNums [x, y] := by
    apply ByteArray.ext
    simp [ByteArray.data_append]
  rwa [e] at this

theorem SameInts_from (a : List Int) (hb : a.length ≤ 140737488355328) (d : Nat) : ∀ (i k : Nat), i ≤ a.length → a.length - i = d → d < k → vmfleetref1_SameInts.l0 k a a (i : Int) = some true := by
  induction d with
  | zero =>
    intro i k h1 h2 h3
    obtain ⟨k, rfl⟩ : ∃ q, k = q + 1 := ⟨k - 1, by omega⟩
    simp only [vmfleetref1_SameInts.l0]
    rw [if_neg (by omega)]
  | succ d ih =>
    intro i k h1 h2 h3
    obtain ⟨k, rfl⟩ : ∃ q, k = q + 1 := ⟨k - 1, by omega⟩
    simp only [vmfleetref1_SameInts.l0]
    have e1 : wrap64 ((i : Int) + 1) = ((i + 1 : Nat) : Int) := by rw [w64 (by omega) (by omega)]; simp
    rw [if_pos (by omega), if_pos (by omega), if_pos (by omega), if_pos trivial, e1, ih (i + 1) k (by omega) (by omega) (by omega)]
theorem SameInts_same (a : List Int) (hb : a.length ≤ 140737488355328) (k : Nat) (hk : a.length < k) : vmfleetref1_SameInts.f k a a = some true := by
  unfold vmfleetref1_SameInts.f
  have := SameInts_from a hb a.length 0 k (by omega) (by omega) hk
  rw [Int.natCast_zero] at this
  rw [if_pos rfl, this]

theorem awake33 (k : Nat) (hk : 60 ≤ k) : vmfleetlaw33_awake.f k = some true := at_rounds (g := fun k => vmfleetlaw33_awake.f k) (fun k => vmfleetlaw33_awake.mono k) hk (by kernel_rfl)

theorem Mix_ends (a b : Int) : ∃ r, vmfleetmake_Mix.f a b = some r ∧ 0 ≤ r ∧ r ≤ 9223372036854775807 := by
  unfold vmfleetmake_Mix.f
  obtain ⟨p, q, hp, h0, h1⟩ : ∃ p q, vmfleetref1_Next.f (Go.bits .xor .u64 (IntKind.u64.wrap (a)) (IntKind.u64.wrap ((IntKind.u64.wrap (b)) * 11400714819323198485))) = some (p, q) ∧ 0 ≤ p ∧ p ≤ 18446744073709551615 := by
    refine ⟨_, _, rfl, ?_⟩
    show 0 ≤ IntKind.u64.wrap _ ∧ IntKind.u64.wrap _ ≤ _
    rw [wu64]; omega
  rw [hp]; rw [bs]; try dsimp only
  exact ⟨_, rfl, by rw [w64 (by omega) (by omega)]; omega, by rw [w64 (by omega) (by omega)]; omega⟩

theorem Data_from (x : Int) (n : Nat) (hn : n ≤ 1000000) (d : Nat) : ∀ (i k : Nat) (l : List Int), l.length = i → i ≤ n → n - i = d → d < k → ∃ s, vmfleetmake_Data.l0 k x (n : Int) l (i : Int) = some s ∧ s.size = n := by
  induction d with
  | zero =>
    intro i k l hl h1 h2 h3
    obtain ⟨k, rfl⟩ : ∃ q, k = q + 1 := ⟨k - 1, by omega⟩
    simp only [vmfleetmake_Data.l0]
    rw [if_neg (by omega)]
    exact ⟨_, rfl, by rw [strOfNums_size]; omega⟩
  | succ d ih =>
    intro i k l hl h1 h2 h3
    obtain ⟨k, rfl⟩ : ∃ q, k = q + 1 := ⟨k - 1, by omega⟩
    simp only [vmfleetmake_Data.l0]
    obtain ⟨p, e1, p0, p1⟩ := Mix_ends x (wrap64 (Int.tdiv (i : Int) 9))
    have ew : wrap64 ((i : Int) + 1) = ((i + 1 : Nat) : Int) := by rw [w64 (by omega) (by omega)]; simp
    rw [if_pos (by omega), e1, bs, if_pos (by omega), ew]
    exact ih (i + 1) k _ (by simp; omega) (by omega) (by omega) (by omega)
theorem Data_ends (x : Int) (n : Nat) (hn : n ≤ 1000000) : ∃ s, (∀ k, n < k → vmfleetmake_Data.f k x (n : Int) = some s) ∧ s.size = n := by
  obtain ⟨s, h1, h2⟩ := Data_from x n hn n 0 (n + 1) [] rfl (by omega) (by omega) (by omega)
  rw [Int.natCast_zero] at h1
  exact ⟨s, fun k hk => at_rounds (g := fun k => vmfleetmake_Data.f k x (n : Int)) (fun k => vmfleetmake_Data.mono _ _ k) hk h1, h2⟩

theorem and_mask (x : Int) (j : Nat) (hj : j ≤ 32) (m : Int) (hm : m = 2 ^ j - 1) (h : 0 ≤ x ∧ x ≤ 9223372036854775807) : Go.bits .and .i64 x m = x % 2 ^ j := by
  subst hm
  obtain ⟨n, rfl⟩ : ∃ n : Nat, x = (n : Int) := ⟨x.toNat, by omega⟩
  have e0 : ((2 : Int) ^ j - 1) = ((2 ^ j - 1 : Nat) : Int) := by
    have h1 := Nat.two_pow_pos j
    have h2 : ((2 ^ j : Nat) : Int) = (2 : Int) ^ j := by rw [Int.natCast_pow]; rfl
    omega
  rw [e0]
  show IntKind.i64.wrap ((BitVec.ofInt 64 (n : Int) &&& BitVec.ofInt 64 ((2 ^ j - 1 : Nat) : Int)).toNat : Int) = _
  have hp : 2 ^ j ≤ 2 ^ 32 := Nat.pow_le_pow_right (by omega) hj
  have e1 : (BitVec.ofInt 64 ((2 ^ j - 1 : Nat) : Int)).toNat = 2 ^ j - 1 := by simp; omega
  have e2 : (BitVec.ofInt 64 (n : Int)).toNat = n := by simp; omega
  rw [BitVec.toNat_and, e1, e2, Nat.and_two_pow_sub_one_eq_mod]
  have h3 : n % 2 ^ j < 2 ^ j := Nat.mod_lt _ (Nat.two_pow_pos j)
  rw [IntKind.wrap_i64]
  have e4 : (n : Int) % 2 ^ j = ((n % 2 ^ j : Nat) : Int) := by rw [Int.natCast_emod, Int.natCast_pow]; rfl
  rw [e4]; omega
/-- A frame: its bytes for the receiver and the sender. -/
theorem frame_ends (a : Int) : ∃ (s : ByteArray) (to_ from_ : Int), (∀ k, 100 ≤ k → vmfleetlaw33_frame.f k a = some (s, to_, from_)) ∧ 2 ≤ s.size ∧ s.size ≤ 128 ∧ bt s 0 = to_ ∧ bt s 1 = from_ ∧ (0 ≤ to_ ∧ to_ ≤ 255) ∧ (0 ≤ from_ ∧ from_ ≤ 31) := by
  obtain ⟨v, e1, v0, v1⟩ := Mix_ends a 21
  have m5 : Go.bits .and .i64 (v / 32) 31 = v / 32 % 2 ^ 5 := and_mask _ 5 (by omega) 31 (by decide) ⟨by omega, by omega⟩
  have m0 : Go.bits .and .i64 v 31 = v % 2 ^ 5 := and_mask _ 5 (by omega) 31 (by decide) ⟨by omega, by omega⟩
  have m4 : Go.bits .and .i64 (v / 8192) 15 = v / 8192 % 2 ^ 4 := and_mask _ 4 (by omega) 15 (by decide) ⟨by omega, by omega⟩
  have p5 : (2 : Int) ^ 5 = 32 := by decide
  have p4 : (2 : Int) ^ 4 = 16 := by decide
  rw [p5] at m5 m0
  rw [p4] at m4
  obtain ⟨d, ed, sd⟩ := Data_ends v (v / 8192 % 16).toNat (by omega)
  rw [Int.toNat_of_nonneg (by omega)] at ed
  have q5 : v / 32 % 32 % 256 = v / 32 % 32 := by omega
  have q0 : v % 32 % 256 = v % 32 := by omega
  have hsz : ∀ x y : Int, (strOfNums [x, y] ++ d).size = 2 + d.size := fun x y => by rw [ByteArray.size_append, strOfNums_size]; rfl
  by_cases c : Go.bits .and .i64 (v / 1024) 7 = 0
  · have hb := bt_two 255 (v / 32 % 32) (by omega) (by omega) d
    refine ⟨strOfNums [255, v / 32 % 32] ++ d, 255, v / 32 % 32, fun k hk => ?_, by rw [hsz]; omega, by rw [hsz]; omega, hb.1, hb.2, by omega, by omega⟩
    unfold vmfleetlaw33_frame.f
    rw [e1, bs, if_pos c, bs, m5, m4, q5, ed k (by omega), bs, if_pos (by rw [strOfNums_size]; simp; omega)]
  · have hb := bt_two (v % 32) (v / 32 % 32) (by omega) (by omega) d
    refine ⟨strOfNums [v % 32, v / 32 % 32] ++ d, v % 32, v / 32 % 32, fun k hk => ?_, by rw [hsz]; omega, by rw [hsz]; omega, hb.1, hb.2, by omega, by omega⟩
    unfold vmfleetlaw33_frame.f
    rw [e1, bs, if_neg c, bs, m5, m4, m0, q5, q0, ed k (by omega), bs, if_pos (by rw [strOfNums_size]; simp; omega)]

theorem Round_eq (a n : Int) (hn : 0 < n) (hn2 : n ≤ 4611686018427387904) : vmfleetmake_Round.f a n = some (a % n) := by
  unfold vmfleetmake_Round.f
  rw [if_neg (by omega)]
  have h1 := Int.emod_nonneg a (show n ≠ 0 by omega)
  have h2 := Int.emod_lt_of_pos a hn
  have h3 := Int.tmod_lt_of_pos a hn
  have h4 := Int.lt_tmod_of_pos a hn
  have h5 : Int.tmod a n = a % n ∨ Int.tmod a n = a % n - n := by
    rw [Int.tmod_eq_emod]; split <;> simp <;> omega
  by_cases h : Int.tmod a n < 0
  · rw [if_pos h, w64 (by omega) (by omega)]; congr 1; omega
  · rw [if_neg h]; congr 1; omega

theorem outs_one : ∀ (n : Fin 9) (p g : Fin 8), p.val < n.val → g.val < n.val → outv n.val (p.val : Int) (g.val : Int) = if g = p then [] else [(g.val : Int)] := by decide +kernel
def okAll (n : Nat) (p : Int) : Bool :=
  ((outv n p (-1)).length == n - 1) && (List.range (outv n p (-1)).length).all fun i => !(rd (outv n p (-1)) (i : Int) == p) && Nat.ble 0 0 && (0 ≤ rd (outv n p (-1)) (i : Int) : Bool) && (rd (outv n p (-1)) (i : Int) < (n : Int) : Bool) && ((i == 0) || (rd (outv n p (-1)) ((i : Int) - 1) < rd (outv n p (-1)) (i : Int) : Bool))
theorem outs_all : ((List.range 9).all fun n => (List.range n).all fun p => okAll n (p : Int)) = true := by decide +kernel
/-- What the law asks of a frame's ports. -/
def Good (n : Nat) (p g : Int) (out : List Int) : Prop := (out.length : Int) = (if g = p then 0 else if g ≥ 0 then 1 else (n : Int) - 1) ∧ out.length ≤ 8 ∧ ∀ i : Nat, i < out.length →
  rd out (i : Int) ≠ p ∧ 0 ≤ rd out (i : Int) ∧ rd out (i : Int) < (n : Int) ∧ (0 < i → rd out ((i : Int) - 1) < rd out (i : Int)) ∧ (0 ≤ g → rd out (i : Int) = g)
theorem good_out (n : Nat) (hn : 1 ≤ n ∧ n ≤ 8) (p g : Int) (hp : 0 ≤ p ∧ p < (n : Int)) (hg : -1 ≤ g ∧ g < (n : Int)) : Good n p g (outv n p g) := by
  by_cases c : g = -1
  · subst c
    have h := List.all_eq_true.1 (List.all_eq_true.1 outs_all n (List.mem_range.2 (by omega))) p.toNat (List.mem_range.2 (by omega))
    rw [Int.toNat_of_nonneg hp.1] at h
    unfold okAll at h
    rw [Bool.and_eq_true] at h
    obtain ⟨h1, h2⟩ := h
    have h1 : (outv n p (-1)).length = n - 1 := by simpa using h1
    refine ⟨by rw [if_neg (by omega), if_neg (by decide)]; omega, by omega, fun i hi => ?_⟩
    have h3 := List.all_eq_true.1 h2 i (List.mem_range.2 hi)
    simp only [Bool.and_eq_true, Bool.or_eq_true, Bool.not_eq_true', beq_eq_false_iff_ne, decide_eq_true_eq, beq_iff_eq] at h3
    obtain ⟨⟨⟨⟨a1, _⟩, a2⟩, a3⟩, a4⟩ := h3
    exact ⟨a1, a2, a3, fun h0 => by rcases a4 with a4 | a4; omega; exact a4, fun h0 => absurd h0 (by decide)⟩
  · have h := outs_one ⟨n, by omega⟩ ⟨p.toNat, by omega⟩ ⟨g.toNat, by omega⟩ (by show p.toNat < n; omega) (by show g.toNat < n; omega)
    have e1 : (((⟨p.toNat, by omega⟩ : Fin 8).val : Nat) : Int) = p := by show ((p.toNat : Nat) : Int) = p; omega
    have e2 : (((⟨g.toNat, by omega⟩ : Fin 8).val : Nat) : Int) = g := by show ((g.toNat : Nat) : Int) = g; omega
    rw [e1, e2] at h
    have h : outv n p g = if (⟨g.toNat, by omega⟩ : Fin 8) = (⟨p.toNat, by omega⟩ : Fin 8) then [] else [g] := h
    by_cases c2 : g = p
    · rw [if_pos (Fin.ext (by show g.toNat = p.toNat; rw [c2]))] at h
      rw [h]
      refine ⟨by rw [if_pos c2]; rfl, by simp, fun i hi => by simp at hi⟩
    · rw [if_neg (fun e => c2 (by have : g.toNat = p.toNat := congrArg Fin.val e; omega))] at h
      rw [h]
      refine ⟨by rw [if_neg c2, if_pos (by omega)]; rfl, by simp, fun i hi => ?_⟩
      obtain rfl : i = 0 := by simpa using hi
      exact ⟨c2, by show 0 ≤ g; omega, hg.2, fun h => absurd h (by omega), fun _ => rfl⟩
theorem fold_no (a : Int) : ∀ (t : List S35) (c : Int), (∀ e ∈ t, e.f0 ≠ a) → t.foldl (fun c e => if e.f0 = a then e.f1 else c) c = c
  | [], _, _ => rfl
  | x :: xs, c, h => by
    rw [List.foldl_cons, if_neg (h x (List.mem_cons_self ..))]
    exact fold_no a xs c (fun e he => h e (List.mem_cons_of_mem _ he))
theorem fold_port (a : Int) : ∀ (t : List S35) (c : Int), (t.map (·.f0)).Nodup → t.foldl (fun c e => if e.f0 = a then e.f1 else c) c = if (∃ e ∈ t, e.f0 = a) then portv t a else c
  | [], c, _ => by rw [if_neg (fun ⟨e, he, _⟩ => by cases he)]; rfl
  | x :: xs, c, h => by
    have hx := h
    rw [List.map_cons, List.nodup_cons] at hx
    rw [List.foldl_cons]
    by_cases hc : x.f0 = a
    · rw [if_pos hc, if_pos ⟨x, List.mem_cons_self .., hc⟩, fold_no a xs x.f1 (fun e he he2 => hx.1 (by rw [hc, ← he2]; exact List.mem_map_of_mem (f := fun y : S35 => y.f0) he)), ← hc]
      exact (portv_in (x :: xs) h x (List.mem_cons_self ..)).symm
    · rw [if_neg hc, fold_port a xs c hx.2]
      by_cases he : ∃ e ∈ xs, e.f0 = a
      · obtain ⟨e, he1, he2⟩ := he
        rw [if_pos ⟨e, he1, he2⟩, if_pos ⟨e, List.mem_cons_of_mem _ he1, he2⟩]
        subst he2
        rw [portv_in xs hx.2 e he1, portv_in (x :: xs) h e (List.mem_cons_of_mem _ he1)]
      · rw [if_neg he, if_neg (fun ⟨e, he1, he2⟩ => by
          rcases List.mem_cons.1 he1 with rfl | he1
          · exact hc he2
          · exact he ⟨e, he1, he2⟩)]
theorem fold_is (a : Int) (t : List S35) (h : (t.map (·.f0)).Nodup) : t.foldl (fun c e => if e.f0 = a then e.f1 else c) (-1) = portv t a := by
  rw [fold_port a t (-1) h]
  by_cases he : ∃ e ∈ t, e.f0 = a
  · rw [if_pos he]
  · rw [if_neg he, portv_no t a (fun e h1 h2 => he ⟨e, h1, h2⟩)]
theorem port_bounds (n : Nat) (t : List S35) (hv : VT (n : Int) t) (a : Int) : -1 ≤ portv t a ∧ portv t a < (n : Int) := by
  by_cases he : ∃ e ∈ t, e.f0 = a
  · obtain ⟨e, h1, rfl⟩ := he
    rw [portv_in t hv.2.2 e h1]
    have := hv.2.1 e h1
    omega
  · rw [portv_no t a (fun e h1 h2 => he ⟨e, h1, h2⟩)]; omega
theorem ports_from (n : Nat) (hn : 1 ≤ n ∧ n ≤ 8) (l1 l2 : List Int) (t : List S35) (hv : VT (n : Int) t) (x10 p g : Int) (out : List Int) (hg : Good n p g out) (K : Nat) (hK : 30 ≤ K) (hnext : ∀ k, K ≤ k → vmfleetlaw33_SwitchLearns.l0 k (n : Int) l1 l2 t (wrap64 (x10 + 1)) (n : Int) t = some true) (d : Nat) :
    ∀ (i k : Nat), i ≤ out.length → out.length - i = d → K + d < k → vmfleetlaw33_SwitchLearns.l3 k (n : Int) l1 l2 t x10 p out g (i : Int) (n : Int) t = some true := by
  induction d with
  | zero =>
    intro i k h1 h2 h3
    obtain ⟨k, rfl⟩ : ∃ q, k = q + 1 := ⟨k - 1, by omega⟩
    simp only [vmfleetlaw33_SwitchLearns.l3]
    rw [if_neg (by omega), Valid_eq (n : Int) (by omega) t hv k (by omega), bs, if_pos trivial, if_pos rfl]
    exact hnext k (by omega)
  | succ d ih =>
    intro i k h1 h2 h3
    obtain ⟨k, rfl⟩ : ∃ q, k = q + 1 := ⟨k - 1, by omega⟩
    simp only [vmfleetlaw33_SwitchLearns.l3]
    obtain ⟨g1, g2, g3, g4, g5⟩ := hg.2.2 i (by omega)
    have h8 := hg.2.1
    have ew : wrap64 ((i : Int) + 1) = ((i + 1 : Nat) : Int) := w64n (by simp) (by omega)
    have em : wrap64 ((i : Int) - 1) = (i : Int) - 1 := w64 (by omega) (by omega)
    have hih := ih (i + 1) k (by omega) (by omega) (by omega)
    rw [if_pos (by omega), if_pos (by omega), if_neg g1, if_neg (by omega), if_neg (by omega), ew, em]
    have hrest : (if g ≥ 0 then (if rd out (i : Int) = g then vmfleetlaw33_SwitchLearns.l3 k (n : Int) l1 l2 t x10 p out g ((i + 1 : Nat) : Int) (n : Int) t else some false) else vmfleetlaw33_SwitchLearns.l3 k (n : Int) l1 l2 t x10 p out g ((i + 1 : Nat) : Int) (n : Int) t) = some true := by
      by_cases c : g ≥ 0
      · rw [if_pos c, if_pos (g5 c)]; exact hih
      · rw [if_neg c]; exact hih
    by_cases c : (i : Int) > 0
    · rw [if_pos c, if_pos (by omega), if_pos (by omega), if_neg (by have := g4 (by omega); omega)]
      exact hrest
    · rw [if_neg c]
      exact hrest
theorem target_from (n : Nat) (hn : 1 ≤ n ∧ n ≤ 8) (l1 l2 : List Int) (t : List S35) (hv : VT (n : Int) t) (x10 to_ p : Int) (hp : 0 ≤ p ∧ p < (n : Int)) (K : Nat) (hK : 30 ≤ K) (hnext : ∀ k, K ≤ k → vmfleetlaw33_SwitchLearns.l0 k (n : Int) l1 l2 t (wrap64 (x10 + 1)) (n : Int) t = some true) (d : Nat) :
    ∀ (i k : Nat) (c : Int), i ≤ t.length → t.length - i = d → K + 20 + d < k → (t.drop i).foldl (fun c e => if e.f0 = to_ then e.f1 else c) c = portv t to_ →
      vmfleetlaw33_SwitchLearns.l2 k (n : Int) l1 l2 t x10 to_ p (outv n p (portv t to_)) c (i : Int) (n : Int) t = some true := by
  have hl := hv.1
  induction d with
  | zero =>
    intro i k c h1 h2 h3 h4
    obtain ⟨k, rfl⟩ : ∃ q, k = q + 3 := ⟨k - 3, by omega⟩
    rw [List.drop_of_length_le (by omega)] at h4
    have h4 : c = portv t to_ := h4
    subst h4
    have hb := port_bounds n t hv to_
    have hg := good_out n hn p (portv t to_) hp hb
    generalize outv n p (portv t to_) = out at hg ⊢
    generalize portv t to_ = g at hb hg ⊢
    have hlen := hg.1
    have em : wrap64 ((n : Int) - 1) = (n : Int) - 1 := w64 (by omega) (by omega)
    have hend : vmfleetlaw33_SwitchLearns.l3 k (n : Int) l1 l2 t x10 p out g 0 (n : Int) t = some true := by
      have := ports_from n hn l1 l2 t hv x10 p g out hg K hK hnext out.length 0 k (by omega) (by omega) (by have := hg.2.1; omega)
      rw [Int.natCast_zero] at this; exact this
    rw [show k + 3 = (k + 2) + 1 from rfl]
    simp only [vmfleetlaw33_SwitchLearns.l2]
    rw [if_neg (by omega), em]
    by_cases c1 : g ≥ 0
    · rw [if_pos c1, show k + 2 = (k + 1) + 1 from rfl]
      simp only [vmfleetlaw33_SwitchLearns.j4]
      by_cases c2 : g = p
      · rw [if_pos c2] at hlen ⊢
        simp only [vmfleetlaw33_SwitchLearns.j5]
        rw [if_pos hlen]; exact hend
      · rw [if_neg c2, if_pos c1] at hlen
        rw [if_neg c2]
        simp only [vmfleetlaw33_SwitchLearns.j5]
        rw [if_pos hlen]; exact hend
    · have c2 : ¬ g = p := by omega
      rw [if_neg c2, if_neg c1] at hlen
      rw [if_neg c1, show k + 2 = (k + 1) + 1 from rfl]
      simp only [vmfleetlaw33_SwitchLearns.j4]
      rw [if_neg c2]
      simp only [vmfleetlaw33_SwitchLearns.j5]
      rw [if_pos hlen]; exact hend
  | succ d ih =>
    intro i k c h1 h2 h3 h4
    obtain ⟨k, rfl⟩ : ∃ q, k = q + 1 := ⟨k - 1, by omega⟩
    have H4 := Aside0.mk h4
    clear h4
    simp only [vmfleetlaw33_SwitchLearns.l2]
    have hi : i < t.length := by omega
    have hr : rd_T35 t (i : Int) = t[i] := by unfold rd_T35; rw [Int.toNat_natCast, List.getD_eq_getElem?_getD, List.getElem?_eq_getElem hi]; rfl
    have g1 : i + 1 ≤ t.length := by omega
    have g2 : t.length - (i + 1) = d := by omega
    have g3 : K + 20 + d < k := by omega
    rw [if_pos (by omega), if_pos (by omega), hr]
    have ew : wrap64 ((i : Int) + 1) = ((i + 1 : Nat) : Int) := w64n (by simp) (by omega)
    rw [ew]
    have h4 := H4.out
    rw [List.drop_eq_getElem_cons hi, List.foldl_cons] at h4
    by_cases c1 : t[i].f0 = to_
    · rw [if_pos c1] at h4 ⊢
      exact ih (i + 1) k _ g1 g2 g3 h4
    · rw [if_neg c1] at h4 ⊢
      exact ih (i + 1) k _ g1 g2 g3 h4
theorem next_from (n : Nat) (hn : 1 ≤ n ∧ n ≤ 8) (l1 l2 : List Int) (t : List S35) (hv : VT (n : Int) t) (x10 to_ fr p : Int) (hf : fr ≠ 255) (hp : 0 ≤ p ∧ p < (n : Int)) (K : Nat) (hK : 30 ≤ K) (hnext : ∀ k, K ≤ k → vmfleetlaw33_SwitchLearns.l0 k (n : Int) l1 l2 (learnv t fr p) (wrap64 (x10 + 1)) (n : Int) (learnv t fr p) = some true) (d : Nat) :
    ∀ (i k : Nat) (acc : List S35), i ≤ t.length → t.length - i = d → K + 60 + d < k → acc.length ≤ i → acc ++ (t.drop i).filter (fun e => decide (e.f0 ≠ fr)) = t.filter (fun e => decide (e.f0 ≠ fr)) →
      vmfleetlaw33_SwitchLearns.l1 k (n : Int) l1 l2 t x10 to_ fr p (outv n p (portv (learnv t fr p) to_)) ((⟨fr, p⟩ : S35) :: acc) (i : Int) (n : Int) (learnv t fr p) = some true := by
  have hl := hv.1
  have hv2 := learn_VT (n : Int) t hv fr p hp
  induction d with
  | zero =>
    intro i k acc h1 h2 h3 h4 h5
    obtain ⟨k, rfl⟩ : ∃ q, k = q + 1 := ⟨k - 1, by omega⟩
    simp only [vmfleetlaw33_SwitchLearns.l1]
    rw [List.drop_of_length_le (by omega), List.filter_nil, List.append_nil] at h5
    have e1 : learnv t fr p = ((⟨fr, p⟩ : S35) :: acc).take 16 := by unfold learnv; rw [if_neg hf, h5]
    have hmn : ∀ l : List S35, 0 ≤ mn (l.length : Int) 16 ∧ mn (l.length : Int) 16 ≤ (l.length : Int) := fun l => by unfold mn; split <;> omega
    rw [if_neg (by omega), if_pos (hmn _).1, if_pos (hmn _).2, take16, ← e1]
    have hl2 := hv2.1
    have := target_from n hn l1 l2 (learnv t fr p) hv2 x10 to_ p hp K hK hnext (learnv t fr p).length 0 k (-1) (by omega) (by omega) (by omega) (by rw [List.drop_zero]; exact fold_is to_ _ hv2.2.2)
    rw [Int.natCast_zero] at this
    exact this
  | succ d ih =>
    intro i k acc h1 h2 h3 h4 h5
    obtain ⟨k, rfl⟩ : ∃ q, k = q + 1 := ⟨k - 1, by omega⟩
    simp only [vmfleetlaw33_SwitchLearns.l1]
    have hi : i < t.length := by omega
    have hr : rd_T35 t (i : Int) = t[i] := by unfold rd_T35; rw [Int.toNat_natCast, List.getD_eq_getElem?_getD, List.getElem?_eq_getElem hi]; rfl
    have ew : wrap64 ((i : Int) + 1) = ((i + 1 : Nat) : Int) := w64n (by simp) (by omega)
    rw [List.drop_eq_getElem_cons hi, List.filter_cons] at h5
    rw [if_pos (by omega), if_pos (by omega), hr, ew]
    by_cases c1 : t[i].f0 = fr
    · rw [if_neg (by simp [c1])] at h5
      rw [if_pos c1]
      exact ih (i + 1) k acc (by omega) (by omega) (by omega) (by omega) h5
    · rw [if_pos (by simpa using c1)] at h5
      rw [if_neg c1, if_pos (by simp; omega), List.cons_append]
      exact ih (i + 1) k _ (by omega) (by omega) (by omega) (by simp; omega) (by rw [List.append_assoc]; exact h5)
theorem frames_from (n : Nat) (hn : 1 ≤ n ∧ n ≤ 8) (l1 l2 : List Int) (h60 : l1.length ≤ 60) (h12 : l1.length ≤ l2.length) (d : Nat) : ∀ (i k : Nat) (t : List S35), i ≤ l1.length → l1.length - i = d → 200 * d + 300 < k → VT (n : Int) t → vmfleetlaw33_SwitchLearns.l0 k (n : Int) l1 l2 t (i : Int) (n : Int) t = some true := by
  induction d with
  | zero =>
    intro i k t h1 h2 h3 hv
    obtain ⟨k, rfl⟩ : ∃ q, k = q + 1 := ⟨k - 1, by omega⟩
    simp only [vmfleetlaw33_SwitchLearns.l0]
    rw [if_neg (by omega), awake33 k (by omega), bs]
  | succ d ih =>
    intro i k t h1 h2 h3 hv
    obtain ⟨k, rfl⟩ : ∃ q, k = q + 1 := ⟨k - 1, by omega⟩
    simp only [vmfleetlaw33_SwitchLearns.l0]
    have hl := hv.1
    have ew : wrap64 ((i : Int) + 1) = ((i + 1 : Nat) : Int) := w64n (by simp) (by omega)
    obtain ⟨s, to_, fr, es, s2, s128, b0, b1, _, hfr⟩ := frame_ends (rd l1 (i : Int))
    have hq0 := Int.emod_nonneg (rd l2 (i : Int)) (show (n : Int) ≠ 0 by omega)
    have hq1 := Int.emod_lt_of_pos (rd l2 (i : Int)) (show (0 : Int) < (n : Int) by omega)
    have hF := Forward_eq n hn t hv (rd l2 (i : Int) % (n : Int)) ⟨hq0, hq1⟩ s ⟨s2, s128⟩ k (by omega)
    rw [b0, b1] at hF
    rw [if_pos (by omega), if_pos (by omega), es k (by omega), bs]
    dsimp only
    rw [if_pos (by omega), Round_eq _ (n : Int) (by omega) (by omega), bs, hF, bs]
    dsimp only
    have hv2 := learn_VT (n : Int) t hv fr _ ⟨hq0, hq1⟩
    have := next_from n hn l1 l2 t hv (i : Int) to_ fr _ (by omega) ⟨hq0, hq1⟩ (200 * d + 301) (by omega) (fun k hk => by rw [ew]; exact ih (i + 1) k _ (by omega) (by omega) (by omega) hv2) t.length 0 k [] (by omega) (by omega) (by omega) (by simp) (by rw [List.drop_zero, List.nil_append])
    rw [Int.natCast_zero] at this
    exact this
theorem Learns_at (x0 : Int) (l1 l2 : List Int) (k : Nat) (hk : 15000 ≤ k) : vmfleetlaw33_SwitchLearns.f (k + 1) x0 l1 l2 = some true := by
  have hj : vmfleetlaw33_SwitchLearns.j0 (k + 1) x0 l1 l2 true = some true := by
    simp only [vmfleetlaw33_SwitchLearns.j0]
    rw [if_pos (by trivial), awake33 k (by omega), bs]
  unfold vmfleetlaw33_SwitchLearns.f
  by_cases c1 : x0 < 1
  · rw [if_pos c1, hj]
  · rw [if_neg c1]
    by_cases c2 : x0 > 8
    · rw [if_pos c2, hj]
    · rw [if_neg c2]
      by_cases c3 : (l1.length : Int) > 60
      · rw [if_pos c3, hj]
      · rw [if_neg c3]
        by_cases c4 : (l2.length : Int) < (l1.length : Int)
        · rw [decide_eq_true c4, hj]
        · rw [decide_eq_false c4]
          simp only [vmfleetlaw33_SwitchLearns.j0]
          rw [if_neg (by simp), nNew_eq x0 (by omega), bs, if_pos rfl]
          dsimp only
          have := frames_from x0.toNat (by omega) l1 l2 (by omega) (by omega) l1.length 0 k [] (by omega) (by omega) (by omega) ⟨by simp, fun e h => (nomatch h), by simp⟩
          rw [Int.toNat_of_nonneg (by omega), Int.natCast_zero] at this
          exact this
theorem SwitchLearns : vmfleetlaw33_SwitchLearns.Pure := by
  intro x0 l1 l2 h0 h1 h2 h3 h4 h5 h6
  exact ⟨15001, Learns_at x0 l1 l2 15000 (by omega)⟩

end Go.Proofs.Ytdkbhjmoiblobaa.Pure
