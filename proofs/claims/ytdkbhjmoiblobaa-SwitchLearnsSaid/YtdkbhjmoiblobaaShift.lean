/- Proved (no claim by itself): slices.Delete(s, i, i+1) and slices.Insert(s, 0, one element) over rows of two-cell elements: what the row's block holds afterwards. -/
import Derived.Test.YtdkbhjmoiblobaaWMore
import Derived.Test.YtdkbhjmoiblobaaProg
import Derived.Below
import Derived.Deep.Draws
import Derived.Tactics
import Derived.WalkKit
import Derived.KernelRfl
import Derived.BigQuiet
import Derived.Deep.QuietTactic
import Derived.Outline
import Derived.Deep.RegionLaw
import Derived.Laws.CopyRow
import Derived.Laws.CopyOwn
import Derived.Laws.IdiomCopy
import Derived.Laws.Externs
import Derived.Lib.AppendZerosOnto
import Derived.Lib.AppendZeros
import Derived.Lib.Overlaps
import Derived.OwnWalk
import Derived.Maps.AppendAt
namespace Go.Proofs.Ytdkbhjmoiblobaa.Shift
open Go.RowKit Go.Proofs.YtdkbhjmoiblobaaW.PrintWords Go.Proofs.YtdkbhjmoiblobaaW.PrintMore
set_option linter.unusedVariables false
set_option linter.unusedSimpArgs false
variable {P : Program}

theorem blkset {w : World} {g : Nat} {t : TypeId} {cs : Array Value} (h : w.heap[g]? = some (.cells cs t (0, 0))) (i : Nat) (u : Value) : (w.setCell ⟨g, i, none⟩ u).heap[g]? = some (.cells (cs.setIfInBounds i u) t (0, 0)) := by
  simp [World.setCell, Array.getElem?_modify, h]
theorem heap_setCells (g : Nat) (t : TypeId) : ∀ (vs : List Value) (o : Nat) (w : World) (cur : List Value), w.heap[g]? = some (.cells cur.toArray t (0, 0)) → o + vs.length ≤ cur.length → (w.setCells g o vs).heap[g]? = some (.cells (cur.take o ++ vs ++ cur.drop (o + vs.length)).toArray t (0, 0))
  | [], o, w, cur, hg, _ => by simpa [World.setCells] using hg
  | v :: r, o, w, cur, hg, hl => by
    have h1 := blkset hg o v
    rw [List.setIfInBounds_toArray] at h1
    have h2 := heap_setCells g t r (o + 1) _ (cur.set o v) h1 (by simp at hl ⊢; omega)
    rw [World.setCells, h2, list_seg_step cur o v r (by simpa using hl)]
    rfl
theorem grown_setCells (g : Nat) : ∀ (vs : List Value) (o : Nat) (w : World), w.grownBy (w.setCells g o vs) (some g)
  | [], _, w => ⟨rfl, rfl, rfl, Nat.le_refl _, fun _ _ _ => rfl⟩
  | v :: r, o, w => by
    have h := grown_setCells g r (o + 1) (w.setCell ⟨g, o, none⟩ v)
    have hs : (w.setCell ⟨g, o, none⟩ v).heap.size = w.heap.size := by simp [World.setCell]
    refine ⟨h.os, h.tape, h.output, by have := h.size; rw [hs] at this; exact this, fun k hk hne => ?_⟩
    exact (h.block k (by rw [hs]; exact hk) hne).trans (Below.heap_setCell w ⟨g, o, none⟩ v k (fun e => hne (by rw [e])))
theorem grown_trans {w w1 w2 : World} {row : Option Nat} (h : w.grownBy w1 row) (k : w1.grownBy w2 row) : w.grownBy w2 row :=
  ⟨k.os.trans h.os, k.tape.trans h.tape, k.output.trans h.output, Nat.le_trans h.size k.size, fun i hi hne => (k.block i (Nat.lt_of_lt_of_le hi h.size) hne).trans (h.block i hi hne)⟩
theorem grown_drew (w : World) (row : Option Nat) : w.grownBy w.drew row := ⟨rfl, rfl, rfl, Nat.le_refl _, fun _ _ _ => rfl⟩
theorem cell_at {w : World} {g : Nat} {t : TypeId} {cur : List Value} (hg : w.heap[g]? = some (.cells cur.toArray t (0, 0))) (j : Nat) : w.cell? ⟨g, j, none⟩ = cur[j]? := by
  rw [cell_of_row w g j cur.toArray t (0, 0) hg]; simp
theorem frozen_at {w : World} {g : Nat} {t : TypeId} {cur : List Value} (hg : w.heap[g]? = some (.cells cur.toArray t (0, 0))) (j : Nat) : w.frozen? ⟨g, j, none⟩ = false := by simp [World.frozen?, hg]
/-- 'copy', elements of any size. -/
theorem run_copy_n (w : World) (dT sT ty elem : TypeId) (size b o dLen dCap : Nat) (a : Addr) (sLen sCap : Nat) (cs : List Value)
    (hu : P.underlying dT = some (.slice elem)) (hs : (P.info? elem).map (·.size) = some size) (hn : cs.length = Nat.min sLen dLen * size)
    (hsrc : ∀ j v, cs[j]? = some v → w.cell? (a.add j) = some v) (hc : ∀ j, j < cs.length → (w.cell? ⟨b, o + j, none⟩).isSome = true) (hf : ∀ j, j < cs.length → w.frozen? ⟨b, o + j, none⟩ = false) (h1 : ∀ v ∈ cs, v.oneCell' = true) :
    (Builtin.copy_ #[dT, sT] ty #[.slice (some ⟨b, o, none⟩) dLen dCap, .slice (some a) sLen sCap]).run P w = .ok (goInt (Nat.min sLen dLen)) (w.setCells b o cs) := by
  have hl := run_loadCells_list (P := P) w a cs hsrc
  have hst := run_storeCells_cells (P := P) b o cs 0 w (by simpa using hc) (by simpa using hf) h1
  cases hq : P.info? elem with
  | none => simp [hq] at hs
  | some i =>
    have hi : i.size = size := by simpa [hq] using hs
    simp [Builtin.copy_, run_underlying hu, Builtin.lenOf, Builtin.firstCells, sizeOf, typeInfo, hq, hi, ← hn, hl, hst]
/-- 'clear' of one element of two cells. -/
theorem run_clear_two (w : World) (t e ty : TypeId) (z0 z1 : Value) (ht : P.underlying t = some (.slice e)) (hv : ∀ w, (zeroValue e).run P w = .ok (.agg #[z0, z1]) w) (h0 : z0.oneCell' = true) (h1 : z1.oneCell' = true) (b o c : Nat)
    (hc : ∀ j, j < 2 → (w.cell? ⟨b, o + j, none⟩).isSome = true) (hf : ∀ j, j < 2 → w.frozen? ⟨b, o + j, none⟩ = false) :
    (Builtin.clear_ #[t] ty #[.slice (some ⟨b, o, none⟩) 1 c]).run P w = .ok (.tuple #[]) (w.setCells b o [z0, z1]) := by
  have hzc : (Builtin.zeroCells (Value.agg #[z0, z1]).cells 1).toList = [z0, z1] := by simp [Builtin.zeroCells, Value.cells, List.range_succ]
  have hst := run_storeCells_cells (P := P) b o [z0, z1] 0 w (by simpa using hc) (by simpa using hf) (by intro v hv'; simp at hv'; rcases hv' with rfl | rfl <;> assumption)
  simp only [Nat.add_zero] at hst
  simp [Builtin.clear_, run_underlying ht, hv, hzc, hst]
theorem wpList_copy_run2 (w : World) {ops : Array Oper} {rest : List Oper} {o : Oper} {a : Act} {Q : Exit → Act → World → Prop} (hgd : o.guard = none) (d s : Operand) (t t' : TypeId)
    (ho : o.op = .call { callee := .builtin .copy, args := #[d, s], argTypes := #[t, t'] }) (v u : Value) (hd : a.eval d = v) (hs : a.eval s = u) {v' : Value} {w' : World}
    (hr : (Builtin.copy_ #[t, t'] o.type #[v, u]).run P w = .ok v' w') (h : wpList P ops Q rest (a.put o.dst v') w') : wpList P ops Q (o :: rest) a w := by
  refine wpList_plain hgd fun K hK => ?_
  unfold Oper.wp
  simp [execOp, ho, resolve, invoke, builtin, hd, hs, hr, Result.andThen]
  exact hK _ _ h
theorem step_copy_run2 {ops : Array Oper} {o : Oper} {a : Act} {w : World} {K : Act → World → Prop} {Q : Exit → Act → World → Prop} {E : Prop}
    (hg : o.guard = none) (d x : Operand) (dT sT : TypeId) (hop : o.op = Op.call { callee := Callee.builtin Builtin.copy, args := #[d, x], argTypes := #[dT, sT] })
    (v u : Value) (hd : a.eval d = v) (hx : a.eval x = u) {v' : Value} {w' : World} (hr : (Builtin.copy_ #[dT, sT] o.type #[v, u]).run P w = .ok v' w') (hK : K (a.put o.dst v') w') :
    if Region.wanted o (yielded ops a.tmps) = true then Oper.wp P o a w K Q else E := by
  have hw : Region.wanted o (yielded ops a.tmps) = true := by simp [Region.wanted, hg]
  rw [if_pos hw]
  unfold Oper.wp
  simp [execOp, hop, resolve, invoke, builtin, hd, hx, hr, Result.andThen]
  exact hK
theorem info35 : (Try.prog.info? 35).map (fun i => (i.zero, i.size, i.bytes)) = some (some (.agg #[(.int .u8 0), (.int .i64 0)]), 2, 16) := by kernel_rfl

set_option maxHeartbeats 8000000 in
set_option maxRecDepth 100000 in
theorem Delete_raw (g n cap i : Nat) (cur : List Value) (w : World) (hg : w.heap[g]? = some (.cells cur.toArray 35 (0, 0))) (hl : cur.length = cap * 2) (hn : n ≤ cap) (hcm : cap ≤ maxLen) (hi : i < n) (h1 : ∀ u ∈ cur.take (n * 2), u.oneCell' = true) :
    Calls Try.prog 19 #[.slice (some ⟨g, 0, none⟩) n cap, .int .i64 i, .int .i64 ((i : Int) + 1)] w fun e w' => e = .returned (.slice (some ⟨g, 0, none⟩) (n - 1) cap) ∧ w.grownBy w' (some g) ∧
      ∃ cur' : List Value, w'.heap[g]? = some (.cells cur'.toArray 35 (0, 0)) ∧ cur'.length = cap * 2 ∧ cur'.take ((n - 1) * 2) = cur.take (i * 2) ++ (cur.take (n * 2)).drop ((i + 1) * 2) := by
  obtain ⟨i0, hi0, hz0, hz1, hz2⟩ := info_parts info35
  obtain ⟨news, hnews⟩ : ∃ news, news = (cur.take (n * 2)).drop ((i + 1) * 2) := ⟨_, rfl⟩
  have hlen : news.length = (n - (i + 1)) * 2 := by rw [hnews, List.length_drop, List.length_take]; omega
  unfold maxLen at hcm
  obtain ⟨A, hA, hsrc⟩ : ∃ A : Addr, (if cap = i + 1 then some (⟨g, 0, none⟩ : Addr) else some ⟨g, (i + 1) * 2, none⟩) = some A ∧ Hid (∀ t u, news[t]? = some u → w.drew.cell? (A.add t) = some u) := by
    by_cases h : cap = i + 1
    · refine ⟨⟨g, 0, none⟩, by simp [h], fun t u hu => ?_⟩
      have h0 : news.length = 0 := by rw [hlen]; omega
      rw [List.length_eq_zero_iff.1 h0] at hu
      simp at hu
    · refine ⟨⟨g, (i + 1) * 2, none⟩, by simp [h], fun t u hu => ?_⟩
      rw [hnews, List.getElem?_drop, List.getElem?_take] at hu
      split at hu
      · rw [Addr.add_lit]
        show w.cell? _ = _
        rw [cell_at hg]; exact hu
      · cases hu
  have s1 : Hid (news.length = (n - (i + 1)) * 2) := hlen
  have s2 : Hid (∀ u ∈ news, u.oneCell' = true) := by
    intro u hu
    rw [hnews] at hu
    exact h1 u (List.mem_of_mem_drop hu)
  have s3 : Hid (∀ t, t < news.length → (w.drew.cell? ⟨g, 0 + i * 2 + t, none⟩).isSome = true ∧ w.drew.frozen? ⟨g, 0 + i * 2 + t, none⟩ = false) := by
    intro t ht
    rw [hlen] at ht
    refine ⟨?_, frozen_at (w := w.drew) hg _⟩
    show (w.cell? _).isSome = true
    rw [cell_at hg, List.getElem?_eq_getElem (by omega)]; rfl
  obtain ⟨W1, hW1⟩ : ∃ W1, W1 = w.drew.setCells g (0 + i * 2) news := ⟨_, rfl⟩
  have hG1 := heap_setCells g 35 news (0 + i * 2) w.drew cur hg (by rw [hlen]; omega)
  rw [← hW1] at hG1
  have hgr1 : w.grownBy W1 (some g) := by rw [hW1]; exact grown_trans (grown_drew w _) (grown_setCells g _ _ _)
  obtain ⟨c1, hc1⟩ : ∃ c1, c1 = cur.take (0 + i * 2) ++ news ++ cur.drop (0 + i * 2 + news.length) := ⟨_, rfl⟩
  rw [← hc1] at hG1
  have hc1l : c1.length = cap * 2 := by rw [hc1]; simp; omega
  have hcl : ∀ ty c, (Builtin.clear_ #[24] ty #[.slice (some ⟨g, (n - 1) * 2, none⟩) 1 c]).run Try.prog W1 = .ok (.tuple #[]) (W1.setCells g ((n - 1) * 2) [.int .u8 0, .int .i64 0]) := fun ty c =>
    run_clear_two W1 24 35 ty _ _ Try.underlying24 (fun w => by simp [zeroValue, typeInfo, hi0, hz0]) rfl rfl g ((n - 1) * 2) c
      (fun j hj => by rw [cell_at hG1, List.getElem?_eq_getElem (by omega)]; rfl) (fun j hj => frozen_at hG1 _)
  have hG2 := heap_setCells g 35 [.int .u8 0, .int .i64 0] ((n - 1) * 2) W1 c1 hG1 (by simp; omega)
  have hgr2 : w.grownBy (W1.setCells g ((n - 1) * 2) [.int .u8 0, .int .i64 0]) (some g) := grown_trans hgr1 (grown_setCells g _ _ _)
  have HE := Aside0.mk (show w.grownBy (W1.setCells g ((n - 1) * 2) [.int .u8 0, .int .i64 0]) (some g) ∧ ∃ cur' : List Value, (W1.setCells g ((n - 1) * 2) [.int .u8 0, .int .i64 0]).heap[g]? = some (.cells cur'.toArray 35 (0, 0)) ∧ cur'.length = cap * 2 ∧ cur'.take ((n - 1) * 2) = cur.take (i * 2) ++ news from
    ⟨hgr2, _, hG2, by simp; omega, by
      rw [List.append_assoc, List.take_left' (by rw [List.length_take]; omega), hc1, List.append_assoc, Nat.zero_add, ← List.append_assoc, List.take_left' (by rw [List.length_append, List.length_take, hlen]; omega)]⟩)
  rw [← hnews]
  have hW : Hid (W1 = w.drew.setCells g (0 + i * 2) news) := hW1
  have q1 : ((i : Int) == (i : Int) + 1) = false := beq_eq_false_iff_ne.2 (by omega)
  have q4 : (0 : Int) ≤ (i : Int) + 1 := by omega
  have q5 : (i : Int) + 1 ≤ (n : Int) := by omega
  have q3 : i + (n - (i + 1)) = n - 1 := by omega
  have hic : i ≤ cap := by omega
  have hjc : i + 1 ≤ cap := by omega
  have hjn : i + 1 ≤ n := by omega
  have hin : i ≤ n := by omega
  clear hG1 hG2 hgr1 hgr2 hc1 hc1l hW1 hnews hlen hg
  go_enter Try.func19, Try.ntmps19
  go_wp2_with fail
  go_region_law (refine step_append_room rfl (.tmp 22) (.tmp 25) 24 rfl 35 i0 2 Try.underlying24 hi0 hz1 g 0 i cap (by simp [Act.eval, Act.put]) A (n - (i + 1)) (cap - (i + 1)) news (by simp [Act.eval, Act.put]) s1.out hsrc.out s2.out (by omega) s3.out ?_; rw [← hW.out])
  have q6 : ¬ (cap = n - 1) := by omega
  have q7 : n - (n - 1) = 1 := by omega
  have q8 : n - 1 ≤ n := by omega
  clear hA s1 s2 s3 hsrc hW
  go_wp2
  go_ret
  exact ⟨rfl, HE.out.1, HE.out.2⟩

theorem overlaps_no (g gB : Nat) (a b : Value) (cur : List Value) (w : World) (hg : w.heap[g]? = some (.cells cur.toArray 35 (0, 0))) (hB : w.heap[gB]? = some (.cells #[a, b] 35 (0, 0))) (hne : gB ≠ g) (hc : cur.length ≠ 0) (o lb cb : Nat) :
    (callFunc 24 #[.slice (some ⟨gB, 0, none⟩) 1 1, .slice (some ⟨g, o, none⟩) lb cb]).run Try.prog w = .ok (.value (.bool false)) w := by
  obtain ⟨i0, hi0, hz0, hz1, hz2⟩ := info_parts info35
  rw [run_callFunc_extern Try.func24 (by kernel_rfl) (by kernel_rfl) (by kernel_rfl) (e := Extern.SlicesOverlaps.overlaps #[24, 24] #[4]) (by kernel_rfl),
    Lib.run_overlaps_apart w 24 4 35 Try.underlying24 2 (fun w => by simp [Go.sizeOf, typeInfo, hi0, hz1]) ⟨gB, 0, none⟩ ⟨g, o, none⟩ 1 1 lb cb hne 35 35 2 cur.length (by simp [World.shape?, hB]) (by simp [World.shape?, hg]) hc (by simp [World.frozen?, hB]) (by simp [World.frozen?, hB])]
  rfl
set_option maxHeartbeats 8000000 in
set_option maxRecDepth 100000 in
theorem Insert_room (g gB n cap : Nat) (a b : Value) (cur : List Value) (w : World) (hg : w.heap[g]? = some (.cells cur.toArray 35 (0, 0))) (hB : w.heap[gB]? = some (.cells #[a, b] 35 (0, 0))) (hne : gB ≠ g) (hl : cur.length = cap * 2) (hn0 : 0 < n) (hn : n + 1 ≤ cap) (hcm : cap ≤ maxLen)
    (h1 : ∀ u ∈ cur.take (n * 2), u.oneCell' = true) (ha : a.oneCell' = true) (hb : b.oneCell' = true) :
    Calls Try.prog 20 #[.slice (some ⟨g, 0, none⟩) n cap, .int .i64 0, .slice (some ⟨gB, 0, none⟩) 1 1] w fun e w' => e = .returned (.slice (some ⟨g, 0, none⟩) (n + 1) cap) ∧ w.grownBy w' (some g) ∧
      ∃ cur' : List Value, w'.heap[g]? = some (.cells cur'.toArray 35 (0, 0)) ∧ cur'.length = cap * 2 ∧ cur'.take ((n + 1) * 2) = [a, b] ++ cur.take (n * 2) := by
  obtain ⟨i0, hi0, hz0, hz1, hz2⟩ := info_parts info35
  have hsz : (Try.prog.info? 35).map (·.size) = some 2 := by rw [hi0]; simp [hz1]
  have hov := overlaps_no g gB a b cur w hg hB hne (by omega)
  unfold maxLen at hcm
  obtain ⟨cs, hcs⟩ : ∃ cs, cs = cur.take (n * 2) := ⟨_, rfl⟩
  have hcl : cs.length = n * 2 := by rw [hcs, List.length_take]; omega
  obtain ⟨W1, hW1⟩ : ∃ W1, W1 = w.drew.setCells g 2 cs := ⟨_, rfl⟩
  have hG1 := heap_setCells g 35 cs 2 w.drew cur hg (by rw [hcl]; omega)
  rw [← hW1] at hG1
  have hgr1 : w.grownBy W1 (some g) := by rw [hW1]; exact grown_trans (grown_drew w _) (grown_setCells g _ _ _)
  have hB1 : W1.heap[gB]? = some (.cells #[a, b] 35 (0, 0)) := (hgr1.block gB (Array.getElem?_eq_some_iff.1 hB).1 (fun e => hne (Option.some.inj e))).trans hB
  obtain ⟨c1, hc1⟩ : ∃ c1, c1 = cur.take 2 ++ cs ++ cur.drop (2 + cs.length) := ⟨_, rfl⟩
  rw [← hc1] at hG1
  have hc1l : c1.length = cap * 2 := by rw [hc1]; simp; omega
  have hG2 := heap_setCells g 35 [a, b] 0 W1 c1 hG1 (by simp; omega)
  have hgr2 : w.grownBy (W1.setCells g 0 [a, b]) (some g) := grown_trans hgr1 (grown_setCells g _ _ _)
  have hm1 : Nat.min (n + 1) n = n := Nat.min_eq_right (by omega)
  have hcp1 : ∀ ty dc sc, (Builtin.copy_ #[24, 24] ty #[.slice (some ⟨g, 2, none⟩) n dc, .slice (some ⟨g, 0, none⟩) (n + 1) sc]).run Try.prog w.drew = .ok (goInt n) W1 := fun ty dc sc => by
    have h := run_copy_n (P := Try.prog) w.drew 24 24 ty 35 2 g 2 n dc ⟨g, 0, none⟩ (n + 1) sc cs Try.underlying24 hsz (by rw [hcl, hm1])
      (fun j v hj => by
        rw [Addr.add_lit, Nat.zero_add]
        show w.cell? _ = _
        rw [cell_at hg]
        rw [hcs, List.getElem?_take] at hj
        split at hj
        · exact hj
        · cases hj)
      (fun j hj => by
        show (w.cell? _).isSome = true
        rw [cell_at hg, List.getElem?_eq_getElem (by omega)]; rfl)
      (fun j hj => frozen_at (w := w.drew) hg _) (fun v hv => h1 v (by rw [← hcs]; exact hv))
    rw [hm1, ← hW1] at h
    exact h
  have hcp2 : ∀ (W : World), W = W1 → ∀ ty dl dc, 1 ≤ dl → (Builtin.copy_ #[24, 24] ty #[.slice (some ⟨g, 0, none⟩) dl dc, .slice (some ⟨gB, 0, none⟩) 1 1]).run Try.prog W = .ok (goInt 1) (W1.setCells g 0 [a, b]) := fun W hW ty dl dc hdl => by
    subst hW
    have hm2 : Nat.min 1 dl = 1 := Nat.min_eq_left hdl
    have h := run_copy_n (P := Try.prog) W 24 24 ty 35 2 g 0 dl dc ⟨gB, 0, none⟩ 1 1 [a, b] Try.underlying24 hsz (by rw [hm2]; rfl)
      (fun j v hj => by
        rw [Addr.add_lit, Nat.zero_add]
        have := cell_at (cur := [a, b]) hB1 j
        rw [this]; exact hj)
      (fun j hj => by
        rw [cell_at hG1, List.getElem?_eq_getElem (by simp at hj; omega)]; rfl)
      (fun j hj => frozen_at hG1 _) (fun v hv => by simp at hv; rcases hv with rfl | rfl <;> assumption)
    rw [hm2] at h
    exact h
  have HE := Aside0.mk (show w.grownBy (W1.setCells g 0 [a, b]) (some g) ∧ ∃ cur' : List Value, (W1.setCells g 0 [a, b]).heap[g]? = some (.cells cur'.toArray 35 (0, 0)) ∧ cur'.length = cap * 2 ∧ cur'.take ((n + 1) * 2) = [a, b] ++ cs from
    ⟨hgr2, _, hG2, by simp; omega, by
      rw [hc1]
      have e2 : (cur.take 2).length = 2 := by rw [List.length_take]; omega
      rw [List.take_zero, List.nil_append, show (0 : Nat) + [a, b].length = 2 from rfl, List.append_assoc (cur.take 2), List.drop_left' e2, ← List.append_assoc, List.take_left' (by simp [hcl]; omega)]⟩)
  rw [← hcs]
  have q0 : ¬ ((0 : Int) = (n : Int)) := by omega
  have q1 : ((0 : Int) == (n : Int)) = false := beq_eq_false_iff_ne.2 q0
  have q2 : ¬ ((cap : Int) < (n : Int) + 1) := by omega
  have q3 : (0 : Int) ≤ (n : Int) + 1 := by omega
  have q4 : (n : Int) + 1 ≤ (cap : Int) := by omega
  have q5 : ¬ (cap = 0) := by omega
  have q6 : ¬ (cap = 1) := by omega
  have q7 : (1 : Int) ≤ (n : Int) + 1 := by omega
  have q8 : ((n : Int) + 1).toNat = n + 1 := by omega
  have q9 : IntKind.i64.wrap 1 = 1 := by decide
  clear hG1 hG2 hgr1 hgr2 hc1 hc1l hcs hcl hg hB hB1
  go_enter Try.func20, Try.ntmps20
  go_wp2_with (simp only [hov])
  go_region_law (refine step_copy_run2 rfl _ _ 24 24 rfl (.slice (some ⟨g, 2, none⟩) n (cap - 1)) (.slice (some ⟨g, 0, none⟩) (n + 1) cap) (by simp [Act.eval, Act.put]) (by simp [Act.eval, Act.put]) (hcp1 _ _ _) ?_)
  go_wp2_with (at_builtin; refine wpList_copy_run2 _ rfl _ _ 24 24 rfl _ _ rfl rfl (hcp2 _ rfl _ _ _ (by omega)) ?_)
  go_ret
  subst hW1
  exact ⟨rfl, HE.out.1, HE.out.2⟩

set_option maxHeartbeats 8000000 in
set_option maxRecDepth 100000 in
theorem Insert_grow (g gB n cap : Nat) (a b : Value) (cur : List Value) (w : World) (hg : w.heap[g]? = some (.cells cur.toArray 35 (0, 0))) (hB : w.heap[gB]? = some (.cells #[a, b] 35 (0, 0))) (hl : cur.length = cap * 2) (hn0 : 0 < n) (hnc : n ≤ cap) (hn : cap < n + 1) (hbig : n ≤ 1000000)
    (h1 : ∀ u ∈ cur.take (n * 2), u.oneCell' = true) (ha : a.oneCell' = true) (hb : b.oneCell' = true) :
    Calls Try.prog 20 #[.slice (some ⟨g, 0, none⟩) n cap, .int .i64 0, .slice (some ⟨gB, 0, none⟩) 1 1] w fun e w' => ∃ G, e = .returned (.slice (some ⟨w.heap.size, 0, none⟩) (n + 1) G) ∧ w.grownBy w' none ∧ n + 1 ≤ G ∧ G ≤ maxLen ∧
      ∃ cur' : List Value, w'.heap[w.heap.size]? = some (.cells cur'.toArray 35 (0, 0)) ∧ cur'.length = G * 2 ∧ cur'.take ((n + 1) * 2) = [a, b] ++ cur.take (n * 2) := by
  obtain ⟨i0, hi0, hz0, hz1, hz2⟩ := info_parts info35
  have hsz : (Try.prog.info? 35).map (·.size) = some 2 := by rw [hi0]; simp [hz1]
  obtain ⟨cs, hcs⟩ : ∃ cs, cs = cur.take (n * 2) := ⟨_, rfl⟩
  have hcl : cs.length = n * 2 := by rw [hcs, List.length_take]; omega
  have hgw : g < w.heap.size := (Array.getElem?_eq_some_iff.1 hg).1
  have hBw : gB < w.heap.size := (Array.getElem?_eq_some_iff.1 hB).1
  have hold : (Builtin.firstCells i0.size 0 (.slice (some ⟨g, 0, none⟩) 0 cap)).run Try.prog w.drew = .ok ([] : List Value).toArray w.drew := by
    rw [hz1]
    exact run_firstCells_some w.drew 2 0 ⟨g, 0, none⟩ 0 cap [] (by simp) (fun j v hj => by simp at hj)
  obtain ⟨G, hG⟩ : ∃ G, G = grownCap w (0 + (n + 1)) cap 35 := ⟨_, rfl⟩
  obtain ⟨ROW, hROW⟩ : ∃ ROW : Array Value, ROW = (([] : List Value).toArray ++ Builtin.zeroCells (Value.agg #[.int .u8 0, .int .i64 0]).cells (n + 1) ++ Builtin.zeroCells (Value.agg #[.int .u8 0, .int .i64 0]).cells (G - (0 + (n + 1)))) := ⟨_, rfl⟩
  have hGn : n + 1 ≤ G := by rw [hG]; have := grownCap_ge w (0 + (n + 1)) cap 35; omega
  have hGm : G ≤ maxLen := by rw [hG]; exact grownCap_le_maxLen w (0 + (n + 1)) cap 35 (by unfold maxLen; omega)
  have hRl : ROW.size = G * 2 := by
    rw [hROW]
    simp [Builtin.zeroCells, Value.cells]
    omega
  have hrz : ∀ ty, (Builtin.append_ #[24, 3] ty #[.slice (some ⟨g, 0, none⟩) 0 cap, .int .i64 ((n : Int) + 1)]).run Try.prog w = .ok (.slice (some ⟨w.heap.size, 0, none⟩) (n + 1) G) (w.drew.alloc (.cells ROW 35)) := fun ty => by
    have h := Lib.run_append_grow_zeros w 24 3 ty 35 i0 _ .i64 .i64 Try.underlying24 Try.underlying3 hi0 hz0 (some ⟨g, 0, none⟩) 0 cap [] hold (n + 1) (by omega) (by omega) (by omega) (by omega) (by rw [hz2]; omega) (by rw [hz2]; exact growslice_fits (by omega) (by omega))
    rw [← hG, ← hROW] at h
    simpa using h
  obtain ⟨W1, hW1⟩ : ∃ W1, W1 = w.drew.alloc (.cells ROW 35) := ⟨_, rfl⟩
  have hN1 : W1.heap[w.heap.size]? = some (.cells ROW.toList.toArray 35 (0, 0)) := by rw [hW1]; simpa using heap_alloc_new w.drew (.cells ROW 35)
  have hgr1 : w.grownBy W1 none := by rw [hW1]; exact ⟨rfl, rfl, rfl, by simp, fun k hk _ => Below.heap_alloc w.drew (.cells ROW 35) k hk⟩
  have hg1 : W1.heap[g]? = some (.cells cur.toArray 35 (0, 0)) := (hgr1.block g hgw (by simp)).trans hg
  have hB1 : W1.heap[gB]? = some (.cells #[a, b] 35 (0, 0)) := (hgr1.block gB hBw (by simp)).trans hB
  rw [← hW1] at hrz
  have hRll : ROW.toList.length = G * 2 := by simpa using hRl
  have hN2 := heap_setCells w.heap.size 35 [a, b] 0 W1 ROW.toList hN1 (by simp [hRl]; omega)
  obtain ⟨W2, hW2⟩ : ∃ W2, W2 = W1.setCells w.heap.size 0 [a, b] := ⟨_, rfl⟩
  rw [← hW2] at hN2
  have hgr2 : W1.grownBy W2 (some w.heap.size) := by rw [hW2]; exact grown_setCells _ _ _ _
  have hsz1 : W1.heap.size = w.heap.size + 1 := by rw [hW1]; simp
  have hg2 : W2.heap[g]? = some (.cells cur.toArray 35 (0, 0)) := (hgr2.block g (by omega) (by intro e; injection e; omega)).trans hg1
  obtain ⟨c2, hc2⟩ : ∃ c2, c2 = ROW.toList.take 0 ++ [a, b] ++ ROW.toList.drop (0 + [a, b].length) := ⟨_, rfl⟩
  rw [← hc2] at hN2
  have hc2l : c2.length = G * 2 := by rw [hc2]; simp [hRl]; omega
  have hN3 := heap_setCells w.heap.size 35 cs 2 W2.drew c2 hN2 (by rw [hcl]; omega)
  have hgr3 : W2.grownBy (W2.drew.setCells w.heap.size 2 cs) (some w.heap.size) := grown_trans (grown_drew W2 _) (grown_setCells _ _ _ _)
  have hcpA : ∀ ty dl dc, 1 ≤ dl → (Builtin.copy_ #[24, 24] ty #[.slice (some ⟨w.heap.size, 0, none⟩) dl dc, .slice (some ⟨gB, 0, none⟩) 1 1]).run Try.prog W1 = .ok (goInt 1) W2 := fun ty dl dc hdl => by
    have hm2 : Nat.min 1 dl = 1 := Nat.min_eq_left hdl
    have h := run_copy_n (P := Try.prog) W1 24 24 ty 35 2 w.heap.size 0 dl dc ⟨gB, 0, none⟩ 1 1 [a, b] Try.underlying24 hsz (by rw [hm2]; rfl)
      (fun j v hj => by
        rw [Addr.add_lit, Nat.zero_add]
        have := cell_at (cur := [a, b]) hB1 j
        rw [this]; exact hj)
      (fun j hj => by
        rw [cell_at hN1, List.getElem?_eq_getElem (by simp at hj; omega)]; rfl)
      (fun j hj => frozen_at hN1 _) (fun v hv => by simp at hv; rcases hv with rfl | rfl <;> assumption)
    rw [hm2, ← hW2] at h
    exact h
  have hcpB : ∀ ty dc sc, (Builtin.copy_ #[24, 24] ty #[.slice (some ⟨w.heap.size, 2, none⟩) n dc, .slice (some ⟨g, 0, none⟩) n sc]).run Try.prog W2.drew = .ok (goInt n) (W2.drew.setCells w.heap.size 2 cs) := fun ty dc sc => by
    have hm1 : Nat.min n n = n := Nat.min_self n
    have h := run_copy_n (P := Try.prog) W2.drew 24 24 ty 35 2 w.heap.size 2 n dc ⟨g, 0, none⟩ n sc cs Try.underlying24 hsz (by rw [hcl, hm1])
      (fun j v hj => by
        rw [Addr.add_lit, Nat.zero_add]
        show W2.cell? _ = _
        rw [cell_at hg2]
        rw [hcs, List.getElem?_take] at hj
        split at hj
        · exact hj
        · cases hj)
      (fun j hj => by
        show (W2.cell? _).isSome = true
        rw [cell_at hN2, List.getElem?_eq_getElem (by omega)]; rfl)
      (fun j hj => frozen_at (w := W2.drew) hN2 _) (fun v hv => h1 v (by rw [← hcs]; exact hv))
    rw [hm1] at h
    exact h
  have hgrA : w.grownBy (W2.drew.setCells w.heap.size 2 cs) none := by
    have h12 := grown_trans hgr2 hgr3
    exact ⟨h12.os.trans hgr1.os, h12.tape.trans hgr1.tape, h12.output.trans hgr1.output, Nat.le_trans hgr1.size h12.size, fun k hk _ => (h12.block k (by omega) (by intro e; injection e; omega)).trans (hgr1.block k hk (by simp))⟩
  have HE := Aside0.mk (show w.grownBy (W2.drew.setCells w.heap.size 2 cs) none ∧ n + 1 ≤ G ∧ G ≤ maxLen ∧ ∃ cur' : List Value, (W2.drew.setCells w.heap.size 2 cs).heap[w.heap.size]? = some (.cells cur'.toArray 35 (0, 0)) ∧ cur'.length = G * 2 ∧ cur'.take ((n + 1) * 2) = [a, b] ++ cs from
    ⟨hgrA, hGn, hGm, _, hN3, by simp; omega, by
      have e2 : c2.take 2 = [a, b] := by rw [hc2]; simp
      rw [e2, List.take_left' (by simp [hcl]; omega)]⟩)
  rw [← hcs]
  unfold maxLen at hGm
  have q0 : ¬ ((0 : Int) = (n : Int)) := by omega
  have q1 : ((0 : Int) == (n : Int)) = false := beq_eq_false_iff_ne.2 q0
  have q2 : (cap : Int) < (n : Int) + 1 := by omega
  have q5 : ¬ (cap = 0) := by omega
  have q6 : ¬ (G = 0) := by omega
  have q7 : ¬ (G = 1) := by omega
  have q8 : (1 : Int) ≤ (n : Int) + 1 := by omega
  have q9 : IntKind.i64.wrap 1 = 1 := by decide
  clear hN1 hN2 hN3 hgr1 hgr2 hgr3 hgrA hg1 hB1 hg2 hc2 hc2l hRll hRl hold hROW hG hcs hcl hg hB hsz1 hgw hBw hW1 hW2
  go_enter Try.func20, Try.ntmps20
  go_wp2_with (first
    | (at_builtin; refine Lib.wpList_append_run _ rfl _ _ _ _ rfl _ _ rfl rfl _ _ (hrz _) ?_)
    | (at_builtin; refine wpList_copy_run2 _ rfl _ _ 24 24 rfl _ _ rfl rfl (hcpA _ _ _ (by omega)) ?_))
  go_region_law (refine step_copy_run2 rfl _ _ 24 24 rfl (.slice (some ⟨w.heap.size, 2, none⟩) n (G - 1)) (.slice (some ⟨g, 0, none⟩) n cap) (by simp [Act.eval, Act.put]) (by simp [Act.eval, Act.put]) (hcpB _ _ _) ?_)
  go_wp2
  go_ret
  exact ⟨G, rfl, HE.out⟩

set_option maxHeartbeats 8000000 in
set_option maxRecDepth 100000 in
theorem Insert_empty (base gB : Nat) (v : Value) (a b : Value) (w : World) (hown : w.ownsRow base 35 2 v 0 []) (hB : w.heap[gB]? = some (.cells #[a, b] 35 (0, 0))) (hbase : base ≤ w.heap.size) (ha : a.oneCell' = true) (hb : b.oneCell' = true) :
    Calls Try.prog 20 #[v, .int .i64 0, .slice (some ⟨gB, 0, none⟩) 1 1] w fun e w' => ∃ v', e = .returned v' ∧ w'.ownsRow base 35 2 v' 1 [a, b] ∧ w.grownBy w' v.ownBlock ∧ (v'.ownBlock = v.ownBlock ∨ v'.ownBlock = some w.heap.size) := by
  obtain ⟨i0, hi0, hz0, hz1, hz2⟩ := info_parts info35
  have hnews : ∀ j u, ([a, b] : List Value)[j]? = some u → w.cell? ((⟨gB, 0, none⟩ : Addr).add j) = some u := fun j v hj => by
    rw [Addr.add_lit, Nat.zero_add]
    have := cell_at (cur := [a, b]) hB j
    rw [this]; exact hj
  have h1 : ∀ u ∈ ([a, b] : List Value), u.oneCell' = true := fun v hv => by simp at hv; rcases hv with rfl | rfl <;> assumption
  have HO := Aside0.mk hown
  have q1 : ((0 : Int) == 0) = true := rfl
  rcases hown.2 with ⟨rfl, _⟩ | ⟨g, cap, cur, rfl, _, _, _, hcm, _, _⟩
  · clear hown hB
    go_enter Try.func20, Try.ntmps20
    go_wp2_with (at_builtin; refine wpList_append_own_at _ rfl _ _ 24 rfl base 35 i0 _ 2 16 Try.underlying24 hi0 hz0 hz1 hz2 rfl (by omega) (.slice none 0 0) 0 [] rfl HO.out ⟨gB, 0, none⟩ 1 1 [a, b] rfl rfl hnews h1 (by unfold maxLen; omega) (by omega) hbase ?_; intro v' w' r1 r2 r3 r4; have R1 := Aside0.mk r1; have R2 := Aside0.mk r2; have R4 := Aside0.mk r4; clear r1 r2 r3 r4)
    go_ret
    exact ⟨_, rfl, R1.out, R2.out, R4.out⟩
  · unfold maxLen at hcm
    clear hown hB
    go_enter Try.func20, Try.ntmps20
    go_wp2_with (at_builtin; refine wpList_append_own_at _ rfl _ _ 24 rfl base 35 i0 _ 2 16 Try.underlying24 hi0 hz0 hz1 hz2 rfl (by omega) (.slice (some ⟨g, 0, none⟩) 0 cap) 0 [] rfl HO.out ⟨gB, 0, none⟩ 1 1 [a, b] rfl rfl hnews h1 (by unfold maxLen; omega) (by omega) hbase ?_; intro v' w' r1 r2 r3 r4; have R1 := Aside0.mk r1; have R2 := Aside0.mk r2; have R4 := Aside0.mk r4; clear r1 r2 r3 r4)
    all_goals (go_ret; exact ⟨_, rfl, R1.out, R2.out, R4.out⟩)

theorem grown_none {w w1 : World} (h : w.grownBy w1 none) (row : Option Nat) : w.grownBy w1 row := ⟨h.os, h.tape, h.output, h.size, fun k hk _ => h.block k hk (by simp)⟩
theorem Insert_own (base gB n : Nat) (v : Value) (xs : List Value) (a b : Value) (w : World) (hown : w.ownsRow base 35 2 v n xs) (hB : w.heap[gB]? = some (.cells #[a, b] 35 (0, 0))) (hne : v.ownBlock ≠ some gB) (hbase : base ≤ w.heap.size) (hbig : n ≤ 1000000)
    (h1 : ∀ u ∈ xs, u.oneCell' = true) (ha : a.oneCell' = true) (hb : b.oneCell' = true) :
    Calls Try.prog 20 #[v, .int .i64 0, .slice (some ⟨gB, 0, none⟩) 1 1] w fun e w' => ∃ v', e = .returned v' ∧ w'.ownsRow base 35 2 v' (n + 1) ([a, b] ++ xs) ∧ w.grownBy w' v.ownBlock ∧ (v'.ownBlock = v.ownBlock ∨ v'.ownBlock = some w.heap.size) := by
  rcases Nat.eq_zero_or_pos n with h0 | h0
  · subst h0
    obtain rfl : xs = [] := List.eq_nil_of_length_eq_zero (by have := hown.1; omega)
    exact Insert_empty base gB v a b w hown hB hbase ha hb
  · obtain ⟨hl, ⟨_, h⟩ | ⟨g, cap, cur, rfl, hbg, hg, hnc, hcm, hcs, htake⟩⟩ := hown
    · omega
    · have hg' : w.heap[g]? = some (.cells cur.toList.toArray 35 (0, 0)) := by simpa using hg
      have hcl : cur.toList.length = cap * 2 := by simpa using hcs
      have hgB : gB ≠ g := fun e => hne (by rw [e]; rfl)
      by_cases hroom : n + 1 ≤ cap
      · refine (Insert_room g gB n cap a b cur.toList w hg' hB hgB hcl h0 hroom hcm (by rw [htake]; exact h1) ha hb).mono ?_
        rintro e w' ⟨rfl, hgr, cur', h2, h3, h4⟩
        refine ⟨_, rfl, ⟨by simp [hl]; omega, .inr ⟨g, cap, cur'.toArray, rfl, hbg, h2, hroom, hcm, by simpa using h3, ?_⟩⟩, hgr, .inl rfl⟩
        rw [List.toList_toArray, h4, htake]
      · refine (Insert_grow g gB n cap a b cur.toList w hg' hB hcl h0 hnc (by omega) hbig (by rw [htake]; exact h1) ha hb).mono ?_
        rintro e w' ⟨G, rfl, hgr, hG1, hG2, cur', h2, h3, h4⟩
        refine ⟨_, rfl, ⟨by simp [hl]; omega, .inr ⟨w.heap.size, G, cur'.toArray, rfl, hbase, h2, hG1, hG2, by simpa using h3, ?_⟩⟩, grown_none hgr _, .inr rfl⟩
        rw [List.toList_toArray, h4, htake]
theorem Delete_own (base n i : Nat) (v : Value) (xs : List Value) (w : World) (hown : w.ownsRow base 35 2 v n xs) (hi : i < n) (h1 : ∀ u ∈ xs, u.oneCell' = true) :
    Calls Try.prog 19 #[v, .int .i64 i, .int .i64 ((i : Int) + 1)] w fun e w' => ∃ v', e = .returned v' ∧ w'.ownsRow base 35 2 v' (n - 1) (xs.take (i * 2) ++ xs.drop ((i + 1) * 2)) ∧ w.grownBy w' v.ownBlock ∧ v'.ownBlock = v.ownBlock := by
  obtain ⟨hl, ⟨_, h⟩ | ⟨g, cap, cur, rfl, hbg, hg, hnc, hcm, hcs, htake⟩⟩ := hown
  · omega
  · have hg' : w.heap[g]? = some (.cells cur.toList.toArray 35 (0, 0)) := by simpa using hg
    have hcl : cur.toList.length = cap * 2 := by simpa using hcs
    refine (Delete_raw g n cap i cur.toList w hg' hcl hnc hcm hi (by rw [htake]; exact h1)).mono ?_
    rintro e w' ⟨rfl, hgr, cur', h2, h3, h4⟩
    refine ⟨_, rfl, ⟨by rw [List.length_append, List.length_take, List.length_drop]; omega, .inr ⟨g, cap, cur'.toArray, rfl, hbg, h2, by omega, hcm, by simpa using h3, ?_⟩⟩, hgr, rfl⟩
    rw [List.toList_toArray, h4, htake, ← htake, List.take_take, Nat.min_eq_left (by omega)]
/-! #### rows of two cells an element, as lists -/
section
variable {α : Type}
theorem reps_flat {R : α → List Value → Prop} (enc : α → List Value) (hR : ∀ p c, R p c → c = enc p) : ∀ (ps : List α) (cs : List Value), Reps R 2 ps cs → cs = ps.flatMap enc
  | [], cs, h => by have := h.1; simpa using this
  | p :: ps, cs, h => by
    have hl := h.1
    rw [List.length_cons] at hl
    have h0 := hR _ _ (h.2 0 p rfl)
    have ht : Reps R 2 ps (cs.drop 2) := ⟨by rw [List.length_drop]; omega, fun j q hj => by
      have := h.2 (j + 1) q (by simpa using hj)
      rw [List.drop_drop]
      rwa [show 2 + j * 2 = (j + 1) * 2 by omega]⟩
    rw [List.flatMap_cons, ← reps_flat enc hR ps _ ht, ← h0]
    simp
theorem flat_reps {R : α → List Value → Prop} (enc : α → List Value) (h2 : ∀ p, (enc p).length = 2) (hR : ∀ p, R p (enc p)) : ∀ (ps : List α), Reps R 2 ps (ps.flatMap enc)
  | [] => Reps.none R 2
  | p :: ps => by
    have ih := flat_reps enc h2 hR ps
    refine ⟨by rw [List.flatMap_cons, List.length_append, h2, ih.1, List.length_cons]; omega, fun j q hj => ?_⟩
    rw [List.flatMap_cons]
    cases j with
    | zero =>
      obtain rfl : p = q := by simpa using hj
      rw [Nat.zero_mul, List.drop_zero, List.take_left' (h2 p)]; exact hR p
    | succ j =>
      have := ih.2 j q (by simpa using hj)
      rw [show (j + 1) * 2 = 2 + j * 2 by omega, ← List.drop_drop, List.drop_left' (h2 p)]
      exact this
theorem flat_take (enc : α → List Value) (h2 : ∀ p, (enc p).length = 2) : ∀ (l : List α) (k : Nat), (l.flatMap enc).take (k * 2) = (l.take k).flatMap enc
  | [], k => by simp
  | x :: l, 0 => by simp
  | x :: l, k + 1 => by
    rw [List.take_succ_cons, List.flatMap_cons, List.flatMap_cons, ← flat_take enc h2 l k, show (k + 1) * 2 = (enc x).length + k * 2 by rw [h2]; omega, List.take_append, List.take_of_length_le (by rw [h2]; omega)]
    simp [h2]
theorem flat_drop (enc : α → List Value) (h2 : ∀ p, (enc p).length = 2) : ∀ (l : List α) (k : Nat), (l.flatMap enc).drop (k * 2) = (l.drop k).flatMap enc
  | [], k => by simp
  | x :: l, 0 => by simp
  | x :: l, k + 1 => by
    rw [List.drop_succ_cons, List.flatMap_cons, ← flat_drop enc h2 l k, show (k + 1) * 2 = (enc x).length + k * 2 by rw [h2]; omega, List.drop_append]
    simp [h2]
theorem own_ge {w : World} {base e size n : Nat} {v : Value} {xs : List Value} (h : w.ownsRow base e size v n xs) : ∀ k, v.ownBlock = some k → base ≤ k := by
  intro k hk
  rcases h.2 with ⟨rfl, _⟩ | ⟨g, _, _, rfl, hb, _⟩
  · cases hk
  · injection hk with hk; rw [← hk]; exact hb
theorem below_grown {base : Nat} {w0 w w1 : World} {v : Value} (HB : Below base w0 w) (hg : w.grownBy w1 v.ownBlock) (hv : ∀ k, v.ownBlock = some k → base ≤ k) (hbase : base ≤ w.heap.size) : Below base w0 w1 :=
  HB.trans ⟨hg.os, hg.tape, hg.output, hg.size, fun k hk => hg.block k (by omega) (fun e => by have := hv k e.symm; omega)⟩
theorem R_delete (d : Kd α) (hsz : d.sz = 2) (enc : α → List Value) (h2 : ∀ p, (enc p).length = 2) (hopen : ∀ (w : World) (base : Nat) (ok : Nat → Prop) (x : α) (cs : List Value), d.M w base ok x cs → cs = enc x) (hmk : ∀ (w : World) (base : Nat) (ok : Nat → Prop) (x : α), d.M w base ok x (enc x))
    (h1 : ∀ x, ∀ u ∈ enc x, u.oneCell' = true) (base : Nat) (w0 w : World) (v : Value) (xs : List α) (i : Nat) (hi : i < xs.length) (HO : d.R 35 w base (fun _ => True) v xs) (HB : Below base w0 w) (hbase : base ≤ w.heap.size) :
    Calls Try.prog 19 #[v, .int .i64 i, .int .i64 ((i : Int) + 1)] w fun e w1 => ∃ v1, e = .returned v1 ∧ d.R 35 w1 base (fun _ => True) v1 (xs.take i ++ xs.drop (i + 1)) ∧ Below base w0 w1 ∧ w.grownBy w1 v.ownBlock ∧ (v1.ownBlock = v.ownBlock ∨ ∃ b, v1.ownBlock = some b ∧ w.heap.size ≤ b) := by
  obtain ⟨_, inner, ho, hr⟩ := HO
  rw [hsz] at ho hr
  obtain rfl := reps_flat enc (fun p c h => hopen _ _ _ _ _ h) _ _ hr
  refine (Delete_own base xs.length i v _ w ho hi (fun u hu => by obtain ⟨x, _, hx⟩ := List.mem_flatMap.1 hu; exact h1 x u hx)).mono ?_
  rintro e w1 ⟨v1, rfl, ho1, hg, hat⟩
  rw [flat_take enc h2, flat_drop enc h2, ← List.flatMap_append] at ho1
  have hl : (xs.take i ++ xs.drop (i + 1)).length = xs.length - 1 := by rw [List.length_append, List.length_take, List.length_drop]; omega
  refine ⟨v1, rfl, ⟨fun _ _ => trivial, (xs.take i ++ xs.drop (i + 1)).flatMap enc, ?_, ?_⟩, below_grown HB hg (own_ge ho) hbase, hg, .inl hat⟩
  · rw [hsz, hl]; exact ho1
  · rw [hsz]; exact flat_reps enc h2 (fun p => hmk _ _ _ p) _
theorem R_insert (d : Kd α) (hsz : d.sz = 2) (enc : α → List Value) (h2 : ∀ p, (enc p).length = 2) (hopen : ∀ (w : World) (base : Nat) (ok : Nat → Prop) (x : α) (cs : List Value), d.M w base ok x cs → cs = enc x) (hmk : ∀ (w : World) (base : Nat) (ok : Nat → Prop) (x : α), d.M w base ok x (enc x))
    (h1 : ∀ x, ∀ u ∈ enc x, u.oneCell' = true) (base gB : Nat) (w0 w : World) (v : Value) (xs : List α) (p : α) (a b : Value) (hp : enc p = [a, b]) (hB : w.heap[gB]? = some (.cells #[a, b] 35 (0, 0))) (hne : v.ownBlock ≠ some gB) (hbig : xs.length ≤ 1000000) (HO : d.R 35 w base (fun _ => True) v xs) (HB : Below base w0 w) (hbase : base ≤ w.heap.size) :
    Calls Try.prog 20 #[v, .int .i64 0, .slice (some ⟨gB, 0, none⟩) 1 1] w fun e w1 => ∃ v1, e = .returned v1 ∧ d.R 35 w1 base (fun _ => True) v1 (p :: xs) ∧ Below base w0 w1 ∧ w.grownBy w1 v.ownBlock ∧ (v1.ownBlock = v.ownBlock ∨ ∃ b, v1.ownBlock = some b ∧ w.heap.size ≤ b) := by
  obtain ⟨_, inner, ho, hr⟩ := HO
  rw [hsz] at ho hr
  obtain rfl := reps_flat enc (fun p c h => hopen _ _ _ _ _ h) _ _ hr
  refine (Insert_own base gB xs.length v _ a b w ho hB hne hbase hbig (fun u hu => by obtain ⟨x, _, hx⟩ := List.mem_flatMap.1 hu; exact h1 x u hx) (h1 p a (by rw [hp]; simp)) (h1 p b (by rw [hp]; simp))).mono ?_
  rintro e w1 ⟨v1, rfl, ho1, hg, hat⟩
  rw [← hp, ← List.flatMap_cons] at ho1
  refine ⟨v1, rfl, ⟨fun _ _ => trivial, (p :: xs).flatMap enc, ?_, ?_⟩, below_grown HB hg (own_ge ho) hbase, hg, hat.imp_right fun h => ⟨_, h, Nat.le_refl _⟩⟩
  · rw [hsz]; exact ho1
  · rw [hsz]; exact flat_reps enc h2 (fun p => hmk _ _ _ p) _
theorem R_deleteI (d : Kd α) (hsz : d.sz = 2) (enc : α → List Value) (h2 : ∀ p, (enc p).length = 2) (hopen : ∀ (w : World) (base : Nat) (ok : Nat → Prop) (x : α) (cs : List Value), d.M w base ok x cs → cs = enc x) (hmk : ∀ (w : World) (base : Nat) (ok : Nat → Prop) (x : α), d.M w base ok x (enc x))
    (h1 : ∀ x, ∀ u ∈ enc x, u.oneCell' = true) (base : Nat) (w0 w : World) (v : Value) (xs : List α) (i j : Int) (h0 : 0 ≤ i) (hj : j = i + 1) (hi : i < (xs.length : Int)) (HO : d.R 35 w base (fun _ => True) v xs) (HB : Below base w0 w) (hbase : base ≤ w.heap.size) :
    Calls Try.prog 19 #[v, .int .i64 i, .int .i64 j] w fun e w1 => ∃ v1, e = .returned v1 ∧ d.R 35 w1 base (fun _ => True) v1 (xs.take i.toNat ++ xs.drop (i.toNat + 1)) ∧ Below base w0 w1 ∧ w.grownBy w1 v.ownBlock ∧ (v1.ownBlock = v.ownBlock ∨ ∃ b, v1.ownBlock = some b ∧ w.heap.size ≤ b) := by
  have h := R_delete d hsz enc h2 hopen hmk h1 base w0 w v xs i.toNat (by omega) HO HB hbase
  rw [Int.toNat_of_nonneg h0, ← hj] at h
  exact h
theorem R_insertN (d : Kd α) (hsz : d.sz = 2) (enc : α → List Value) (h2 : ∀ p, (enc p).length = 2) (hopen : ∀ (w : World) (base : Nat) (ok : Nat → Prop) (x : α) (cs : List Value), d.M w base ok x cs → cs = enc x) (hmk : ∀ (w : World) (base : Nat) (ok : Nat → Prop) (x : α), d.M w base ok x (enc x))
    (h1 : ∀ x, ∀ u ∈ enc x, u.oneCell' = true) (base : Nat) (w0 W : World) (v : Value) (xs : List α) (p : α) (a b : Value) (hp : enc p = [a, b]) (hbig : xs.length ≤ 1000000) (HO : d.R 35 W base (fun _ => True) v xs) (hlt : ∀ k, v.ownBlock = some k → k < W.heap.size) (HOa : d.R 35 (W.alloc (.cells #[a, b] 35)) base (fun _ => True) v xs) (HB : Below base w0 W) (hbase : base ≤ W.heap.size) :
    Calls Try.prog 20 #[v, .int .i64 0, .slice (some ⟨W.heap.size, 0, none⟩) 1 1] (W.alloc (.cells #[a, b] 35)) fun e w1 => ∃ v1, e = .returned v1 ∧ d.R 35 w1 base (fun _ => True) v1 (p :: xs) ∧ Below base w0 w1 ∧ W.grownBy w1 v.ownBlock ∧ (v1.ownBlock = v.ownBlock ∨ ∃ b, v1.ownBlock = some b ∧ W.heap.size ≤ b) := by
  have hsa : (W.alloc (.cells #[a, b] 35)).heap.size = W.heap.size + 1 := by simp
  refine (R_insert d hsz enc h2 hopen hmk h1 base W.heap.size w0 _ v xs p a b hp (heap_alloc_new W _) (fun e => Nat.lt_irrefl _ (hlt _ e)) hbig HOa (Below.alloc HB hbase _) (by omega)).mono ?_
  rintro e w1 ⟨v1, rfl, ho, hb, hg, hat⟩
  refine ⟨v1, rfl, ho, hb, ⟨hg.os, hg.tape, hg.output, by have := hg.size; omega, fun k hk hne => (hg.block k (by omega) hne).trans (Below.heap_alloc W _ k hk)⟩, hat.imp_right fun ⟨b, h, hl⟩ => ⟨b, h, by omega⟩⟩
end
end Go.Proofs.Ytdkbhjmoiblobaa.Shift
