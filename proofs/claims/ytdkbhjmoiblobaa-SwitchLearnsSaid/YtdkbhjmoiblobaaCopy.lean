/- Plain laws for the walk, over the print's kinds: the builtin copy into a row of the call's own. Nothing here is of one program. -/
import Derived.Test.YtdkbhjmoiblobaaWMore
import Derived.Laws.CopyOwn
import Derived.Lib.SliceRun
namespace Go.Proofs.Ytdkbhjmoiblobaa.Hand
open Go.RowKit Go.Proofs.YtdkbhjmoiblobaaW.PrintWords Go.Proofs.YtdkbhjmoiblobaaW.PrintMore
set_option linter.unusedVariables false
set_option linter.unusedSimpArgs false

theorem R_of_cells {k : IntKind} {e : Nat} {w : World} {base : Nat} {g cap : Nat} {cur : List Value} {xs : List Int} (hb : base ≤ g) (hg : w.heap[g]? = some (.cells cur.toArray e (0, 0))) (hn : xs.length ≤ cap) (hc : cap ≤ maxLen) (hl : cur.length = cap)
    (hx : cur.take xs.length = xs.map (Value.int k)) : (Kd.int k).R e w base (fun _ => True) (.slice (some ⟨g, 0, none⟩) xs.length cap) xs := by
  refine ⟨fun _ _ => trivial, xs.map (Value.int k), ⟨by simp [Kd.int, Kd.scalar], .inr ⟨g, cap, cur.toArray, rfl, hb, hg, hn, hc, by simpa [Kd.int, Kd.scalar] using hl, by simpa [Kd.int, Kd.scalar] using hx⟩⟩, by simp [Kd.int, Kd.scalar], ?_⟩
  intro j p hp
  show _ = [Value.int k p]
  simp only [Kd.int, Kd.scalar, Nat.mul_one]
  have hj := (List.getElem?_eq_some_iff.1 hp).1
  have he := (List.getElem?_eq_some_iff.1 hp).2
  rw [List.drop_eq_getElem_cons (by simpa using hj)]
  simp [he]
theorem cells_of_R {k : IntKind} {e : Nat} {w : World} {base : Nat} {ok : Nat → Prop} {v : Value} {xs : List Int} (h : (Kd.int k).R e w base ok v xs) :
    (v = .slice none 0 0 ∧ xs = []) ∨ ∃ (g cap : Nat) (cur : List Value), v = .slice (some ⟨g, 0, none⟩) xs.length cap ∧ base ≤ g ∧ w.heap[g]? = some (.cells cur.toArray e (0, 0)) ∧ xs.length ≤ cap ∧ cap ≤ maxLen ∧ cur.length = cap ∧ cur.take xs.length = xs.map (Value.int k) := by
  obtain ⟨h0, inner, ⟨h1, h2⟩, hr1, hr2⟩ := h
  have hin : inner = xs.map (Value.int k) := by
    apply List.ext_getElem?
    intro j
    have hlen : inner.length = xs.length := by simpa [Kd.int, Kd.scalar] using h1
    rcases Nat.lt_or_ge j xs.length with hj | hj
    · have := hr2 j xs[j] (List.getElem?_eq_getElem hj)
      have h3 : (inner.drop (j * 1)).take 1 = [Value.int k xs[j]] := this
      rw [Nat.mul_one, List.drop_eq_getElem_cons (by omega)] at h3
      simp only [List.take_succ_cons, List.take_zero, List.cons.injEq, and_true] at h3
      rw [List.getElem?_eq_getElem (by omega), List.getElem?_map, List.getElem?_eq_getElem hj, h3]; rfl
    · rw [List.getElem?_eq_none (by omega), List.getElem?_eq_none (by simpa using hj)]
  subst hin
  rcases h2 with ⟨rfl, h3⟩ | ⟨g, cap, cur, rfl, hb, hg, hn, hc, hl, hx⟩
  · exact .inl ⟨rfl, List.eq_nil_of_length_eq_zero h3⟩
  · exact .inr ⟨g, cap, cur.toList, rfl, hb, by simpa using hg, hn, hc, by simpa [Kd.int, Kd.scalar] using hl, by simpa [Kd.int, Kd.scalar] using hx⟩
/-- 'copy' of as many elements as the row has: the row is the other one's elements then. -/
theorem R_copy_all {P : Program} {ops : Array Oper} {rest : List Oper} {o : Oper} {a : Act} {Q : Exit → Act → World → Prop} {w0 W : World} {k : IntKind} {base e : Nat} (hgd : o.guard = none) (d s : Operand) (dT sT : TypeId)
    (ho : o.op = .call { callee := .builtin .copy, args := #[d, s], argTypes := #[dT, sT] }) (hu : P.underlying dT = some (.slice e)) (hsz : (P.info? e).map (·.size) = some 1)
    (v : Value) (xs ys : List Int) (A : Option Addr) (c : Nat) (hd : a.eval d = v) (hs : a.eval s = .slice A ys.length c)
    (HO : (Kd.int k).R e W base (fun _ => True) v xs) (HC : (Kd.int k).C W A ys.length ys) (hlen : ys.length = xs.length) (HB : Below base w0 W)
    (h : ∀ w1, (Kd.int k).R e w1 base (fun _ => True) v ys → Below base w0 w1 → wpList P ops Q rest (a.put o.dst (goInt ys.length)) w1) : wpList P ops Q (o :: rest) a W := by
  rcases cells_of_R HO with ⟨rfl, rfl⟩ | ⟨g, cap, cur, rfl, hb, hg, hn, hc, hl, hx⟩
  · obtain rfl : ys = [] := List.eq_nil_of_length_eq_zero hlen
    exact wpList_copy_nothing hgd d s dT sT ho e hu hsz none A 0 0 0 c hd hs (by rfl) (h W HO HB)
  · rcases Nat.eq_zero_or_pos ys.length with h0 | h0
    · obtain rfl : ys = [] := List.eq_nil_of_length_eq_zero h0
      obtain rfl : xs = [] := List.eq_nil_of_length_eq_zero hlen.symm
      exact wpList_copy_nothing hgd d s dT sT ho e hu hsz _ A 0 cap 0 c hd hs (by rfl) (h W HO HB)
    · obtain ⟨_, hbig, hC⟩ := HC
      obtain ⟨ad, rfl, hcell⟩ := hC h0
      have hml : (ys.map (Value.int k)).length = ys.length := by simp
      refine wpList_copy_own hgd d s dT sT ho e hu hsz g 0 xs.length cap ad ys.length c hd hs cur.toArray e hg (ys.map (Value.int k)) (by rw [hml, hlen]; exact (Nat.min_self _).symm) ?_ (by simp; omega) (by intro u hu; obtain ⟨z, _, rfl⟩ := List.mem_map.1 hu; rfl) ?_
      · intro j u hj
        rw [List.getElem?_map, Option.map_eq_some_iff] at hj
        obtain ⟨z, hz, rfl⟩ := hj
        obtain ⟨cs, _, hR, hcc⟩ := hcell j z hz
        have hR' : cs = [Value.int k z] := hR
        subst hR'
        have := hcc 0 _ rfl
        simpa [Kd.int, Kd.scalar] using this
      · have hR1 : (Kd.int k).R e (W.setRow g (cur.take 0 ++ (ys.map (Value.int k) ++ cur.drop (0 + (ys.map (Value.int k)).length))).toArray) base (fun _ => True) (.slice (some ⟨g, 0, none⟩) ys.length cap) ys := by
          refine R_of_cells hb (setRow_heap W g _ _ e _ hg) (by omega) hc ?_ ?_
          · simp; omega
          · simp
        rw [← hlen] at h
        have := h _ hR1 (below_setRow HB hb _)
        simpa using this
theorem tdm (x c : Int) (hc : 1 ≤ c) : Int.tdiv (x % 4294967296) c % 4294967296 = x % 4294967296 / c := by
  have h0 := Int.emod_nonneg x (show (4294967296 : Int) ≠ 0 by decide)
  have h1 := Int.emod_lt_of_pos x (show (0 : Int) < 4294967296 by decide)
  rw [Int.tdiv_eq_ediv_of_nonneg h0]
  have h2 := Int.ediv_nonneg h0 (show 0 ≤ c by omega)
  have h3 : x % 4294967296 / c ≤ x % 4294967296 := Int.ediv_le_self c h0
  omega
/-- A row that was laid just now, read. -/
theorem reads_new {k : IntKind} (W : World) (e : TypeId) (ys : List Int) (cells : Array Value) (hc : cells = (ys.map (Value.int k)).toArray) (hl : ys.length ≤ 9223372036854775807) :
    ReadsRow (fun (x : Int) (cs : List Value) => cs = [.int k x]) 1 (W.alloc (.cells cells e)) (some ⟨W.heap.size, 0, none⟩) ys.length ys := by
  refine ⟨rfl, hl, fun _ => ⟨_, rfl, fun j p hj => ⟨_, rfl, rfl, fun i u hu => ?_⟩⟩⟩
  obtain rfl : i = 0 := by
    rcases Nat.eq_zero_or_pos i with h | h
    · exact h
    · rw [List.getElem?_eq_none (by simp; omega)] at hu; cases hu
  obtain rfl : Value.int k p = u := by simpa using hu
  have ha : (⟨W.heap.size, 0, none⟩ : Addr).add (j * 1 + 0) = ⟨W.heap.size, j, none⟩ := by unfold Addr.add; split <;> simp_all
  subst hc
  rw [ha]
  have hn := heap_alloc_new W (.cells (ys.map (Value.int k)).toArray e)
  have := (List.getElem?_eq_some_iff.1 hj)
  obtain ⟨h1, h2⟩ := this
  unfold World.cell?
  simp only
  rw [hn]
  simp [h1, h2]
/-- The same call, its arguments spelled otherwise. -/
theorem args_ {P : Program} {f : FuncId} {a b : Array Value} {w : World} {Q : Ending → World → Prop} (h : Calls P f a w Q) (e : a = b) : Calls P f b w Q := e ▸ h
theorem grown_setRow (w : World) (g n c : Nat) (cs : Array Value) : w.grownBy (w.setRow g cs) (Value.slice (some ⟨g, 0, none⟩) n c).ownBlock :=
  ⟨rfl, rfl, rfl, by simp [World.setRow], fun k _ hk => setRow_other w g k _ (fun e => hk (by simp [Value.ownBlock, e]))⟩
/-- 'copy' of what fits: the row's first elements are the other one's then. -/
theorem R_copy_pre {P : Program} {ops : Array Oper} {rest : List Oper} {o : Oper} {a : Act} {Q : Exit → Act → World → Prop} {w0 W : World} {k : IntKind} {base e : Nat} {ok : Nat → Prop} (hgd : o.guard = none) (d s : Operand) (dT sT : TypeId)
    (ho : o.op = .call { callee := .builtin .copy, args := #[d, s], argTypes := #[dT, sT] }) (hu : P.underlying dT = some (.slice e)) (hsz : (P.info? e).map (·.size) = some 1)
    (v : Value) (xs ys : List Int) (A : Option Addr) (c : Nat) (hd : a.eval d = v) (hs : a.eval s = .slice A ys.length c)
    (HO : (Kd.int k).R e W base ok v xs) (HC : (Kd.int k).C W A ys.length ys) (HB : Below base w0 W)
    (h : ∀ w1, (Kd.int k).R e w1 base ok v (ys.take xs.length ++ xs.drop ys.length) → Below base w0 w1 → W.grownBy w1 v.ownBlock → wpList P ops Q rest (a.put o.dst (goInt (Nat.min ys.length xs.length))) w1) : wpList P ops Q (o :: rest) a W := by
  have hok := HO.1
  have hself : W.grownBy W v.ownBlock := ⟨rfl, rfl, rfl, Nat.le_refl _, fun _ _ _ => rfl⟩
  have nothing : ∀ (A' : Option Addr) (c' : Nat), v = .slice A' xs.length c' → Nat.min ys.length xs.length = 0 → wpList P ops Q (o :: rest) a W := by
    intro A' c' hv h0
    refine wpList_copy_nothing hgd d s dT sT ho e hu hsz A' A xs.length c' ys.length c (hd.trans hv) hs h0 ?_
    have hl : ys.take xs.length ++ xs.drop ys.length = xs := by
      rcases Nat.eq_zero_or_pos ys.length with h1 | h1
      · have : ys = [] := List.eq_nil_of_length_eq_zero h1
        subst this; simp
      · have h2 : xs.length = 0 := by have : min ys.length xs.length = 0 := h0; omega
        have : xs = [] := List.eq_nil_of_length_eq_zero h2
        subst this; simp
    have := h W (by rw [hl]; exact HO) HB hself
    rw [h0] at this
    exact this
  rcases cells_of_R HO with ⟨hv, hx0⟩ | ⟨g, cap, cur, hv, hb, hg, hn, hc, hl, hx⟩
  · subst hx0
    exact nothing none 0 hv (Nat.min_zero _)
  · by_cases h0 : Nat.min ys.length xs.length = 0
    · exact nothing _ _ hv h0
    · have h0' : min ys.length xs.length ≠ 0 := h0
      have hy : 0 < ys.length := by omega
      obtain ⟨_, hbig, hC⟩ := HC
      obtain ⟨ad, rfl, hcell⟩ := hC hy
      have hml : ((ys.take xs.length).map (Value.int k)).length = Nat.min ys.length xs.length := by rw [List.length_map, List.length_take]; exact Nat.min_comm _ _
      have hml' : ((ys.take xs.length).map (Value.int k)).length = min ys.length xs.length := hml
      refine wpList_copy_own hgd d s dT sT ho e hu hsz g 0 xs.length cap ad ys.length c (hd.trans hv) hs cur.toArray e hg ((ys.take xs.length).map (Value.int k)) hml ?_ (by simp; omega) (by intro u hu; obtain ⟨z, _, rfl⟩ := List.mem_map.1 hu; rfl) ?_
      · intro j u hj
        rw [List.getElem?_map, Option.map_eq_some_iff] at hj
        obtain ⟨z, hz, rfl⟩ := hj
        have hz' : ys[j]? = some z := by
          have hjl : j < (ys.take xs.length).length := (List.getElem?_eq_some_iff.1 hz).1
          rw [List.getElem?_take_of_lt (by simp at hjl; omega)] at hz
          exact hz
        obtain ⟨cs, _, hR, hcc⟩ := hcell j z hz'
        have hR' : cs = [Value.int k z] := hR
        subst hR'
        have := hcc 0 _ rfl
        simpa [Kd.int, Kd.scalar] using this
      · have hlen : (ys.take xs.length ++ xs.drop ys.length).length = xs.length := by simp; omega
        have hR1 : (Kd.int k).R e (W.setRow g (cur.take 0 ++ ((ys.take xs.length).map (Value.int k) ++ cur.drop (0 + ((ys.take xs.length).map (Value.int k)).length))).toArray) base (fun _ => True) (.slice (some ⟨g, 0, none⟩) (ys.take xs.length ++ xs.drop ys.length).length cap) (ys.take xs.length ++ xs.drop ys.length) := by
          refine R_of_cells hb (setRow_heap W g _ _ e _ hg) (by omega) hc ?_ ?_
          · simp; omega
          · rw [hlen, List.take_zero, List.nil_append, Nat.zero_add, List.take_append, List.map_append, List.take_of_length_le (by omega)]
            congr 1
            rw [List.take_drop, List.map_drop, ← hx, hml']
            have e1 : min ys.length xs.length + (xs.length - min ys.length xs.length) = xs.length := by omega
            rw [e1]
            rcases Nat.le_total ys.length xs.length with h1 | h1
            · rw [Nat.min_eq_left h1]
            · rw [Nat.min_eq_right h1, List.drop_of_length_le (by simp; omega), List.drop_of_length_le (by simp; omega)]
        rw [hlen, ← hv] at hR1
        have hR2 : (Kd.int k).R e (W.setRow g (cur.take 0 ++ ((ys.take xs.length).map (Value.int k) ++ cur.drop (0 + ((ys.take xs.length).map (Value.int k)).length))).toArray) base ok v (ys.take xs.length ++ xs.drop ys.length) := ⟨hok, hR1.2⟩
        have := h _ hR2 (below_setRow HB hb _) (by rw [hv]; exact grown_setRow W g _ _ _)
        rw [← hml] at this
        exact this
/-- make([]T, 0, c): an empty row with room. -/
theorem R_make0 {P : Program} {ops : Array Oper} {rest : List Oper} {o : Oper} {a : Act} {Q : Exit → Act → World → Prop} {α : Type} (d : Kd α) {w0 W : World} (base e : Nat) (hgd : o.guard = none) {N : Tmp} (hd : o.dst = some N) (t : TypeId) (x y : Operand) (ho : o.op = .makeSlice t x y) (n : Int) (hx : a.eval x = .int .i64 0) (hy : a.eval y = .int .i64 n)
    (ht : P.underlying t = some (.slice e)) (z : Value) (bytes : Nat) (hinfo : (P.info? e).map (fun i => (i.zero, i.size, i.bytes)) = some (some z, d.sz, bytes)) (hz : z.cells.size = d.sz) (hs0 : 0 < d.sz) (hb0 : 0 < bytes)
    (z0 : α) {ok okp : Nat → Prop} (hzero : d.M W base okp z0 z.cells.toList) (hok : ∀ k, okp k → ok k) (hfresh : ok W.heap.size) (h0 : 0 ≤ n) (hl : n.toNat * bytes ≤ 281474976710656) (HB : Below base w0 W) (hbase : base ≤ W.heap.size)
    (h : ∀ v1 w1, d.R e w1 base ok v1 [] → Below base w0 w1 → W.grownBy w1 none → (∃ b, v1.ownBlock = some b ∧ W.heap.size ≤ b) → wpList P ops Q rest (a.put o.dst v1) w1) : wpList P ops Q (o :: rest) a W := by
  obtain ⟨m, rfl⟩ := Int.eq_ofNat_of_zero_le h0
  simp only [Int.toNat_natCast] at hl
  obtain ⟨i0, hi, hzz⟩ := Option.map_eq_some_iff.1 hinfo
  simp only [Prod.mk.injEq] at hzz
  obtain ⟨hz0, hz1, hz2⟩ := hzz
  have hm : m ≤ 281474976710656 := Nat.le_trans (Nat.le_mul_of_pos_right _ hb0) hl
  have hr := run_make (P := P) W t e i0 z ht hi hz0 .i64 .i64 (0 : Int) (m : Int) (by omega) (by omega)
    (by
      have h3 : ((i0.bytes * m : Nat) : Int) ≤ 281474976710656 := by rw [hz2, Nat.mul_comm]; omega
      rwa [Int.natCast_mul] at h3) (by omega)
  simp only [Int.toNat_natCast] at hr
  rw [hz1] at hr
  have hR : d.R e (W.alloc (.cells (madeCells z.cells (m * d.sz)) e)) base ok (.slice (some ⟨W.heap.size, 0, none⟩) 0 m) [] := by
    refine ⟨fun k hk => ?_, [], ⟨by simp, .inr ⟨W.heap.size, m, madeCells z.cells (m * d.sz), rfl, hbase, heap_alloc_new W _, Nat.zero_le _, by unfold maxLen; omega, by simp [size_madeCells], by simp⟩⟩, Reps.none _ _⟩
    have : W.heap.size = k := by simpa [Value.ownBlock] using hk
    rw [← this]; exact hfresh
  have hfin := h _ _ hR (HB.alloc hbase _) (World.grownBy_alloc W _ none) ⟨W.heap.size, by simp [Value.ownBlock], Nat.le_refl _⟩
  refine wpList_plain hgd fun K hK => ?_
  unfold Oper.wp
  simp [execOp, ho, hx, hy, hr, Result.andThen]
  exact hK _ _ hfin
theorem R_make0_step {P : Program} {ops : Array Oper} {o : Oper} {a : Act} {Q : Exit → Act → World → Prop} {Kc : Act → World → Prop} {α : Type} (d : Kd α) {w0 W : World} (base e : Nat) (hw : Region.wanted o (yielded ops a.tmps) = true) {N : Tmp} (hd : o.dst = some N) (t : TypeId) (x y : Operand) (ho : o.op = .makeSlice t x y) (n : Int) (hx : a.eval x = .int .i64 0) (hy : a.eval y = .int .i64 n)
    (ht : P.underlying t = some (.slice e)) (z : Value) (bytes : Nat) (hinfo : (P.info? e).map (fun i => (i.zero, i.size, i.bytes)) = some (some z, d.sz, bytes)) (hz : z.cells.size = d.sz) (hs0 : 0 < d.sz) (hb0 : 0 < bytes)
    (z0 : α) {ok okp : Nat → Prop} (hzero : d.M W base okp z0 z.cells.toList) (hok : ∀ k, okp k → ok k) (hfresh : ok W.heap.size) (h0 : 0 ≤ n) (hl : n.toNat * bytes ≤ 281474976710656) (HB : Below base w0 W) (hbase : base ≤ W.heap.size)
    (h : ∀ v1 w1, d.R e w1 base ok v1 [] → Below base w0 w1 → W.grownBy w1 none → (∃ b, v1.ownBlock = some b ∧ W.heap.size ≤ b) → Kc (a.put o.dst v1) w1) : if Region.wanted o (yielded ops a.tmps) = true then Oper.wp P o a W Kc Q else Kc (a.put o.dst undef) W := by
  obtain ⟨m, rfl⟩ := Int.eq_ofNat_of_zero_le h0
  simp only [Int.toNat_natCast] at hl
  obtain ⟨i0, hi, hzz⟩ := Option.map_eq_some_iff.1 hinfo
  simp only [Prod.mk.injEq] at hzz
  obtain ⟨hz0, hz1, hz2⟩ := hzz
  have hm : m ≤ 281474976710656 := Nat.le_trans (Nat.le_mul_of_pos_right _ hb0) hl
  have hr := run_make (P := P) W t e i0 z ht hi hz0 .i64 .i64 (0 : Int) (m : Int) (by omega) (by omega)
    (by
      have h3 : ((i0.bytes * m : Nat) : Int) ≤ 281474976710656 := by rw [hz2, Nat.mul_comm]; omega
      rwa [Int.natCast_mul] at h3) (by omega)
  simp only [Int.toNat_natCast] at hr
  rw [hz1] at hr
  have hR : d.R e (W.alloc (.cells (madeCells z.cells (m * d.sz)) e)) base ok (.slice (some ⟨W.heap.size, 0, none⟩) 0 m) [] := by
    refine ⟨fun k hk => ?_, [], ⟨by simp, .inr ⟨W.heap.size, m, madeCells z.cells (m * d.sz), rfl, hbase, heap_alloc_new W _, Nat.zero_le _, by unfold maxLen; omega, by simp [size_madeCells], by simp⟩⟩, Reps.none _ _⟩
    have : W.heap.size = k := by simpa [Value.ownBlock] using hk
    rw [← this]; exact hfresh
  refine event_step hw (v := .slice (some ⟨W.heap.size, 0, none⟩) 0 m) (w1 := W.alloc (.cells (madeCells z.cells (m * d.sz)) e)) ?_ (h _ _ hR (HB.alloc hbase _) (World.grownBy_alloc W _ none) ⟨W.heap.size, by simp [Value.ownBlock], Nat.le_refl _⟩)
  simp [execOp, ho, hx, hy, hr]
theorem alloc_lt (w : World) (o : Obj) : w.heap.size < (w.alloc o).heap.size := (Array.getElem?_eq_some_iff.1 (heap_alloc_new w o)).1
/-- A box that was laid just now, read. -/
theorem box_new (w : World) (v : Value) (t : TypeId) : (w.alloc (.cells #[v] t)).cell? ⟨w.heap.size, 0, none⟩ = some v := by
  have hn := heap_alloc_new w (.cells #[v] t)
  unfold World.cell?
  simp only
  rw [hn]
  simp
end Go.Proofs.Ytdkbhjmoiblobaa.Hand
