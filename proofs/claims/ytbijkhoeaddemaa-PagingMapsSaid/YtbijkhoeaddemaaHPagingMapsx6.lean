-- Written for this claim by wip/hook.py, by means of the kit's print and of hand-proved contracts.
import Derived.Test.YtbijkhoeaddemaaHPagingMapsx0
import Derived.Test.YtbijkhoeaddemaaHPagingMapsx3
import Derived.Test.YtbijkhoeaddemaaHPagingMapsx4
import Derived.Test.YtbijkhoeaddemaaHPagingMapsx5
namespace Go.Proofs.Ytbijkhoeaddemaa.HPagingMaps
open Go.RowKit Go.Proofs.YtbijkhoeaddemaaW.PrintWords Go.Proofs.YtbijkhoeaddemaaW.PrintLast Go.Proofs.YtbijkhoeaddemaaW.PrintMore
attribute [local go_sem] max2_int min2_int max_two min_two max_three min_three max_four min_four   -- for this text's walks alone
attribute [local go_sem] Instr.field asAgg
set_option linter.unusedVariables false
set_option linter.unusedSimpArgs false

/-! ### paging_List: function 20 -/
attribute [local go_sem] Oper.semAt_some
/-- The entry of page p, if it is valid. -/
def paging_List.ent (l0 : List Int) (a1 : Int) (p : Nat) : Option (Option S46) :=
  (paging_Entry.f a1 (p : Int)).bind fun t => (memory_Load.f l0 t 4).bind fun b => if b.2 = true then (if Go.bits .and .u32 b.1 1 = 0 then some none else (paging_Frame.f b.1).bind fun fr => (bits_Field.f b.1 0 5).bind fun fl => some (some ⟨(p : Int), fr, fl⟩)) else some none
/-- The valid entries of the first k pages. -/
def paging_List.ents (l0 : List Int) (a1 : Int) (k : Nat) : List S46 := (List.range k).filterMap fun p => (paging_List.ent l0 a1 p).getD none
theorem paging_List.ents_none {l0 : List Int} {a1 : Int} {k : Nat} (h : paging_List.ent l0 a1 k = some none) : paging_List.ents l0 a1 (k + 1) = paging_List.ents l0 a1 k := by
  unfold paging_List.ents; rw [List.range_succ, List.filterMap_append]; simp [h]
theorem paging_List.ents_some {l0 : List Int} {a1 : Int} {k : Nat} {x : S46} (h : paging_List.ent l0 a1 k = some (some x)) : paging_List.ents l0 a1 (k + 1) = paging_List.ents l0 a1 k ++ [x] := by
  unfold paging_List.ents; rw [List.range_succ, List.filterMap_append]; simp [h]
theorem paging_List.ents_pre (l0 : List Int) (a1 : Int) {j k : Nat} (h : j ≤ k) : paging_List.ents l0 a1 j <+: paging_List.ents l0 a1 k := by
  unfold paging_List.ents
  refine ⟨((List.range k).drop j).filterMap fun p => (paging_List.ent l0 a1 p).getD none, ?_⟩
  rw [← List.filterMap_append]
  congr 1
  have : (List.range k).take j = List.range j := by rw [List.take_range]; congr 1; omega
  rw [← this, List.take_append_drop]
def paging_List.enc (x : S46) : Value := .agg #[.int .u32 x.f0, .int .u32 x.f1, .int .u32 x.f2]
theorem grown_drew (w : World) (n : Nat) (row : Option Nat) : w.grownBy (w.drewN n) row := ⟨rfl, rfl, rfl, Nat.le_refl _, fun _ _ _ => rfl⟩
/-- What a round keeps: what lay ahead of the call, and the two variables that the iterator reads. -/
def paging_List.Kp (n₀ B1 B2 : Nat) (A B : World) : Prop := Below n₀ A B ∧ B.heap[B1]? = A.heap[B1]? ∧ B.heap[B2]? = A.heap[B2]?
theorem paging_List.Kp.trans {n₀ B1 B2 : Nat} {A B C : World} (h : paging_List.Kp n₀ B1 B2 A B) (g : paging_List.Kp n₀ B1 B2 B C) : paging_List.Kp n₀ B1 B2 A C := ⟨h.1.trans g.1, g.2.1.trans h.2.1, g.2.2.trans h.2.2⟩
theorem paging_List.cell_at {A B : World} {b : Nat} (h : B.heap[b]? = A.heap[b]?) : B.cell? ⟨b, 0, none⟩ = A.cell? ⟨b, 0, none⟩ := by unfold World.cell?; simp only [h]
set_option maxRecDepth 100000 in
set_option maxHeartbeats 4000000 in
theorem paging_List.iter_in (n : Nat) (hn : 3 ≤ n) (l B1 B2 n₀ : Nat) (A0 : Option Addr) (c0 : Nat) (l0 : List Int) (a1 : Int) (J Jx : List S46 → World → Prop)
    (hall : ∀ p, p < 32 → (paging_List.ent l0 a1 p).isSome = true)
    (w0 W : World) (hJ : AbidesFrom W.heap.size J) (hJx : AbidesFrom W.heap.size Jx)
    (hY : ∀ pre x W, J pre W → pre.length < 32 → YieldAt Fence.wide (n - 1) Try.prog l #[paging_List.enc x] W fun e W' =>
      (e = .returned (.bool true) ∧ J (pre ++ [x]) W' ∧ paging_List.Kp n₀ B1 B2 W W') ∨ (e = .returned (.bool false) ∧ Jx (pre ++ [x]) W'))
    (h1 : W.cell? ⟨B1, 0, none⟩ = some (.slice A0 l0.length c0)) (h2 : W.cell? ⟨B2, 0, none⟩ = some (.int .u32 a1)) (hC : Kd.C (Kd.int .u32) w0 A0 l0.length l0) (hc0 : l0.length ≤ c0) (hn₀ : n₀ = w0.heap.size) (hB0 : Below n₀ w0 W) (h0 : J [] W) :
    CallsIn Fence.wide n Try.prog 38 #[.func (.yield l) #[] #[], .pointer (some ⟨B1, 0, none⟩), .pointer (some ⟨B2, 0, none⟩)] W fun e W' => (∃ v, e = .returned v) ∧
      ((∃ ys, ys = paging_List.ents l0 a1 32 ∧ J ys W') ∨ (∃ pre, pre <+: paging_List.ents l0 a1 32 ∧ Jx pre W')) := by
  refine callsIn_of_wp Try.func38 rfl trivial ?_ rfl
  simp only [Try.ntmps38, List.size_toArray, List.length_cons, List.length_nil, Nat.reduceAdd, Nat.reduceSub, Array.replicate_succ, Array.replicate_zero, List.push_toArray, List.append_toArray, List.nil_append, List.cons_append]
  gi_wp2
  gi_loopw [7] (fun p wr => ∃ k : Nat, k ≤ 32 ∧ p = .int .u32 (k : Int) ∧ J (paging_List.ents l0 a1 k) wr ∧ paging_List.Kp n₀ B1 B2 W wr)
    (fun p wr => 32 - (intOf p).toNat)
  case atStart =>
    exact ⟨0, by omega, rfl, h0, Below.refl _ _, rfl, rfl⟩
  case round =>
    obtain ⟨k, hk, rfl, hJs, hB⟩ := hrel
    have hJd : ∀ {s : List S46} {w w' : World}, Drawn0 w w' → J s w → J s w' := by
      rintro s w w' ⟨⟨m, rfl⟩⟩ h; exact hJ s w _ none h (grown_drew w m none) (fun r e => by cases e)
    have hBd : ∀ {w w' : World}, Drawn0 w w' → paging_List.Kp n₀ B1 B2 W w → paging_List.Kp n₀ B1 B2 W w' := by
      intro w w' hd h
      have hs := h.1.size
      have hs0 := hB0.size
      obtain ⟨⟨m, rfl⟩⟩ := hd
      exact ⟨h.1.trans ((Drawn0.below (w := w) (w' := w.drewN m) ⟨⟨m, rfl⟩⟩).mono (by omega)), h.2.1, h.2.2⟩
    subst hn₀
    have c1 := (paging_List.cell_at hB.2.1).trans h1
    have c2 := (paging_List.cell_at hB.2.2).trans h2
    by_cases hk32 : k = 32
    · subst hk32
      gi_wp2
      go_end0
      exact ⟨⟨_, rfl⟩, .inl ⟨_, rfl, hJs⟩⟩
    · have hlt : k < 32 := by omega
      have q1 : decide ((k : Int) < 32) = true := decide_eq_true (by omega)
      have hsome := hall k hlt
      obtain ⟨r, hr⟩ := Option.isSome_iff_exists.1 hsome
      have hr' := hr
      unfold paging_List.ent at hr'
      obtain ⟨t, A1, hr'⟩ := Option.bind_eq_some_iff.1 hr'
      obtain ⟨⟨wd, okb⟩, A2, hr'⟩ := Option.bind_eq_some_iff.1 hr'
      dsimp only at hr'
      cases okb with
      | false =>
        rw [if_neg (by decide)] at hr'
        obtain rfl := Option.some.inj hr'
        gi_wp2
        refine wpIn_region_quiet_lit rfl (by kernel_rfl) (by kernel_rfl) ?_
        repeat (refine wpQuietIn_step (by first | (go_simp; done) | (go_simp; exact True.intro)) (fun K hK => ?_); go_simp; first | (refine hK _ ?_; clear hK K) | (apply Exists.intro; refine ⟨fun _ => ?_, hK _ ?_⟩; (first | (refine ⟨fun _ => by omega, ?_⟩; gi_at_call 26; exact CallsIn.quiet_of ((callsIn_wide.2 (paging_Entry.calls a1 (k : Int) t _ A1)).mono (fun e w' h => ⟨h.1, h.2.out⟩))) | (refine ⟨fun _ => by omega, ?_⟩; gi_at_call 28; exact CallsIn.quiet_of ((callsIn_wide.2 (memory_Load.calls _ _ l0 t 4 wd false _ (Kd.C_below hC (hB0.trans (hBd ⟨⟨_, rfl⟩⟩ hB).1)) hc0 A2)).mono (fun e w' h => ⟨h.1, h.2.out⟩)))); clear hK K))
        refine wpQuietIn_nil ?_
        intro _ hw'
        obtain ⟨nq, hw''⟩ := hw'
        subst hw''
        have hJ3 := hJd (w' := wr.drewN nq) ⟨⟨nq, rfl⟩⟩ hJs
        have hB3 := hBd (w' := wr.drewN nq) ⟨⟨nq, rfl⟩⟩ hB
        gi_wp2
        refine ⟨trivial, ?_⟩
        gi_wp2
        refine ⟨trivial, ?_⟩
        gi_wp2
        refine ⟨fun _ h => (by cases h), ?_⟩
        gi_wp2
        go_roundw
        case rel => exact ⟨k + 1, by omega, by simp, by rw [paging_List.ents_none hr]; exact hJ3, hB3⟩
        case measure => simp only [intOf]; omega
      | true =>
        rw [if_pos rfl] at hr'
        gi_wp2
        refine wpIn_region_quiet_lit rfl (by kernel_rfl) (by kernel_rfl) ?_
        repeat (refine wpQuietIn_step (by first | (go_simp; done) | (go_simp; exact True.intro)) (fun K hK => ?_); go_simp; first | (refine hK _ ?_; clear hK K) | (apply Exists.intro; refine ⟨fun _ => ?_, hK _ ?_⟩; (first | (refine ⟨fun _ => by omega, ?_⟩; gi_at_call 26; exact CallsIn.quiet_of ((callsIn_wide.2 (paging_Entry.calls a1 (k : Int) t _ A1)).mono (fun e w' h => ⟨h.1, h.2.out⟩))) | (refine ⟨fun _ => by omega, ?_⟩; gi_at_call 28; exact CallsIn.quiet_of ((callsIn_wide.2 (memory_Load.calls _ _ l0 t 4 wd true _ (Kd.C_below hC (hB0.trans (hBd ⟨⟨_, rfl⟩⟩ hB).1)) hc0 A2)).mono (fun e w' h => ⟨h.1, h.2.out⟩)))); clear hK K))
        refine wpQuietIn_nil ?_
        intro _ hw'
        obtain ⟨nq, hw''⟩ := hw'
        subst hw''
        have hJ3 := hJd (w' := wr.drewN nq) ⟨⟨nq, rfl⟩⟩ hJs
        have hB3 := hBd (w' := wr.drewN nq) ⟨⟨nq, rfl⟩⟩ hB
        by_cases hz : Go.bits .and .u32 wd 1 = 0
        · rw [if_pos hz] at hr'
          obtain rfl := Option.some.inj hr'
          have z1 : (Go.bits .and .u32 wd 1 != 0) = false := by rw [hz]; rfl
          gi_wp2
          refine ⟨trivial, ?_⟩
          gi_wp2
          refine ⟨trivial, ?_⟩
          gi_wp2
          refine ⟨fun _ h => (by cases h), ?_⟩
          gi_wp2
          go_roundw
          case rel => exact ⟨k + 1, by omega, by simp, by rw [paging_List.ents_none hr]; exact hJ3, hB3⟩
          case measure => simp only [intOf]; omega
        · rw [if_neg hz] at hr'
          have z1 : (Go.bits .and .u32 wd 1 != 0) = true := bne_iff_ne.2 hz
          obtain ⟨fr, A3, hr'⟩ := Option.bind_eq_some_iff.1 hr'
          obtain ⟨fl, A4, hr'⟩ := Option.bind_eq_some_iff.1 hr'
          obtain rfl := Option.some.inj hr'
          have hlen : (paging_List.ents l0 a1 k).length < 32 := by
            have : (paging_List.ents l0 a1 k).length ≤ (List.range k).length := List.length_filterMap_le _ _
            rw [List.length_range] at this; omega
          gi_wp2
          refine ⟨trivial, fun _ => by omega, ?_⟩
          refine (callsIn_wide.2 (paging_Frame.calls wd fr _ A3)).mono ?_
          rintro e w5 ⟨rfl, hd5⟩
          have hJ5 := hJd hd5 hJ3
          have hB5 := hBd hd5 hB3
          gi_wp2
          refine ⟨trivial, fun _ => by omega, ?_⟩
          refine (callsIn_wide.2 (bits_Field.calls wd 0 5 fl _ A4)).mono ?_
          rintro e w6 ⟨rfl, hd6⟩
          have hJ6 := hJd hd6 hJ5
          have hB6 := hBd hd6 hB5
          obtain ⟨fn, tmps, assign, body, hy, hR⟩ := hY (paging_List.ents l0 a1 k) ⟨(k : Int), fr, fl⟩ w6 hJ6 hlen
          unfold paging_List.enc at hy
          dsimp only at hy
          gi_wp2
          refine ⟨fun _ => by omega, hR.mono ?_⟩
          rintro e w7 (⟨rfl, hJ7, hk7⟩ | ⟨rfl, hJx7⟩)
          · gi_wp2
            go_roundw
            case rel => exact ⟨k + 1, by omega, by simp, by rw [paging_List.ents_some hr]; exact hJ7, hB6.trans hk7⟩
            case measure => simp only [intOf]; omega
          · gi_wp2
            refine bodyPost_ret (results_none rfl _ _ _) rfl ?_
            exact ⟨⟨_, rfl⟩, .inr ⟨_, by rw [← paging_List.ents_some hr]; exact paging_List.ents_pre l0 a1 (by omega), hJx7⟩⟩
set_option maxHeartbeats 1000000 in
theorem paging_List.entries_in (n : Nat) (A0 : Option Addr) (c0 : Nat) (l0 : List Int) (a1 : Int) (w : World) :
    CallsIn Fence.wide n Try.prog 31 #[.slice A0 l0.length c0, .int .u32 a1] w fun e w' => e = .returned (.func (.func 38) #[] #[.pointer (some ⟨w.heap.size, 0, none⟩), .pointer (some ⟨w.heap.size + 1, 0, none⟩)]) ∧ w' = (w.alloc (.cells #[.slice A0 l0.length c0] 24)).alloc (.cells #[.int .u32 a1] 23) := by
  refine callsIn_of_wp Try.func31 rfl trivial ?_ rfl
  simp only [Try.ntmps31, List.size_toArray, List.length_cons, List.length_nil, Nat.reduceAdd, Nat.reduceSub, Array.replicate_succ, Array.replicate_zero, List.push_toArray, List.append_toArray, List.nil_append, List.cons_append]
  gi_wp2
  go_ret
  exact ⟨by simp, rfl⟩
theorem paging_List.stops (n : Nat) (hn : 3 ≤ n) (B1 B2 : Nat) (A0 : Option Addr) (c0 : Nat) (l0 : List Int) (a1 : Int) (hall : ∀ p, p < 32 → (paging_List.ent l0 a1 p).isSome = true) (w0 w : World)
    (h1 : w.cell? ⟨B1, 0, none⟩ = some (.slice A0 l0.length c0)) (h2 : w.cell? ⟨B2, 0, none⟩ = some (.int .u32 a1)) (hb1 : B1 < w.heap.size) (hb2 : B2 < w.heap.size) (hC : Kd.C (Kd.int .u32) w0 A0 l0.length l0) (hc0 : l0.length ≤ c0) (hB0 : Below w0.heap.size w0 w) :
    SeqStopsK Fence.wide n Try.prog 38 #[.pointer (some ⟨B1, 0, none⟩), .pointer (some ⟨B2, 0, none⟩)] (fun x : S46 => #[paging_List.enc x]) (paging_List.Kp w0.heap.size B1 B2) (fun ys => ys = paging_List.ents l0 a1 32) (fun pre => pre <+: paging_List.ents l0 a1 32) 32 w := fun l J Jx W hW hJ hJx hY h0 =>
  paging_List.iter_in n hn l B1 B2 w0.heap.size A0 c0 l0 a1 J Jx hall w0 W hJ hJx hY ((hW.cell (p := ⟨B1, 0, none⟩) hb1).trans h1) ((hW.cell (p := ⟨B2, 0, none⟩) hb2).trans h2) hC hc0 rfl (hB0.trans (hW.mono hB0.size)) h0
/-- A variable of three cells. -/
def paging_List.Box3 (W : World) (B : Nat) (x : S46) : Prop := W.heap[B]? = some (.cells #[.int .u32 x.f0, .int .u32 x.f1, .int .u32 x.f2] 46 (0, 0))
theorem paging_List.box3_own (B : Nat) (x : S46) : Own (fun (_ : Unit) W => paging_List.Box3 W B x) := by
  intro s X Y row h hg hrow
  have hlt := (Array.getElem?_eq_some_iff.1 h).1
  exact (hg.block B hlt (fun e' => by obtain ⟨o, ho, hc⟩ := hrow B e'.symm; rw [show X.heap[B]? = _ from h] at ho; cases ho; cases hc)).trans h
theorem paging_List.cell3_new (w : World) (a b c : Value) (t : TypeId) : ∀ j u, [a, b, c][j]? = some u → (w.alloc (.cells #[a, b, c] t)).cell? ((⟨w.heap.size, 0, none⟩ : Addr).add j) = some u := by
  intro j u hj
  have hn := World.alloc_heap_new w (.cells #[a, b, c] t)
  have hj3 : j = 0 ∨ j = 1 ∨ j = 2 := by
    have := (List.getElem?_eq_some_iff.1 hj).1
    simp at this; omega
  have ha : (⟨w.heap.size, 0, none⟩ : Addr).add j = ⟨w.heap.size, j, none⟩ := by unfold Addr.add; split <;> simp_all
  rw [ha]
  unfold World.cell?
  simp only [hn]
  rcases hj3 with rfl | rfl | rfl <;> simpa using hj
/-- The cells of the entries. -/
def paging_List.cells (xs : List S46) : List Value := xs.flatMap fun x => [.int .u32 x.f0, .int .u32 x.f1, .int .u32 x.f2]
set_option maxRecDepth 100000 in
set_option maxHeartbeats 4000000 in
theorem paging_List.List_in (n : Nat) (hn : 6 ≤ n) (A0 : Option Addr) (c0 : Nat) (l0 : List Int) (a1 : Int) (hall : ∀ p, p < 32 → (paging_List.ent l0 a1 p).isSome = true) (w : World) (hC : Kd.C (Kd.int .u32) w A0 l0.length l0) (hc0 : l0.length ≤ c0) (hp : paging_page.f l0 a1 = some true) :
    CallsIn Fence.wide n Try.prog 20 #[.slice A0 l0.length c0, .int .u32 a1] w fun e W' => ∃ v, e = .returned v ∧ W'.ownsRow w.heap.size 46 3 v (paging_List.ents l0 a1 32).length (paging_List.cells (paging_List.ents l0 a1 32)) ∧ Below w.heap.size w W' := by
  have h1 : 1 ≤ n := by omega
  obtain ⟨i0, hi, hz0, hz1, hz2⟩ := info_parts info46
  refine callsIn_of_wp_marks Try.func20 rfl trivial ?_ rfl
  simp only [Try.ntmps20, List.size_toArray, List.length_cons, List.length_nil, Nat.reduceAdd, Nat.reduceSub, Array.replicate_succ, Array.replicate_zero, List.push_toArray, List.append_toArray, List.nil_append, List.cons_append]
  gi_wp2
  refine ⟨trivial, ?_⟩
  refine (callsIn_wide.2 (paging_page.calls _ _ l0 a1 true _ hC hc0 hp)).mono ?_
  rintro e w1 ⟨rfl, ⟨⟨m1, rfl⟩⟩⟩
  gi_wp2
  refine ⟨trivial, ?_⟩
  refine (paging_List.entries_in (n - 1) A0 c0 l0 a1 _).mono ?_
  rintro e w' ⟨rfl, rfl⟩
  gi_wp2
  have hB0 : Below w.heap.size w ((((w.drewN m1).alloc (.cells #[.slice none 0 0] 42)).alloc (.cells #[.slice A0 l0.length c0] 24)).alloc (.cells #[.int .u32 a1] 23)) :=
    (((((Drawn0.below (w := w) (w' := w.drewN m1) ⟨⟨m1, rfl⟩⟩)).alloc (Nat.le_refl _) _).alloc (by simp) _).alloc (by simp; omega) _)
  have bO : Boxed ((((w.drewN m1).alloc (.cells #[.slice none 0 0] 42)).alloc (.cells #[.slice A0 l0.length c0] 24)).alloc (.cells #[.int .u32 a1] 23)) w.heap.size 42 (.slice none 0 0) := ((Boxed.new (w.drewN m1) 42 (.slice none 0 0)).alloc _).alloc _
  have bM : Boxed ((((w.drewN m1).alloc (.cells #[.slice none 0 0] 42)).alloc (.cells #[.slice A0 l0.length c0] 24)).alloc (.cells #[.int .u32 a1] 23)) (w.heap.size + 1) 24 (.slice A0 l0.length c0) := by
    have := (Boxed.new ((w.drewN m1).alloc (.cells #[.slice none 0 0] 42)) 24 (.slice A0 l0.length c0)).alloc (.cells #[.int .u32 a1] 23)
    rw [World.size_alloc] at this; exact this
  have bR : Boxed ((((w.drewN m1).alloc (.cells #[.slice none 0 0] 42)).alloc (.cells #[.slice A0 l0.length c0] 24)).alloc (.cells #[.int .u32 a1] 23)) (w.heap.size + 1 + 1) 23 (.int .u32 a1) := by
    have := Boxed.new (((w.drewN m1).alloc (.cells #[.slice none 0 0] 42)).alloc (.cells #[.slice A0 l0.length c0] 24)) 23 (.int .u32 a1)
    rw [World.size_alloc, World.size_alloc] at this; exact this
  obtain ⟨W0, hW0⟩ : ∃ W0, ((((w.drewN m1).alloc (.cells #[.slice none 0 0] 42)).alloc (.cells #[.slice A0 l0.length c0] 24)).alloc (.cells #[.int .u32 a1] 23)) = W0 := ⟨_, rfl⟩
  rw [hW0] at hB0 bO bM bR ⊢
  clear hW0
  have hsz := bR.lt
  refine wpIn_rangeFunc_ownH rfl h1 (gf := 38) (lb := #[.pointer (some ⟨w.heap.size + 1, 0, none⟩), .pointer (some ⟨w.heap.size + 1 + 1, 0, none⟩)]) rfl trivial (enters_of Try.func38 (by kernel_rfl) rfl)
    (paging_List.stops (n - 1) (by omega) (w.heap.size + 1) (w.heap.size + 1 + 1) A0 c0 l0 a1 hall w W0 bM.cell bR.cell bM.lt bR.lt hC hc0 hB0) paging_List.Kp.trans
    (fun W l o o' hl h2 h3 h4 => ⟨belowK_b (by omega) W l o o' hl h2 h3 h4, World.putObj_heap_other (by omega), World.putObj_heap_other (by omega)⟩) (Below.refl _ _) (fun _ => rfl)
    (fun pre W => ((∃ v, Boxed W w.heap.size 42 v ∧ W.ownsRow w.heap.size 46 3 v pre.length (paging_List.cells pre) ∧ True) ∧ (Boxed W (w.heap.size + 1) 24 (.slice A0 l0.length c0) ∧ Boxed W (w.heap.size + 1 + 1) 23 (.int .u32 a1))) ∧ Below w.heap.size w W)
    (fun _ _ _ => False)
    (OwnFrom.and (OwnFrom.and (Own.from (holdsRow_own w.heap.size w.heap.size 42 46 3 (fun pre : List S46 => pre.length) (fun pre => paging_List.cells pre) (fun _ _ => True)) _) (OwnFrom.and (Own.from (boxed_own _ _ _) _) (Own.from (boxed_own _ _ _) _))) (ownFrom_below (Nat.le_refl _) (by omega)))
    (fun _ _ _ _ _ hs _ _ => hs)
    ⟨⟨⟨_, bO, World.ownsRow_nil _ _ _ _, trivial⟩, bM, bR⟩, hB0⟩
    (fun x a' W => ∃ Bx, w.heap.size + 1 + 1 < Bx ∧ paging_List.Box3 W Bx x ∧ a' = { tmps := #[.slice A0 l0.length c0, .int .u32 a1, undef, undef, .slice none 0 0, .pointer (some ⟨w.heap.size, 0, none⟩), .pointer (some ⟨Bx, 0, none⟩), .slice A0 l0.length c0, .int .u32 a1, .bool true, .bool false, .slice A0 l0.length c0, .int .u32 a1, .func (.func 38) #[] #[.pointer (some ⟨w.heap.size + 1, 0, none⟩), .pointer (some ⟨w.heap.size + 1 + 1, 0, none⟩)], paging_List.enc x, undef, undef, undef, undef, undef], defers := [] })
    (fun x a' _ X Y row hs hg hr => by obtain ⟨Bx, h1, h2, h3⟩ := hs; exact ⟨Bx, h1, paging_List.box3_own Bx x () X Y row h2 hg (fun r e => (hr r e).2), h3⟩)
    ?assign ?body ?done ?stop
  case assign =>
    rintro l pre x W K ⟨⟨⟨v, bO1, hrow, _⟩, bM1, bR1⟩, hB1⟩ hK
    unfold paging_List.enc
    gi_wp2
    exact hK _ _ ((KeepsOthers.alloc _ _).from _) ⟨(Below.refl _ W).alloc hB1.size _, Below.heap_alloc W _ _ bM1.lt, Below.heap_alloc W _ _ bR1.lt⟩
      ⟨⟨⟨v, bO1.alloc _, hrow.alloc _, trivial⟩, bM1.alloc _, bR1.alloc _⟩, hB1.alloc hB1.size _⟩ ⟨W.heap.size, bR1.lt, World.alloc_heap_new W _, rfl⟩
  case body =>
    rintro l pre x a' W hl ⟨r, hr⟩ ⟨⟨⟨v, bO1, hrow, _⟩, bM1, bR1⟩, hB1⟩ ⟨Bx, hBx, bX, rfl⟩ hlt
    have hc := bO1.cell
    have x0 : W.cell? ⟨Bx, 0, none⟩ = some (.int .u32 x.f0) := by unfold World.cell?; simp only [show W.heap[Bx]? = _ from bX]; rfl
    have x1 : W.cell? ⟨Bx, 1, none⟩ = some (.int .u32 x.f1) := by unfold World.cell?; simp only [show W.heap[Bx]? = _ from bX]; rfl
    have x2 : W.cell? ⟨Bx, 2, none⟩ = some (.int .u32 x.f2) := by unfold World.cell?; simp only [show W.heap[Bx]? = _ from bX]; rfl
    gi_wp2_with (gi_at_builtin; refine wpListIn_append_own _ rfl _ _ 42 rfl w.heap.size 46 i0 (.agg #[.int .u32 0, .int .u32 0, .int .u32 0]) 3 12 Try.underlying42 hi hz0 hz1 hz2 rfl (by decide) _ _ _ rfl (hrow.alloc _) ⟨W.heap.size, 0, none⟩ 1 1 [.int .u32 x.f0, .int .u32 x.f1, .int .u32 x.f2] rfl rfl (paging_List.cell3_new _ _ _ _ _) (by simp [Value.oneCell']) (by unfold maxLen; omega) (by omega) (by have := hB1.size; simp; omega) ?_; intro v' w1 hown' hgrow _; obtain ⟨g', cap', rfl⟩ := ownsRow_succ hown'; obtain ⟨hv1, hv2, hr2, hk2, hb2⟩ := bO1.appended (by decide) hrow hB1.size (Nat.le_refl _) hown' hgrow; have hM2 := ((bM1.alloc _).kept hgrow (bM1.not_row (by decide) hrow)).other (B' := w.heap.size) (by omega) (.slice (some ⟨g', 0, none⟩) (pre.length + 1) cap'); have hR2 := ((bR1.alloc _).kept hgrow (bR1.not_row (by decide) hrow)).other (B' := w.heap.size) (by omega) (.slice (some ⟨g', 0, none⟩) (pre.length + 1) cap'); have hc1 := hv1.cell; have hf1 := hv1.frozen)
    exact ⟨hk2.from _, ⟨hb2, (show _ = _ from hM2).trans (show _ = _ from bM1).symm, (show _ = _ from hR2).trans (show _ = _ from bR1).symm⟩, ⟨⟨_, hv2, by unfold paging_List.cells at hr2 ⊢; simpa using hr2, trivial⟩, hM2, hR2⟩, hB1.trans hb2⟩
  case done =>
    rintro D zs W hD rfl ⟨⟨⟨v, bO1, hrow, _⟩, bM1, bR1⟩, hB1⟩ hK
    have cS := bO1.cell
    gi_wp2
    refine ⟨by simp, .inl ⟨_, _, rfl, run_takeDeferred hK, ?_⟩⟩
    exact ⟨_, results_tmp rfl _ _ _, v, rfl, ownsRow_putObj hrow _ hK rfl, hB1.trans (belowK_b (w := w) (Nat.le_refl _) W D _ _ (by omega) hK rfl rfl)⟩
  case stop =>
    rintro D c pre W _ _ h _
    exact h.elim
theorem paging_List.cells_at (xs : List S46) : ∀ (j : Nat) (p : S46), xs[j]? = some p → ((paging_List.cells xs).drop (j * 3)).take 3 = [.int .u32 p.f0, .int .u32 p.f1, .int .u32 p.f2] := by
  induction xs with
  | nil => intro j p h; simp at h
  | cons x xs ih =>
    intro j p h
    have hc : paging_List.cells (x :: xs) = [.int .u32 x.f0, .int .u32 x.f1, .int .u32 x.f2] ++ paging_List.cells xs := rfl
    cases j with
    | zero =>
      obtain rfl : x = p := by simpa using h
      rw [hc]; rfl
    | succ j =>
      have hx : xs[j]? = some p := by simpa using h
      have := ih j p hx
      have e : (j + 1) * 3 = 3 + j * 3 := by omega
      rw [hc, e, ← List.drop_drop]
      exact this
theorem paging_List.cells_len (xs : List S46) : (paging_List.cells xs).length = xs.length * 3 := by
  induction xs with
  | nil => rfl
  | cons x xs ih =>
    have hc : paging_List.cells (x :: xs) = [.int .u32 x.f0, .int .u32 x.f1, .int .u32 x.f2] ++ paging_List.cells xs := rfl
    rw [hc, List.length_append, ih, List.length_cons]
    show 3 + xs.length * 3 = (xs.length + 1) * 3
    omega
def paging_List.f (l0 : List Int) (a1 : Int) : Option (List S46) := (paging_page.f l0 a1).bind fun t => if t = true then (if (List.range 32).all (fun p => (paging_List.ent l0 a1 p).isSome) = true then some (paging_List.ents l0 a1 32) else none) else some ([] : List S46)
set_option maxHeartbeats 4000000 in
set_option maxRecDepth 100000 in
theorem paging_List.calls (A0 : Option Addr) (c0 : Nat) (l0 : List Int) (a1 : Int) (r : List (S46)) (w : World) (hr0 : Kd.C (Kd.int .u32) w A0 l0.length l0) (hc0 : l0.length ≤ c0) (h : paging_List.f l0 a1 = some r) :
    Calls Try.prog 20 #[.slice A0 l0.length c0, .int .u32 a1] w fun e w' => ∃ v0_ : Value, e = .returned (v0_) ∧ Kd.R k46 46 w' w.heap.size (fun _ => True) v0_ r ∧ Below w.heap.size w w' := by
  unfold paging_List.f at h
  obtain ⟨t, A1, h⟩ := Option.bind_eq_some_iff.1 h
  cases t with
  | true =>
    rw [if_pos rfl] at h
    by_cases hall : (List.range 32).all (fun p => (paging_List.ent l0 a1 p).isSome) = true
    · rw [if_pos hall] at h
      obtain rfl := Option.some.inj h
      have hall' : ∀ p, p < 32 → (paging_List.ent l0 a1 p).isSome = true := fun p hp => List.all_eq_true.1 hall p (by simpa using hp)
      refine (callsIn_wide.1 (paging_List.List_in 6 (by omega) A0 c0 l0 a1 hall' w hr0 hc0 A1)).mono ?_
      rintro e w' ⟨v, rfl, hown, hb⟩
      refine ⟨v, rfl, ⟨fun _ _ => trivial, paging_List.cells (paging_List.ents l0 a1 32), hown, paging_List.cells_len _, fun j p hp => ?_⟩, hb⟩
      show k46.M _ _ _ p (((paging_List.cells (paging_List.ents l0 a1 32)).drop (j * 3)).take 3)
      rw [paging_List.cells_at _ j p hp]
      exact k46_mkM _ _ _ p
    · rw [if_neg hall] at h
      exact absurd h (by simp)
  | false =>
    rw [if_neg (by decide)] at h
    obtain rfl := Option.some.inj h
    have HR0 := Aside0.mk hr0
    have HC0 := Aside0.mk hc0
    have HB := Aside0.mk (Below.refl w.heap.size w)
    have A1' := Aside0.mk A1
    clear hr0 hc0 A1 h
    go_enter Try.func20, Try.ntmps20
    go_wp2_with (first | (go_at_call 24; (with_reducible refine (paging_page.calls _ _ l0 a1 false _ ?side1 ?side2 A1'.out).mono ?_); (case side1 => repeat (first | exact HR0.out | (with_reducible refine Kd.C_alloc ?_ _) | (with_reducible refine Kd.C_drewN ?_ _) | (with_reducible refine Kd.C_drew ?_))); (case side2 => exact HC0.out); rintro e w' ⟨rfl, ⟨nd, rfl⟩⟩))
    go_ret
    exact ⟨_, rfl, Kd.R_nil _ _ _ _ _, by repeat (first | (with_reducible first | exact HB.out | apply below_alloc | apply pw_below_drewN | apply below_drew1) | exact HB.out)⟩

/-! ### vmfleetref1_List: function 21 -/
def vmfleetref1_List.l0 : Nat → List Int → Int → List (S46) → Int → Option ((List (S46)))
  | 0, _, _, _, _ => none
  | k + 1, x0, x1, x5, x6 => if x6 < 32 then (if 0 ≤ (((x1 * 32) + x6) % 4294967296) then (if (((x1 * 32) + x6) % 4294967296) < (x0.length : Int) then (if (Go.bits .and .u32 (rd x0 (((x1 * 32) + x6) % 4294967296)) 1) = 0 then (vmfleetref1_List.l0 k x0 x1 x5 ((x6 + 1) % 4294967296)) else (if x5.length < 11728124029610 then (vmfleetref1_List.l0 k x0 x1 (x5 ++ [(⟨x6, Go.bits .and .u32 ((rd x0 (((x1 * 32) + x6) % 4294967296)) / 256) 255, Go.bits .and .u32 (rd x0 (((x1 * 32) + x6) % 4294967296)) 31⟩ : S46)]) ((x6 + 1) % 4294967296)) else (none))) else (none)) else (none)) else (some x5)
def vmfleetref1_List.f (k : Nat) (l0 : List Int) (a1 : Int) : Option ((List (S46))) := (vmfleetref1_Pages.f l0).bind fun t174 => (if a1 ≥ ((t174) % 4294967296) then (some ([] : List (S46))) else (vmfleetref1_List.l0 k l0 a1 ([] : List (S46)) 0))
theorem vmfleetref1_List.mono_l : ∀ k, (∀ y0 y1 y2 y3, LeO (vmfleetref1_List.l0 k y0 y1 y2 y3) (vmfleetref1_List.l0 (k + 1) y0 y1 y2 y3))
  | 0 => fun _ _ _ _ r h => by simp [vmfleetref1_List.l0] at h
  | k + 1 => by
    have ih0 := vmfleetref1_List.mono_l k
    · intro y0 y1 y2 y3
      unfold vmfleetref1_List.l0
      repeat' first
      | (with_reducible exact ih0 _ _ _ _)
      | (with_reducible exact LeO.refl _)
      | (with_reducible exact LeO.none _)
      | (with_reducible refine LeO.ite ?_ ?_)
      | (with_reducible refine LeO.bind ?_ (fun _ => ?_))
      | exact ih0 _ _ _ _
      | exact LeO.none _
      | refine LeO.ite ?_ ?_
      | refine LeO.bind ?_ (fun _ => ?_)
theorem vmfleetref1_List.mono : ∀ a0 a1 k, LeO (vmfleetref1_List.f k a0 a1) (vmfleetref1_List.f (k + 1) a0 a1) := by
  intro a0 a1 k
  have ih0 := vmfleetref1_List.mono_l k
  unfold vmfleetref1_List.f
  repeat' first
      | (with_reducible exact ih0 _ _ _ _)
      | (with_reducible exact LeO.refl _)
      | (with_reducible exact LeO.none _)
      | (with_reducible refine LeO.ite ?_ ?_)
      | (with_reducible refine LeO.bind ?_ (fun _ => ?_))
      | exact ih0 _ _ _ _
      | exact LeO.none _
      | refine LeO.ite ?_ ?_
      | refine LeO.bind ?_ (fun _ => ?_)
set_option maxHeartbeats 8000000 in
set_option maxRecDepth 100000 in
theorem vmfleetref1_List.calls (k : Nat) (A0 : Option Addr) (c0 : Nat) (l0 : List Int) (a1 : Int) (r : List (S46)) (w : World) (hr0 : Kd.C (Kd.int .u32) w A0 l0.length l0) (hc0 : l0.length ≤ c0) (h : vmfleetref1_List.f k l0 a1 = some r) :
    Calls Try.prog 21 #[.slice A0 l0.length c0, .int .u32 a1] w fun e w' => ∃ v0_ : Value, e = .returned (v0_) ∧ Kd.R k46 46 w' w.heap.size (fun _ => True) v0_ r ∧ Below w.heap.size w w' := by
  have hu46 := Try.underlying46
  have HR0 := Aside0.mk hr0
  have HC0 := Aside0.mk hc0
  clear hr0 hc0
  have HB := Aside0.mk (Below.refl w.heap.size w)
  have H : ((vmfleetref1_Pages.f l0).bind fun t174 => (if a1 ≥ ((t174) % 4294967296) then (some ([] : List (S46))) else (vmfleetref1_List.l0 k l0 a1 ([] : List (S46)) 0))) = some r := h
  clear h
  replace H := Option.bind_eq_some_iff.mp H
  obtain ⟨t174, A30, H⟩ := H
  replace H : (if a1 ≥ ((t174) % 4294967296) then (some ([] : List (S46))) else (vmfleetref1_List.l0 k l0 a1 ([] : List (S46)) 0)) = some r := H
  have A3 := Aside0.mk A30
  clear A30
  by_cases c4 : a1 ≥ ((t174) % 4294967296)
  · rw [if_pos c4] at H
    have c4b0 : decide (((t174) % 4294967296) ≤ a1) = true := decide_eq_true c4
    clear c4
    obtain rfl := Option.some.inj H
    go_enter Try.func21, Try.ntmps21
    go_wp2_with (first | ((with_reducible refine gate_callee (f := 10) rfl ?_); refine goesL_ (some 10) rfl rfl Try.func10 (by kernel_rfl) rfl #[.slice A0 l0.length c0] rfl (by (try simp only [List.map_toArray, List.map_cons, List.map_nil]); first | done | rfl | (simp only [List.length_drop, List.length_take]; rfl)) ?_; (with_reducible refine (vmfleetref1_Pages.calls _ _ l0 t174 _ ?side1 ?side2 A3.out).mono ?_); (case side1 => repeat (first | exact HR0.out | (with_reducible refine Kd.C_alloc ?_ _) | (with_reducible refine Kd.C_drewN ?_ _) | (with_reducible refine Kd.C_drew ?_))); (case side2 => exact HC0.out); rintro e w' ⟨rfl, ⟨nd, rfl⟩⟩; refine ⟨_, rfl, ?_⟩))
    go_ret
    exact ⟨_, by first | rfl | (simp [errW_none, errW_some] <;> rfl) | (simp [*, errW_none, errW_some] <;> rfl), by first | exact Kd.R_nil _ _ _ _ _ | exact Kd.N_nil _ _ _ _ _ | exact Kd.V_nil _ _ _ _ _ | exact Kd.Q_nil _ _ _ _ _ | exact Kd.S_nil _ _ _ _ _, by repeat (first | (with_reducible first | exact HB.out | apply below_alloc | apply pw_below_drewN | apply below_drew1) | exact HB.out)⟩
  · rw [if_neg c4] at H
    have c4b0 : decide (((t174) % 4294967296) ≤ a1) = false := decide_eq_false c4
    clear c4
    have H' := Aside0.mk H
    clear H
    go_enter Try.func21, Try.ntmps21
    go_wp2_with (first | ((with_reducible refine gate_callee (f := 10) rfl ?_); refine goesL_ (some 10) rfl rfl Try.func10 (by kernel_rfl) rfl #[.slice A0 l0.length c0] rfl (by (try simp only [List.map_toArray, List.map_cons, List.map_nil]); first | done | rfl | (simp only [List.length_drop, List.length_take]; rfl)) ?_; (with_reducible refine (vmfleetref1_Pages.calls _ _ l0 t174 _ ?side1 ?side2 A3.out).mono ?_); (case side1 => repeat (first | exact HR0.out | (with_reducible refine Kd.C_alloc ?_ _) | (with_reducible refine Kd.C_drewN ?_ _) | (with_reducible refine Kd.C_drew ?_))); (case side2 => exact HC0.out); rintro e w' ⟨rfl, ⟨nd, rfl⟩⟩; refine ⟨_, rfl, ?_⟩))
    go_loopg [5, 6] k (fun kq v5 v6 w' => ∃ (x5_1 : List (S46)) (x6_1 : Int), v6 = .int .u32 x6_1 ∧ Aside0 (vmfleetref1_List.l0 kq l0 a1 x5_1 x6_1 = some r) ∧ Aside0 (kq ≤ k) ∧ Aside0 (Kd.R k46 46 w' w.heap.size (fun _ => True) v5 x5_1) ∧ Aside0 (Below w.heap.size w w'))
    case atStart => exact ⟨(([] : List (S46))), (0), (by first | rfl | (simp; done) | (simp [*]; done)), H', ⟨Nat.le_refl _⟩, ⟨by first | exact Kd.R_nil _ _ _ _ _ | exact Kd.N_nil _ _ _ _ _ | exact Kd.V_nil _ _ _ _ _ | exact Kd.Q_nil _ _ _ _ _ | exact Kd.S_nil _ _ _ _ _⟩, ⟨by repeat (first | (with_reducible first | exact HB.out | apply below_alloc | apply pw_below_drewN | apply below_drew1) | exact HB.out)⟩⟩
    case round =>
      clear H'
      try clear c1
      try clear c2
      try clear p2
      try clear c4
      try clear c4b0
      obtain ⟨x5_1, x6_1, rfl, HA, HK1, HO_5, HB⟩ := hrel
      cases gk with
      | zero => exact absurd HA.out (by simp [vmfleetref1_List.l0])
      | succ k1 =>
        have H := HA.out
        clear HA
        simp only [vmfleetref1_List.l0] at H
        by_cases c5 : x6_1 < 32
        · rw [if_pos c5] at H
          have c5b0 : decide (x6_1 < 32) = true := decide_eq_true c5
          clear c5
          obtain ⟨ji6, hji6⟩ : ∃ j_ : Int, (((a1 * 32) + x6_1) % 4294967296) = j_ := ⟨_, rfl⟩
          replace H : (if 0 ≤ (ji6) then (if (ji6) < (l0.length : Int) then (if (Go.bits .and .u32 (rd l0 (ji6)) 1) = 0 then (vmfleetref1_List.l0 k1 l0 a1 x5_1 ((x6_1 + 1) % 4294967296)) else (if x5_1.length < 11728124029610 then (vmfleetref1_List.l0 k1 l0 a1 (x5_1 ++ [(⟨x6_1, Go.bits .and .u32 ((rd l0 (ji6)) / 256) 255, Go.bits .and .u32 (rd l0 (ji6)) 31⟩ : S46)]) ((x6_1 + 1) % 4294967296)) else (none))) else (none)) else (none)) = some r := by first | (rw [hji6] at H; exact H) | (simp only [hji6] at H ⊢; exact H)
          by_cases c7 : 0 ≤ (ji6)
          · rw [if_pos c7] at H
            have c7b0 : decide (0 ≤ (ji6)) = true := decide_eq_true c7
            clear c7
            by_cases c8 : (ji6) < (l0.length : Int)
            · rw [if_pos c8] at H
              have c8b0 : decide ((ji6) < (l0.length : Int)) = true := decide_eq_true c8
              clear c8
              by_cases c9 : (Go.bits .and .u32 (rd l0 (ji6)) 1) = 0
              · rw [if_pos c9] at H
                have c9b0 : ((Go.bits .and .u32 (rd l0 (ji6)) 1) == 0) = true := beq_iff_eq.mpr c9
                have c9b1 : ((Go.bits .and .u32 (rd l0 (ji6)) 1) != 0) = false := bne_eq_false_iff_eq.mpr c9
                clear c9
                have H' := Aside0.mk H
                clear H
                have p175 : 0 ≤ ((ji6) : Int) := of_decide_eq_true (by first | (with_reducible assumption) | assumption)
                have q175 : (ji6) < (l0.length : Int) := of_decide_eq_true (by first | (with_reducible assumption) | assumption)
                obtain ⟨ad175, e175, hx175_0⟩ := Kd.at_int HR0.out (ji6) p175 q175
                cases e175
                replace hx175_0 := (HB.out.cell (World.block_lt_of_cell? w _ hx175_0)).trans hx175_0
                replace p175 := eq_true p175
                replace q175 := eq_true q175
                go_wp2
                go_roundg k1
                case measure => have := HK1.out; omega
                case rel => exact ⟨(x5_1), ((x6_1 + 1) % 4294967296), (by first | rfl | (simp; done) | (simp [*]; done)), H', ⟨by have := HK1.out; omega⟩, ⟨by (with_reducible repeat (first | apply Kd.R_alloc | apply Kd.R_drewN | apply Kd.R_drew)); exact HO_5.out⟩, ⟨by repeat (first | (with_reducible first | exact HB.out | apply below_alloc | apply pw_below_drewN | apply below_drew1) | exact HB.out)⟩⟩
              · rw [if_neg c9] at H
                have c9b0 : ((Go.bits .and .u32 (rd l0 (ji6)) 1) == 0) = false := beq_eq_false_iff_ne.mpr c9
                have c9b1 : ((Go.bits .and .u32 (rd l0 (ji6)) 1) != 0) = true := bne_iff_ne.mpr c9
                by_cases c10 : x5_1.length < 11728124029610
                · rw [if_pos c10] at H
                  have LMc10 := Aside0.mk c10
                  clear c10
                  obtain ⟨y176, hy176⟩ : ∃ y_ : List (S46), y_ = (x5_1 ++ [(⟨x6_1, Go.bits .and .u32 ((rd l0 (ji6)) / 256) 255, Go.bits .and .u32 (rd l0 (ji6)) 31⟩ : S46)]) := ⟨_, rfl⟩
                  replace H : (vmfleetref1_List.l0 k1 l0 a1 y176 ((x6_1 + 1) % 4294967296)) = some r := by first | (rw [hy176]; with_reducible exact H) | (have H2_ := (Option.bind_some _ _).symm.trans H; rw [hy176]; with_reducible exact H2_) | (have H2_ := (Option.bind_some _ _).symm.trans H; with_reducible exact H2_) | with_reducible exact H | (rw [hy176]; exact H) | exact H
                  have Ny176 := Aside0.mk hy176
                  clear hy176
                  have H' := Aside0.mk H
                  clear H
                  have p175 : 0 ≤ ((ji6) : Int) := of_decide_eq_true (by first | (with_reducible assumption) | assumption)
                  have q175 : (ji6) < (l0.length : Int) := of_decide_eq_true (by first | (with_reducible assumption) | assumption)
                  obtain ⟨ad175, e175, hx175_0⟩ := Kd.at_int HR0.out (ji6) p175 q175
                  cases e175
                  replace hx175_0 := (HB.out.cell (World.block_lt_of_cell? w _ hx175_0)).trans hx175_0
                  replace p175 := eq_true p175
                  replace q175 := eq_true q175
                  go_wp2_with (first | ((with_reducible refine gate_builtin (b := .append) (xs := #[.tmp 27, .tmp 35]) rfl ?_); at_builtin; refine Kd.R_append k46 (w0 := w) w.heap.size rfl (.tmp 27) (.tmp 35) 42 46 (.agg #[(.int .u32 0), (.int .u32 0), (.int .u32 0)]) 12 rfl Try.underlying42 info46 rfl (by decide) (by omega) u5 x5_1 (⟨x6_1, Go.bits .and .u32 ((rd l0 (ji6)) / 256) 255, Go.bits .and .u32 (rd l0 (ji6)) 31⟩ : S46) [.int .u32 x6_1, .int .u32 (Go.bits .and .u32 ((rd l0 (ji6)) / 256) 255), .int .u32 (Go.bits .and .u32 (rd l0 (ji6)) 31)] (fun _ => True) (fun _ => False) rfl rfl ?aP (fun _ hk => hk.elim) ?aF ?aO ?aB ?aS ?aL ?_; (case aP => exact k46_mkM _ _ _ (⟨x6_1, Go.bits .and .u32 ((rd l0 (ji6)) / 256) 255, Go.bits .and .u32 (rd l0 (ji6)) 31⟩ : S46)); (case aB => exact (by repeat (first | (with_reducible first | exact HB.out | apply below_alloc | apply pw_below_drewN | apply below_drew1) | exact HB.out))); (case aF => exact (fun _ _ => trivial)); (case aO => exact (by (with_reducible repeat (first | apply Kd.R_alloc | apply Kd.R_drewN | apply Kd.R_drew)); exact HO_5.out)); (case aS => exact (below_size (by repeat (first | (with_reducible first | exact HB.out | apply below_alloc | apply pw_below_drewN | apply below_drew1) | exact HB.out)))); (case aL => have := LMc10.out; omega); intro v177 w11 ho hb hg hat; rw [← Ny176.out] at ho; have n0_ := Aside0.mk (hb); have n1_ := Aside0.mk (ho); clear HB; clear HO_5; have HB := n0_; have HO178 := n1_; clear n0_ n1_; clear ho hb hg hat))
                  go_roundg k1
                  case measure => have := HK1.out; omega
                  case rel => exact ⟨(y176), ((x6_1 + 1) % 4294967296), (by first | rfl | (simp; done) | (simp [*]; done)), H', ⟨by have := HK1.out; omega⟩, ⟨by (with_reducible repeat (first | apply Kd.R_alloc | apply Kd.R_drewN | apply Kd.R_drew)); exact HO178.out⟩, ⟨by repeat (first | (with_reducible first | exact HB.out | apply below_alloc | apply pw_below_drewN | apply below_drew1) | exact HB.out)⟩⟩
                · rw [if_neg c10] at H
                  exact absurd H (by simp)
            · rw [if_neg c8] at H
              exact absurd H (by simp)
          · rw [if_neg c7] at H
            exact absurd H (by simp)
        · rw [if_neg c5] at H
          have c5b0 : decide (x6_1 < 32) = false := decide_eq_false c5
          clear c5
          obtain rfl := Option.some.inj H
          go_wp2
          go_ret
          exact ⟨_, by first | rfl | (simp [errW_none, errW_some] <;> rfl) | (simp [*, errW_none, errW_some] <;> rfl), by (with_reducible repeat (first | apply Kd.R_alloc | apply Kd.R_drewN | apply Kd.R_drew)); exact HO_5.out, by repeat (first | (with_reducible first | exact HB.out | apply below_alloc | apply pw_below_drewN | apply below_drew1) | exact HB.out)⟩

/-! ### vmfleetlaw5_PagingMaps: function 7 -/
def vmfleetlaw5_PagingMaps.j0 : Nat → List Int → Int → Int → Int → Int → Option (Bool)
  | 0, _, _, _, _, _ => none
  | k + 1, x0, x4, x5, x6, x7 => (paging_Map.f x0 x4 x5 x6 x7).bind fun bt182 => ((vmfleetref1_Map.f x0 x4 x5 x6 x7).bind fun bt186 => (if (bt182.2 == bt186.2) = true then ((vmfleetref1_SameWords.f k bt182.1 bt186.1).bind fun t190 => (if t190 = true then ((paging_List.f x0 x4).bind fun t191 => ((vmfleetref1_List.f k x0 x4).bind fun t194 => ((vmfleetref1_SameMappings.f k t191 t194).bind fun t197 => (if t197 = true then ((paging_List.f bt182.1 x4).bind fun t198 => ((vmfleetref1_List.f k bt186.1 x4).bind fun t201 => ((vmfleetref1_SameMappings.f k t198 t201).bind fun t204 => (if t204 = true then ((vmfleetlaw5_awake.f k).bind fun t205 => (some t205)) else (some false))))) else (some false))))) else (some false))) else (some false)))
def vmfleetlaw5_PagingMaps.f (k : Nat) (l0 : List Int) (a1 : Bool) (l2 : List Int) (a3 : Int) (a4 : Int) (a5 : Int) (a6 : Int) (a7 : Int) (a8 : Bool) : Option (Bool) := (vmfleetlaw5_shaped.f k l0 a1 l2 a3).bind fun t179 => (if a8 = true then (vmfleetlaw5_PagingMaps.j0 k t179 (Int.tmod a4 9) (Int.tmod a5 34) (Int.tmod a6 9) (Int.tmod a7 34)) else (vmfleetlaw5_PagingMaps.j0 k t179 a4 a5 a6 a7))
theorem vmfleetlaw5_PagingMaps.mono_l : ∀ k, (∀ y0 y1 y2 y3 y4, LeO (vmfleetlaw5_PagingMaps.j0 k y0 y1 y2 y3 y4) (vmfleetlaw5_PagingMaps.j0 (k + 1) y0 y1 y2 y3 y4))
  | 0 => fun _ _ _ _ _ r h => by simp [vmfleetlaw5_PagingMaps.j0] at h
  | k + 1 => by
    have ih0 := vmfleetlaw5_PagingMaps.mono_l k
    · intro y0 y1 y2 y3 y4
      unfold vmfleetlaw5_PagingMaps.j0
      repeat' first
      | (with_reducible exact ih0 _ _ _ _ _)
      | (with_reducible exact vmfleetlaw5_awake.mono _)
      | (with_reducible exact vmfleetlaw5_shaped.mono _ _ _ _ _)
      | (with_reducible exact vmfleetref1_List.mono _ _ _)
      | (with_reducible exact vmfleetref1_SameMappings.mono _ _ _)
      | (with_reducible exact vmfleetref1_SameWords.mono _ _ _)
      | (with_reducible exact LeO.refl _)
      | (with_reducible exact LeO.none _)
      | (with_reducible refine LeO.ite ?_ ?_)
      | (with_reducible refine LeO.bind ?_ (fun _ => ?_))
      | exact ih0 _ _ _ _ _
      | exact vmfleetlaw5_awake.mono _
      | exact vmfleetlaw5_shaped.mono _ _ _ _ _
      | exact vmfleetref1_List.mono _ _ _
      | exact vmfleetref1_SameMappings.mono _ _ _
      | exact vmfleetref1_SameWords.mono _ _ _
      | exact LeO.none _
      | refine LeO.ite ?_ ?_
      | refine LeO.bind ?_ (fun _ => ?_)
theorem vmfleetlaw5_PagingMaps.mono : ∀ a0 a1 a2 a3 a4 a5 a6 a7 a8 k, LeO (vmfleetlaw5_PagingMaps.f k a0 a1 a2 a3 a4 a5 a6 a7 a8) (vmfleetlaw5_PagingMaps.f (k + 1) a0 a1 a2 a3 a4 a5 a6 a7 a8) := by
  intro a0 a1 a2 a3 a4 a5 a6 a7 a8 k
  have ih0 := vmfleetlaw5_PagingMaps.mono_l k
  unfold vmfleetlaw5_PagingMaps.f
  repeat' first
      | (with_reducible exact ih0 _ _ _ _ _)
      | (with_reducible exact vmfleetlaw5_awake.mono _)
      | (with_reducible exact vmfleetlaw5_shaped.mono _ _ _ _ _)
      | (with_reducible exact vmfleetref1_List.mono _ _ _)
      | (with_reducible exact vmfleetref1_SameMappings.mono _ _ _)
      | (with_reducible exact vmfleetref1_SameWords.mono _ _ _)
      | (with_reducible exact LeO.refl _)
      | (with_reducible exact LeO.none _)
      | (with_reducible refine LeO.ite ?_ ?_)
      | (with_reducible refine LeO.bind ?_ (fun _ => ?_))
      | exact ih0 _ _ _ _ _
      | exact vmfleetlaw5_awake.mono _
      | exact vmfleetlaw5_shaped.mono _ _ _ _ _
      | exact vmfleetref1_List.mono _ _ _
      | exact vmfleetref1_SameMappings.mono _ _ _
      | exact vmfleetref1_SameWords.mono _ _ _
      | exact LeO.none _
      | refine LeO.ite ?_ ?_
      | refine LeO.bind ?_ (fun _ => ?_)
set_option maxHeartbeats 8000000 in
set_option maxRecDepth 100000 in
theorem vmfleetlaw5_PagingMaps.calls (k : Nat) (A0 : Option Addr) (c0 : Nat) (l0 : List Int) (a1 : Bool) (A2 : Option Addr) (c2 : Nat) (l2 : List Int) (a3 : Int) (a4 : Int) (a5 : Int) (a6 : Int) (a7 : Int) (a8 : Bool) (r : Bool) (w : World) (hr0 : Kd.C (Kd.int .u32) w A0 l0.length l0) (hc0 : l0.length ≤ c0) (hr2 : Kd.C (Kd.int .i64) w A2 l2.length l2) (hc2 : l2.length ≤ c2) (h : vmfleetlaw5_PagingMaps.f k l0 a1 l2 a3 a4 a5 a6 a7 a8 = some r) :
    Calls Try.prog 7 #[.slice A0 l0.length c0, .bool a1, .slice A2 l2.length c2, .int .i64 a3, .int .u32 a4, .int .u32 a5, .int .u32 a6, .int .u32 a7, .bool a8] w fun e w' => e = .returned (.bool r) ∧ Below w.heap.size w w' := by
  have HR0 := Aside0.mk hr0
  have HC0 := Aside0.mk hc0
  clear hr0 hc0
  have HR2 := Aside0.mk hr2
  have HC2 := Aside0.mk hc2
  clear hr2 hc2
  have HB := Aside0.mk (Below.refl w.heap.size w)
  have H : ((vmfleetlaw5_shaped.f k l0 a1 l2 a3).bind fun t179 => (if a8 = true then (vmfleetlaw5_PagingMaps.j0 k t179 (Int.tmod a4 9) (Int.tmod a5 34) (Int.tmod a6 9) (Int.tmod a7 34)) else (vmfleetlaw5_PagingMaps.j0 k t179 a4 a5 a6 a7))) = some r := h
  clear h
  replace H := Option.bind_eq_some_iff.mp H
  obtain ⟨t179, A100, H⟩ := H
  replace H : (if a8 = true then (vmfleetlaw5_PagingMaps.j0 k t179 (Int.tmod a4 9) (Int.tmod a5 34) (Int.tmod a6 9) (Int.tmod a7 34)) else (vmfleetlaw5_PagingMaps.j0 k t179 a4 a5 a6 a7)) = some r := H
  have A10 := Aside0.mk A100
  clear A100
  have HC11 := Aside0.mk H
  clear H
  go_enter Try.func7, Try.ntmps7
  go_upto_if 28 with (first | ((with_reducible refine gate_callee (f := 17) rfl ?_); refine goesL_ (some 27) rfl rfl Try.func17 (by kernel_rfl) rfl #[.slice A0 l0.length c0, .bool a1, .slice A2 l2.length c2, .int .i64 a3] rfl (by (try simp only [List.map_toArray, List.map_cons, List.map_nil]); first | done | rfl | (simp only [List.length_drop, List.length_take]; rfl)) ?_; (with_reducible refine (vmfleetlaw5_shaped.calls k (fun k_ => k_ < w.heap.size) _ _ l0 a1 _ _ l2 a3 t179 _ ?side1 ?side2 ?side3 A10.out).mono ?_); (case side1 => exact Kd.V_mk HC0.out (Kd.F_below (Kd.C_F (Kd.heap_int .u32) HR0.out) (by repeat (first | (with_reducible first | exact HB.out | apply below_alloc | apply pw_below_drewN | apply below_drew1) | exact HB.out)))); (case side2 => repeat (first | exact HR2.out | (with_reducible refine Kd.C_alloc ?_ _) | (with_reducible refine Kd.C_drewN ?_ _) | (with_reducible refine Kd.C_drew ?_))); (case side3 => exact HC2.out); rintro e w12 ⟨v180, rfl, ho0, hb⟩; refine ⟨_, rfl, ?_⟩; have n0_ := Aside0.mk (Kd.V_lower (Kd.V_mono (ok' := fun k_ => True) ho0 (fun k_ hk_ => trivial)) (below_size (by repeat (first | (with_reducible first | exact HB.out | apply below_alloc | apply pw_below_drewN | apply below_drew1) | exact HB.out)))); have n1_ := Aside0.mk (below_step (by repeat (first | (with_reducible first | exact HB.out | apply below_alloc | apply pw_below_drewN | apply below_drew1) | exact HB.out)) hb); clear HB; have HO181 := n0_; have HB := n1_; clear n0_ n1_; (try clear hb); (try clear hb2); (try clear hk); (try clear hi); (try clear ho0)))
  (try simp only [Act.put, List.setIfInBounds_toArray, List.set_cons_zero, List.set_cons_succ])
  go_cut [4, 5, 6, 7] (fun v4 v5 v6 v7 wc => ∃ (kq : Nat) (x4_10 : Int) (x5_10 : Int) (x6_10 : Int) (x7_10 : Int), v4 = .int .u32 x4_10 ∧ v5 = .int .u32 x5_10 ∧ v6 = .int .u32 x6_10 ∧ v7 = .int .u32 x7_10 ∧ Aside0 (vmfleetlaw5_PagingMaps.j0 kq t179 x4_10 x5_10 x6_10 x7_10 = some r) ∧ Aside0 (kq ≤ k) ∧ Aside0 (Kd.V (Kd.int .u32) 23 wc w.heap.size (fun _ => True) v180 t179) ∧ Aside0 (Below w.heap.size w wc))
  case first =>
    have H := HC11.out
    clear HC11
    by_cases c13 : a8 = true
    · subst c13
      have H1 : (vmfleetlaw5_PagingMaps.j0 k t179 (Int.tmod a4 9) (Int.tmod a5 34) (Int.tmod a6 9) (Int.tmod a7 34)) = some r := by rw [if_pos rfl] at H; exact H
      clear H
      have H := H1
      clear H1
      have H' := Aside0.mk H
      clear H
      go_wp2
      go_meet
      case rel => exact ⟨_, (Int.tmod a4 9), (Int.tmod a5 34), (Int.tmod a6 9), (Int.tmod a7 34), (by first | rfl | (simp; done) | (simp [*]; done)), (by first | rfl | (simp; done) | (simp [*]; done)), (by first | rfl | (simp; done) | (simp [*]; done)), (by first | rfl | (simp; done) | (simp [*]; done)), H', ⟨by first | omega | exact Nat.le_refl _⟩, ⟨by (with_reducible repeat (first | apply Kd.V_alloc | apply Kd.V_drewN | apply Kd.V_drew)); exact HO181.out⟩, ⟨by repeat (first | (with_reducible first | exact HB.out | apply below_alloc | apply pw_below_drewN | apply below_drew1) | exact HB.out)⟩⟩
    · replace c13 := Bool.eq_false_iff.mpr c13
      subst c13
      have H1 : (vmfleetlaw5_PagingMaps.j0 k t179 a4 a5 a6 a7) = some r := by rw [if_neg (show ¬ (false = true) by decide)] at H; exact H
      clear H
      have H := H1
      clear H1
      have H' := Aside0.mk H
      clear H
      go_wp2
      go_meet
      case rel => exact ⟨_, (a4), (a5), (a6), (a7), (by first | rfl | (simp; done) | (simp [*]; done)), (by first | rfl | (simp; done) | (simp [*]; done)), (by first | rfl | (simp; done) | (simp [*]; done)), (by first | rfl | (simp; done) | (simp [*]; done)), H', ⟨by first | omega | exact Nat.le_refl _⟩, ⟨by (with_reducible repeat (first | apply Kd.V_alloc | apply Kd.V_drewN | apply Kd.V_drew)); exact HO181.out⟩, ⟨by repeat (first | (with_reducible first | exact HB.out | apply below_alloc | apply pw_below_drewN | apply below_drew1) | exact HB.out)⟩⟩
  case rest =>
    clear HC11
    try clear c1
    try clear c2
    try clear p2
    try clear c7
    try clear c13
    obtain ⟨kq, x4_10, x5_10, x6_10, x7_10, rfl, rfl, rfl, rfl, HA, HJ10, HO_0, HB⟩ := hcut
    cases kq with
    | zero => exact absurd HA.out (by simp [vmfleetlaw5_PagingMaps.j0])
    | succ kj10 =>
      have H := HA.out
      clear HA
      simp only [vmfleetlaw5_PagingMaps.j0] at H
      replace H := Option.bind_eq_some_iff.mp H
      obtain ⟨⟨t182, t183⟩, A140, H⟩ := H
      replace H : ((vmfleetref1_Map.f t179 x4_10 x5_10 x6_10 x7_10).bind fun bt186 => (if (t183 == bt186.2) = true then ((vmfleetref1_SameWords.f kj10 t182 bt186.1).bind fun t190 => (if t190 = true then ((paging_List.f t179 x4_10).bind fun t191 => ((vmfleetref1_List.f kj10 t179 x4_10).bind fun t194 => ((vmfleetref1_SameMappings.f kj10 t191 t194).bind fun t197 => (if t197 = true then ((paging_List.f t182 x4_10).bind fun t198 => ((vmfleetref1_List.f kj10 bt186.1 x4_10).bind fun t201 => ((vmfleetref1_SameMappings.f kj10 t198 t201).bind fun t204 => (if t204 = true then ((vmfleetlaw5_awake.f kj10).bind fun t205 => (some t205)) else (some false))))) else (some false))))) else (some false))) else (some false))) = some r := H
      have A14 := Aside0.mk A140
      clear A140
      replace H := Option.bind_eq_some_iff.mp H
      obtain ⟨⟨t186, t187⟩, A150, H⟩ := H
      replace H : (if (t183 == t187) = true then ((vmfleetref1_SameWords.f kj10 t182 t186).bind fun t190 => (if t190 = true then ((paging_List.f t179 x4_10).bind fun t191 => ((vmfleetref1_List.f kj10 t179 x4_10).bind fun t194 => ((vmfleetref1_SameMappings.f kj10 t191 t194).bind fun t197 => (if t197 = true then ((paging_List.f t182 x4_10).bind fun t198 => ((vmfleetref1_List.f kj10 t186 x4_10).bind fun t201 => ((vmfleetref1_SameMappings.f kj10 t198 t201).bind fun t204 => (if t204 = true then ((vmfleetlaw5_awake.f kj10).bind fun t205 => (some t205)) else (some false))))) else (some false))))) else (some false))) else (some false)) = some r := H
      have A15 := Aside0.mk A150
      clear A150
      by_cases c16 : (t183 == t187) = true
      · rw [if_pos c16] at H
        have c16b0 : (t183 == t187) = true := c16
        (try (have c16b1 : decide (t183 = t187) = true := by simpa using c16))
        (try (have c16b2 : (t183 == t187) = true := by simpa using c16))
        clear c16
        replace H := Option.bind_eq_some_iff.mp H
        obtain ⟨t190, A170, H⟩ := H
        replace H : (if t190 = true then ((paging_List.f t179 x4_10).bind fun t191 => ((vmfleetref1_List.f kj10 t179 x4_10).bind fun t194 => ((vmfleetref1_SameMappings.f kj10 t191 t194).bind fun t197 => (if t197 = true then ((paging_List.f t182 x4_10).bind fun t198 => ((vmfleetref1_List.f kj10 t186 x4_10).bind fun t201 => ((vmfleetref1_SameMappings.f kj10 t198 t201).bind fun t204 => (if t204 = true then ((vmfleetlaw5_awake.f kj10).bind fun t205 => (some t205)) else (some false))))) else (some false))))) else (some false)) = some r := H
        have A17 := Aside0.mk A170
        clear A170
        by_cases c18 : t190 = true
        · subst c18
          have H1 : ((paging_List.f t179 x4_10).bind fun t191 => ((vmfleetref1_List.f kj10 t179 x4_10).bind fun t194 => ((vmfleetref1_SameMappings.f kj10 t191 t194).bind fun t197 => (if t197 = true then ((paging_List.f t182 x4_10).bind fun t198 => ((vmfleetref1_List.f kj10 t186 x4_10).bind fun t201 => ((vmfleetref1_SameMappings.f kj10 t198 t201).bind fun t204 => (if t204 = true then ((vmfleetlaw5_awake.f kj10).bind fun t205 => (some t205)) else (some false))))) else (some false))))) = some r := by rw [if_pos rfl] at H; exact H
          clear H
          have H := H1
          clear H1
          replace H := Option.bind_eq_some_iff.mp H
          obtain ⟨t191, A190, H⟩ := H
          replace H : ((vmfleetref1_List.f kj10 t179 x4_10).bind fun t194 => ((vmfleetref1_SameMappings.f kj10 t191 t194).bind fun t197 => (if t197 = true then ((paging_List.f t182 x4_10).bind fun t198 => ((vmfleetref1_List.f kj10 t186 x4_10).bind fun t201 => ((vmfleetref1_SameMappings.f kj10 t198 t201).bind fun t204 => (if t204 = true then ((vmfleetlaw5_awake.f kj10).bind fun t205 => (some t205)) else (some false))))) else (some false)))) = some r := H
          have A19 := Aside0.mk A190
          clear A190
          replace H := Option.bind_eq_some_iff.mp H
          obtain ⟨t194, A200, H⟩ := H
          replace H : ((vmfleetref1_SameMappings.f kj10 t191 t194).bind fun t197 => (if t197 = true then ((paging_List.f t182 x4_10).bind fun t198 => ((vmfleetref1_List.f kj10 t186 x4_10).bind fun t201 => ((vmfleetref1_SameMappings.f kj10 t198 t201).bind fun t204 => (if t204 = true then ((vmfleetlaw5_awake.f kj10).bind fun t205 => (some t205)) else (some false))))) else (some false))) = some r := H
          have A20 := Aside0.mk A200
          clear A200
          replace H := Option.bind_eq_some_iff.mp H
          obtain ⟨t197, A210, H⟩ := H
          replace H : (if t197 = true then ((paging_List.f t182 x4_10).bind fun t198 => ((vmfleetref1_List.f kj10 t186 x4_10).bind fun t201 => ((vmfleetref1_SameMappings.f kj10 t198 t201).bind fun t204 => (if t204 = true then ((vmfleetlaw5_awake.f kj10).bind fun t205 => (some t205)) else (some false))))) else (some false)) = some r := H
          have A21 := Aside0.mk A210
          clear A210
          by_cases c22 : t197 = true
          · subst c22
            have H1 : ((paging_List.f t182 x4_10).bind fun t198 => ((vmfleetref1_List.f kj10 t186 x4_10).bind fun t201 => ((vmfleetref1_SameMappings.f kj10 t198 t201).bind fun t204 => (if t204 = true then ((vmfleetlaw5_awake.f kj10).bind fun t205 => (some t205)) else (some false))))) = some r := by rw [if_pos rfl] at H; exact H
            clear H
            have H := H1
            clear H1
            replace H := Option.bind_eq_some_iff.mp H
            obtain ⟨t198, A230, H⟩ := H
            replace H : ((vmfleetref1_List.f kj10 t186 x4_10).bind fun t201 => ((vmfleetref1_SameMappings.f kj10 t198 t201).bind fun t204 => (if t204 = true then ((vmfleetlaw5_awake.f kj10).bind fun t205 => (some t205)) else (some false)))) = some r := H
            have A23 := Aside0.mk A230
            clear A230
            replace H := Option.bind_eq_some_iff.mp H
            obtain ⟨t201, A240, H⟩ := H
            replace H : ((vmfleetref1_SameMappings.f kj10 t198 t201).bind fun t204 => (if t204 = true then ((vmfleetlaw5_awake.f kj10).bind fun t205 => (some t205)) else (some false))) = some r := H
            have A24 := Aside0.mk A240
            clear A240
            replace H := Option.bind_eq_some_iff.mp H
            obtain ⟨t204, A250, H⟩ := H
            replace H : (if t204 = true then ((vmfleetlaw5_awake.f kj10).bind fun t205 => (some t205)) else (some false)) = some r := H
            have A25 := Aside0.mk A250
            clear A250
            by_cases c26 : t204 = true
            · subst c26
              have H1 : ((vmfleetlaw5_awake.f kj10).bind fun t205 => (some t205)) = some r := by rw [if_pos rfl] at H; exact H
              clear H
              have H := H1
              clear H1
              replace H := Option.bind_eq_some_iff.mp H
              obtain ⟨t205, A270, H⟩ := H
              replace H : (some t205) = some r := H
              have A27 := Aside0.mk A270
              clear A270
              obtain rfl := Option.some.inj H
              obtain ⟨Ao28, co28, eo28⟩ := Kd.V_slice HO_0.out
              subst eo28
              go_wp2_with (first | ((with_reducible refine gate_callee (f := 12) rfl ?_); refine goesL_ (some 43) rfl rfl Try.func12 (by kernel_rfl) rfl #[.slice Ao28 t179.length co28, .int .u32 x4_10, .int .u32 x5_10, .int .u32 x6_10, .int .u32 x7_10] rfl (by (try simp only [List.map_toArray, List.map_cons, List.map_nil]); first | done | rfl | (simp only [List.length_drop, List.length_take]; rfl)) ?_; (with_reducible refine (paging_Map.calls _ _ t179 x4_10 x5_10 x6_10 x7_10 t182 t183 _ ?side1 ?side2 A14.out).mono ?_); (case side1 => repeat (first | exact (Kd.V_reads' HO_0.out).2.2 | (with_reducible refine Kd.C_alloc ?_ _) | (with_reducible refine Kd.C_drewN ?_ _) | (with_reducible refine Kd.C_drew ?_))); (case side2 => exact (Kd.V_reads' HO_0.out).2.1); rintro e w29 ⟨v184, rfl, ho0, hb⟩; refine ⟨_, rfl, ?_⟩; have n0_ := Aside0.mk (Kd.V_elder' (by (with_reducible repeat (first | apply Kd.V_alloc | apply Kd.V_drewN | apply Kd.V_drew)); exact HO_0.out) (Kd.R_base ho0) hb); have n1_ := Aside0.mk (Kd.R_lower ho0 (below_size (by repeat (first | (with_reducible first | exact HB.out | apply below_alloc | apply pw_below_drewN | apply below_drew1) | exact HB.out)))); have n2_ := Aside0.mk (below_step (by repeat (first | (with_reducible first | exact HB.out | apply below_alloc | apply pw_below_drewN | apply below_drew1) | exact HB.out)) hb); clear HO_0; clear HB; have HO_0 := n0_; have HO185 := n1_; have HB := n2_; clear n0_ n1_ n2_; (try clear hb); (try clear hb2); (try clear hk); (try clear hi); (try clear ho0)) | ((with_reducible refine gate_callee (f := 18) rfl ?_); refine goesL_ (some 52) rfl rfl Try.func18 (by kernel_rfl) rfl #[.slice Ao28 t179.length co28, .int .u32 x4_10, .int .u32 x5_10, .int .u32 x6_10, .int .u32 x7_10] rfl (by (try simp only [List.map_toArray, List.map_cons, List.map_nil]); first | done | rfl | (simp only [List.length_drop, List.length_take]; rfl)) ?_; (with_reducible refine (vmfleetref1_Map.calls _ _ t179 x4_10 x5_10 x6_10 x7_10 t186 t187 _ ?side1 ?side2 A15.out).mono ?_); (case side1 => repeat (first | exact (Kd.V_reads' HO_0.out).2.2 | (with_reducible refine Kd.C_alloc ?_ _) | (with_reducible refine Kd.C_drewN ?_ _) | (with_reducible refine Kd.C_drew ?_))); (case side2 => exact (Kd.V_reads' HO_0.out).2.1); rintro e w30 ⟨v188, rfl, ho0, hb⟩; refine ⟨_, rfl, ?_⟩; have n0_ := Aside0.mk (Kd.V_elder' (by (with_reducible repeat (first | apply Kd.V_alloc | apply Kd.V_drewN | apply Kd.V_drew)); exact HO_0.out) (Kd.R_base ho0) hb); have n1_ := Aside0.mk (Kd.R_elder' (by (with_reducible repeat (first | apply Kd.R_alloc | apply Kd.R_drewN | apply Kd.R_drew)); exact HO185.out) (Kd.R_base ho0) hb); have n2_ := Aside0.mk (Kd.R_lower (Kd.R_new' ho0 (Kd.R_lt (by (with_reducible repeat (first | apply Kd.R_alloc | apply Kd.R_drewN | apply Kd.R_drew)); exact HO185.out))) (below_size (by repeat (first | (with_reducible first | exact HB.out | apply below_alloc | apply pw_below_drewN | apply below_drew1) | exact HB.out)))); have n3_ := Aside0.mk (below_step (by repeat (first | (with_reducible first | exact HB.out | apply below_alloc | apply pw_below_drewN | apply below_drew1) | exact HB.out)) hb); clear HO_0; clear HO185; clear HB; have HO_0 := n0_; have HO185 := n1_; have HO189 := n2_; have HB := n3_; clear n0_ n1_ n2_ n3_; (try clear hb); (try clear hb2); (try clear hk); (try clear hi); (try clear ho0); obtain ⟨Ao31, co31, eo31⟩ := Kd.R_slice HO185.out; subst eo31; obtain ⟨Ao32, co32, eo32⟩ := Kd.R_slice HO189.out; subst eo32) | (go_at_call 16; (with_reducible refine (vmfleetref1_SameWords.calls kj10 _ _ t182 _ _ t186 true _ ?side1 ?side2 ?side3 ?side4 A17.out).mono ?_); (case side1 => repeat (first | exact (Kd.R_reads' HO185.out).2.2 | (with_reducible refine Kd.C_alloc ?_ _) | (with_reducible refine Kd.C_drewN ?_ _) | (with_reducible refine Kd.C_drew ?_))); (case side2 => exact (Kd.R_reads' HO185.out).2.1); (case side3 => repeat (first | exact (Kd.R_reads' HO189.out).2.2 | (with_reducible refine Kd.C_alloc ?_ _) | (with_reducible refine Kd.C_drewN ?_ _) | (with_reducible refine Kd.C_drew ?_))); (case side4 => exact (Kd.R_reads' HO189.out).2.1); rintro e w' ⟨rfl, ⟨nd, rfl⟩⟩) | (go_at_call 20; (with_reducible refine (paging_List.calls _ _ t179 x4_10 t191 _ ?side1 ?side2 A19.out).mono ?_); (case side1 => repeat (first | exact (Kd.V_reads' HO_0.out).2.2 | (with_reducible refine Kd.C_alloc ?_ _) | (with_reducible refine Kd.C_drewN ?_ _) | (with_reducible refine Kd.C_drew ?_))); (case side2 => exact (Kd.V_reads' HO_0.out).2.1); rintro e w33 ⟨v192, rfl, ho0, hb⟩; have n0_ := Aside0.mk (Kd.V_elder' (by (with_reducible repeat (first | apply Kd.V_alloc | apply Kd.V_drewN | apply Kd.V_drew)); exact HO_0.out) (Kd.R_base ho0) hb); have n1_ := Aside0.mk (Kd.R_below (by (with_reducible repeat (first | apply Kd.R_alloc | apply Kd.R_drewN | apply Kd.R_drew)); exact HO185.out) hb); have n2_ := Aside0.mk (Kd.R_below (by (with_reducible repeat (first | apply Kd.R_alloc | apply Kd.R_drewN | apply Kd.R_drew)); exact HO189.out) hb); have n3_ := Aside0.mk (Kd.R_lower ho0 (below_size (by repeat (first | (with_reducible first | exact HB.out | apply below_alloc | apply pw_below_drewN | apply below_drew1) | exact HB.out)))); have n4_ := Aside0.mk (below_step (by repeat (first | (with_reducible first | exact HB.out | apply below_alloc | apply pw_below_drewN | apply below_drew1) | exact HB.out)) hb); clear HO_0; clear HO185; clear HO189; clear HB; have HO_0 := n0_; have HO185 := n1_; have HO189 := n2_; have HO193 := n3_; have HB := n4_; clear n0_ n1_ n2_ n3_ n4_; (try clear hb); (try clear hb2); (try clear hk); (try clear hi); (try clear ho0)) | (go_at_call 21; (with_reducible refine (vmfleetref1_List.calls kj10 _ _ t179 x4_10 t194 _ ?side1 ?side2 A20.out).mono ?_); (case side1 => repeat (first | exact (Kd.V_reads' HO_0.out).2.2 | (with_reducible refine Kd.C_alloc ?_ _) | (with_reducible refine Kd.C_drewN ?_ _) | (with_reducible refine Kd.C_drew ?_))); (case side2 => exact (Kd.V_reads' HO_0.out).2.1); rintro e w34 ⟨v195, rfl, ho0, hb⟩; have n0_ := Aside0.mk (Kd.V_elder' (by (with_reducible repeat (first | apply Kd.V_alloc | apply Kd.V_drewN | apply Kd.V_drew)); exact HO_0.out) (Kd.R_base ho0) hb); have n1_ := Aside0.mk (Kd.R_below (by (with_reducible repeat (first | apply Kd.R_alloc | apply Kd.R_drewN | apply Kd.R_drew)); exact HO185.out) hb); have n2_ := Aside0.mk (Kd.R_below (by (with_reducible repeat (first | apply Kd.R_alloc | apply Kd.R_drewN | apply Kd.R_drew)); exact HO189.out) hb); have n3_ := Aside0.mk (Kd.R_elder' (by (with_reducible repeat (first | apply Kd.R_alloc | apply Kd.R_drewN | apply Kd.R_drew)); exact HO193.out) (Kd.R_base ho0) hb); have n4_ := Aside0.mk (Kd.R_lower (Kd.R_new' ho0 (Kd.R_lt (by (with_reducible repeat (first | apply Kd.R_alloc | apply Kd.R_drewN | apply Kd.R_drew)); exact HO193.out))) (below_size (by repeat (first | (with_reducible first | exact HB.out | apply below_alloc | apply pw_below_drewN | apply below_drew1) | exact HB.out)))); have n5_ := Aside0.mk (below_step (by repeat (first | (with_reducible first | exact HB.out | apply below_alloc | apply pw_below_drewN | apply below_drew1) | exact HB.out)) hb); clear HO_0; clear HO185; clear HO189; clear HO193; clear HB; have HO_0 := n0_; have HO185 := n1_; have HO189 := n2_; have HO193 := n3_; have HO196 := n4_; have HB := n5_; clear n0_ n1_ n2_ n3_ n4_ n5_; (try clear hb); (try clear hb2); (try clear hk); (try clear hi); (try clear ho0); obtain ⟨Ao35, co35, eo35⟩ := Kd.R_slice HO193.out; subst eo35; obtain ⟨Ao36, co36, eo36⟩ := Kd.R_slice HO196.out; subst eo36) | (go_at_call 19; (with_reducible refine (vmfleetref1_SameMappings.calls kj10 _ _ t191 _ _ t194 true _ ?side1 ?side2 ?side3 ?side4 A21.out).mono ?_); (case side1 => repeat (first | exact (Kd.R_reads' HO193.out).2.2 | (with_reducible refine Kd.C_alloc ?_ _) | (with_reducible refine Kd.C_drewN ?_ _) | (with_reducible refine Kd.C_drew ?_))); (case side2 => exact (Kd.R_reads' HO193.out).2.1); (case side3 => repeat (first | exact (Kd.R_reads' HO196.out).2.2 | (with_reducible refine Kd.C_alloc ?_ _) | (with_reducible refine Kd.C_drewN ?_ _) | (with_reducible refine Kd.C_drew ?_))); (case side4 => exact (Kd.R_reads' HO196.out).2.1); rintro e w' ⟨rfl, ⟨nd, rfl⟩⟩) | (go_at_call 20; (with_reducible refine (paging_List.calls _ _ t182 x4_10 t198 _ ?side1 ?side2 A23.out).mono ?_); (case side1 => repeat (first | exact (Kd.R_reads' HO185.out).2.2 | (with_reducible refine Kd.C_alloc ?_ _) | (with_reducible refine Kd.C_drewN ?_ _) | (with_reducible refine Kd.C_drew ?_))); (case side2 => exact (Kd.R_reads' HO185.out).2.1); rintro e w37 ⟨v199, rfl, ho0, hb⟩; have n0_ := Aside0.mk (Kd.V_elder' (by (with_reducible repeat (first | apply Kd.V_alloc | apply Kd.V_drewN | apply Kd.V_drew)); exact HO_0.out) (Kd.R_base ho0) hb); have n1_ := Aside0.mk (Kd.R_below (by (with_reducible repeat (first | apply Kd.R_alloc | apply Kd.R_drewN | apply Kd.R_drew)); exact HO185.out) hb); have n2_ := Aside0.mk (Kd.R_below (by (with_reducible repeat (first | apply Kd.R_alloc | apply Kd.R_drewN | apply Kd.R_drew)); exact HO189.out) hb); have n3_ := Aside0.mk (Kd.R_elder' (by (with_reducible repeat (first | apply Kd.R_alloc | apply Kd.R_drewN | apply Kd.R_drew)); exact HO193.out) (Kd.R_base ho0) hb); have n4_ := Aside0.mk (Kd.R_elder' (by (with_reducible repeat (first | apply Kd.R_alloc | apply Kd.R_drewN | apply Kd.R_drew)); exact HO196.out) (Kd.R_base ho0) hb); have n5_ := Aside0.mk (Kd.R_lower (Kd.R_new' (Kd.R_new' ho0 (Kd.R_lt (by (with_reducible repeat (first | apply Kd.R_alloc | apply Kd.R_drewN | apply Kd.R_drew)); exact HO193.out))) (Kd.R_lt (by (with_reducible repeat (first | apply Kd.R_alloc | apply Kd.R_drewN | apply Kd.R_drew)); exact HO196.out))) (below_size (by repeat (first | (with_reducible first | exact HB.out | apply below_alloc | apply pw_below_drewN | apply below_drew1) | exact HB.out)))); have n6_ := Aside0.mk (below_step (by repeat (first | (with_reducible first | exact HB.out | apply below_alloc | apply pw_below_drewN | apply below_drew1) | exact HB.out)) hb); clear HO_0; clear HO185; clear HO189; clear HO193; clear HO196; clear HB; have HO_0 := n0_; have HO185 := n1_; have HO189 := n2_; have HO193 := n3_; have HO196 := n4_; have HO200 := n5_; have HB := n6_; clear n0_ n1_ n2_ n3_ n4_ n5_ n6_; (try clear hb); (try clear hb2); (try clear hk); (try clear hi); (try clear ho0)) | (go_at_call 21; (with_reducible refine (vmfleetref1_List.calls kj10 _ _ t186 x4_10 t201 _ ?side1 ?side2 A24.out).mono ?_); (case side1 => repeat (first | exact (Kd.R_reads' HO189.out).2.2 | (with_reducible refine Kd.C_alloc ?_ _) | (with_reducible refine Kd.C_drewN ?_ _) | (with_reducible refine Kd.C_drew ?_))); (case side2 => exact (Kd.R_reads' HO189.out).2.1); rintro e w38 ⟨v202, rfl, ho0, hb⟩; have n0_ := Aside0.mk (Kd.V_elder' (by (with_reducible repeat (first | apply Kd.V_alloc | apply Kd.V_drewN | apply Kd.V_drew)); exact HO_0.out) (Kd.R_base ho0) hb); have n1_ := Aside0.mk (Kd.R_below (by (with_reducible repeat (first | apply Kd.R_alloc | apply Kd.R_drewN | apply Kd.R_drew)); exact HO185.out) hb); have n2_ := Aside0.mk (Kd.R_below (by (with_reducible repeat (first | apply Kd.R_alloc | apply Kd.R_drewN | apply Kd.R_drew)); exact HO189.out) hb); have n3_ := Aside0.mk (Kd.R_elder' (by (with_reducible repeat (first | apply Kd.R_alloc | apply Kd.R_drewN | apply Kd.R_drew)); exact HO193.out) (Kd.R_base ho0) hb); have n4_ := Aside0.mk (Kd.R_elder' (by (with_reducible repeat (first | apply Kd.R_alloc | apply Kd.R_drewN | apply Kd.R_drew)); exact HO196.out) (Kd.R_base ho0) hb); have n5_ := Aside0.mk (Kd.R_elder' (by (with_reducible repeat (first | apply Kd.R_alloc | apply Kd.R_drewN | apply Kd.R_drew)); exact HO200.out) (Kd.R_base ho0) hb); have n6_ := Aside0.mk (Kd.R_lower (Kd.R_new' (Kd.R_new' (Kd.R_new' ho0 (Kd.R_lt (by (with_reducible repeat (first | apply Kd.R_alloc | apply Kd.R_drewN | apply Kd.R_drew)); exact HO193.out))) (Kd.R_lt (by (with_reducible repeat (first | apply Kd.R_alloc | apply Kd.R_drewN | apply Kd.R_drew)); exact HO196.out))) (Kd.R_lt (by (with_reducible repeat (first | apply Kd.R_alloc | apply Kd.R_drewN | apply Kd.R_drew)); exact HO200.out))) (below_size (by repeat (first | (with_reducible first | exact HB.out | apply below_alloc | apply pw_below_drewN | apply below_drew1) | exact HB.out)))); have n7_ := Aside0.mk (below_step (by repeat (first | (with_reducible first | exact HB.out | apply below_alloc | apply pw_below_drewN | apply below_drew1) | exact HB.out)) hb); clear HO_0; clear HO185; clear HO189; clear HO193; clear HO196; clear HO200; clear HB; have HO_0 := n0_; have HO185 := n1_; have HO189 := n2_; have HO193 := n3_; have HO196 := n4_; have HO200 := n5_; have HO203 := n6_; have HB := n7_; clear n0_ n1_ n2_ n3_ n4_ n5_ n6_ n7_; (try clear hb); (try clear hb2); (try clear hk); (try clear hi); (try clear ho0); obtain ⟨Ao39, co39, eo39⟩ := Kd.R_slice HO200.out; subst eo39; obtain ⟨Ao40, co40, eo40⟩ := Kd.R_slice HO203.out; subst eo40) | (go_at_call 19; (with_reducible refine (vmfleetref1_SameMappings.calls kj10 _ _ t198 _ _ t201 true _ ?side1 ?side2 ?side3 ?side4 A25.out).mono ?_); (case side1 => repeat (first | exact (Kd.R_reads' HO200.out).2.2 | (with_reducible refine Kd.C_alloc ?_ _) | (with_reducible refine Kd.C_drewN ?_ _) | (with_reducible refine Kd.C_drew ?_))); (case side2 => exact (Kd.R_reads' HO200.out).2.1); (case side3 => repeat (first | exact (Kd.R_reads' HO203.out).2.2 | (with_reducible refine Kd.C_alloc ?_ _) | (with_reducible refine Kd.C_drewN ?_ _) | (with_reducible refine Kd.C_drew ?_))); (case side4 => exact (Kd.R_reads' HO203.out).2.1); rintro e w' ⟨rfl, ⟨nd, rfl⟩⟩) | (go_at_call 14; (with_reducible refine (vmfleetlaw5_awake.calls kj10  t205 _ A27.out).mono ?_); rintro e w41 ⟨rfl, hb⟩; have n0_ := Aside0.mk (Kd.V_below (by (with_reducible repeat (first | apply Kd.V_alloc | apply Kd.V_drewN | apply Kd.V_drew)); exact HO_0.out) hb); have n1_ := Aside0.mk (Kd.R_below (by (with_reducible repeat (first | apply Kd.R_alloc | apply Kd.R_drewN | apply Kd.R_drew)); exact HO185.out) hb); have n2_ := Aside0.mk (Kd.R_below (by (with_reducible repeat (first | apply Kd.R_alloc | apply Kd.R_drewN | apply Kd.R_drew)); exact HO189.out) hb); have n3_ := Aside0.mk (Kd.R_below (by (with_reducible repeat (first | apply Kd.R_alloc | apply Kd.R_drewN | apply Kd.R_drew)); exact HO193.out) hb); have n4_ := Aside0.mk (Kd.R_below (by (with_reducible repeat (first | apply Kd.R_alloc | apply Kd.R_drewN | apply Kd.R_drew)); exact HO196.out) hb); have n5_ := Aside0.mk (Kd.R_below (by (with_reducible repeat (first | apply Kd.R_alloc | apply Kd.R_drewN | apply Kd.R_drew)); exact HO200.out) hb); have n6_ := Aside0.mk (Kd.R_below (by (with_reducible repeat (first | apply Kd.R_alloc | apply Kd.R_drewN | apply Kd.R_drew)); exact HO203.out) hb); have n7_ := Aside0.mk (below_step (by repeat (first | (with_reducible first | exact HB.out | apply below_alloc | apply pw_below_drewN | apply below_drew1) | exact HB.out)) hb); clear HO_0; clear HO185; clear HO189; clear HO193; clear HO196; clear HO200; clear HO203; clear HB; have HO_0 := n0_; have HO185 := n1_; have HO189 := n2_; have HO193 := n3_; have HO196 := n4_; have HO200 := n5_; have HO203 := n6_; have HB := n7_; clear n0_ n1_ n2_ n3_ n4_ n5_ n6_ n7_; (try clear hb); (try clear hb2); (try clear hk); (try clear hi)))
              go_ret
              exact ⟨by first | rfl | (simp [errW_none, errW_some] <;> rfl) | (simp [*, errW_none, errW_some] <;> rfl), by repeat (first | (with_reducible first | exact HB.out | apply below_alloc | apply pw_below_drewN | apply below_drew1) | exact HB.out)⟩
            · replace c26 := Bool.eq_false_iff.mpr c26
              subst c26
              have H1 : (some false) = some r := by rw [if_neg (show ¬ (false = true) by decide)] at H; exact H
              clear H
              have H := H1
              clear H1
              obtain rfl := Option.some.inj H
              obtain ⟨Ao42, co42, eo42⟩ := Kd.V_slice HO_0.out
              subst eo42
              go_wp2_with (first | ((with_reducible refine gate_callee (f := 12) rfl ?_); refine goesL_ (some 43) rfl rfl Try.func12 (by kernel_rfl) rfl #[.slice Ao42 t179.length co42, .int .u32 x4_10, .int .u32 x5_10, .int .u32 x6_10, .int .u32 x7_10] rfl (by (try simp only [List.map_toArray, List.map_cons, List.map_nil]); first | done | rfl | (simp only [List.length_drop, List.length_take]; rfl)) ?_; (with_reducible refine (paging_Map.calls _ _ t179 x4_10 x5_10 x6_10 x7_10 t182 t183 _ ?side1 ?side2 A14.out).mono ?_); (case side1 => repeat (first | exact (Kd.V_reads' HO_0.out).2.2 | (with_reducible refine Kd.C_alloc ?_ _) | (with_reducible refine Kd.C_drewN ?_ _) | (with_reducible refine Kd.C_drew ?_))); (case side2 => exact (Kd.V_reads' HO_0.out).2.1); rintro e w43 ⟨v184, rfl, ho0, hb⟩; refine ⟨_, rfl, ?_⟩; have n0_ := Aside0.mk (Kd.V_elder' (by (with_reducible repeat (first | apply Kd.V_alloc | apply Kd.V_drewN | apply Kd.V_drew)); exact HO_0.out) (Kd.R_base ho0) hb); have n1_ := Aside0.mk (Kd.R_lower ho0 (below_size (by repeat (first | (with_reducible first | exact HB.out | apply below_alloc | apply pw_below_drewN | apply below_drew1) | exact HB.out)))); have n2_ := Aside0.mk (below_step (by repeat (first | (with_reducible first | exact HB.out | apply below_alloc | apply pw_below_drewN | apply below_drew1) | exact HB.out)) hb); clear HO_0; clear HB; have HO_0 := n0_; have HO185 := n1_; have HB := n2_; clear n0_ n1_ n2_; (try clear hb); (try clear hb2); (try clear hk); (try clear hi); (try clear ho0)) | ((with_reducible refine gate_callee (f := 18) rfl ?_); refine goesL_ (some 52) rfl rfl Try.func18 (by kernel_rfl) rfl #[.slice Ao42 t179.length co42, .int .u32 x4_10, .int .u32 x5_10, .int .u32 x6_10, .int .u32 x7_10] rfl (by (try simp only [List.map_toArray, List.map_cons, List.map_nil]); first | done | rfl | (simp only [List.length_drop, List.length_take]; rfl)) ?_; (with_reducible refine (vmfleetref1_Map.calls _ _ t179 x4_10 x5_10 x6_10 x7_10 t186 t187 _ ?side1 ?side2 A15.out).mono ?_); (case side1 => repeat (first | exact (Kd.V_reads' HO_0.out).2.2 | (with_reducible refine Kd.C_alloc ?_ _) | (with_reducible refine Kd.C_drewN ?_ _) | (with_reducible refine Kd.C_drew ?_))); (case side2 => exact (Kd.V_reads' HO_0.out).2.1); rintro e w44 ⟨v188, rfl, ho0, hb⟩; refine ⟨_, rfl, ?_⟩; have n0_ := Aside0.mk (Kd.V_elder' (by (with_reducible repeat (first | apply Kd.V_alloc | apply Kd.V_drewN | apply Kd.V_drew)); exact HO_0.out) (Kd.R_base ho0) hb); have n1_ := Aside0.mk (Kd.R_elder' (by (with_reducible repeat (first | apply Kd.R_alloc | apply Kd.R_drewN | apply Kd.R_drew)); exact HO185.out) (Kd.R_base ho0) hb); have n2_ := Aside0.mk (Kd.R_lower (Kd.R_new' ho0 (Kd.R_lt (by (with_reducible repeat (first | apply Kd.R_alloc | apply Kd.R_drewN | apply Kd.R_drew)); exact HO185.out))) (below_size (by repeat (first | (with_reducible first | exact HB.out | apply below_alloc | apply pw_below_drewN | apply below_drew1) | exact HB.out)))); have n3_ := Aside0.mk (below_step (by repeat (first | (with_reducible first | exact HB.out | apply below_alloc | apply pw_below_drewN | apply below_drew1) | exact HB.out)) hb); clear HO_0; clear HO185; clear HB; have HO_0 := n0_; have HO185 := n1_; have HO189 := n2_; have HB := n3_; clear n0_ n1_ n2_ n3_; (try clear hb); (try clear hb2); (try clear hk); (try clear hi); (try clear ho0); obtain ⟨Ao45, co45, eo45⟩ := Kd.R_slice HO185.out; subst eo45; obtain ⟨Ao46, co46, eo46⟩ := Kd.R_slice HO189.out; subst eo46) | (go_at_call 16; (with_reducible refine (vmfleetref1_SameWords.calls kj10 _ _ t182 _ _ t186 true _ ?side1 ?side2 ?side3 ?side4 A17.out).mono ?_); (case side1 => repeat (first | exact (Kd.R_reads' HO185.out).2.2 | (with_reducible refine Kd.C_alloc ?_ _) | (with_reducible refine Kd.C_drewN ?_ _) | (with_reducible refine Kd.C_drew ?_))); (case side2 => exact (Kd.R_reads' HO185.out).2.1); (case side3 => repeat (first | exact (Kd.R_reads' HO189.out).2.2 | (with_reducible refine Kd.C_alloc ?_ _) | (with_reducible refine Kd.C_drewN ?_ _) | (with_reducible refine Kd.C_drew ?_))); (case side4 => exact (Kd.R_reads' HO189.out).2.1); rintro e w' ⟨rfl, ⟨nd, rfl⟩⟩) | (go_at_call 20; (with_reducible refine (paging_List.calls _ _ t179 x4_10 t191 _ ?side1 ?side2 A19.out).mono ?_); (case side1 => repeat (first | exact (Kd.V_reads' HO_0.out).2.2 | (with_reducible refine Kd.C_alloc ?_ _) | (with_reducible refine Kd.C_drewN ?_ _) | (with_reducible refine Kd.C_drew ?_))); (case side2 => exact (Kd.V_reads' HO_0.out).2.1); rintro e w47 ⟨v192, rfl, ho0, hb⟩; have n0_ := Aside0.mk (Kd.V_elder' (by (with_reducible repeat (first | apply Kd.V_alloc | apply Kd.V_drewN | apply Kd.V_drew)); exact HO_0.out) (Kd.R_base ho0) hb); have n1_ := Aside0.mk (Kd.R_below (by (with_reducible repeat (first | apply Kd.R_alloc | apply Kd.R_drewN | apply Kd.R_drew)); exact HO185.out) hb); have n2_ := Aside0.mk (Kd.R_below (by (with_reducible repeat (first | apply Kd.R_alloc | apply Kd.R_drewN | apply Kd.R_drew)); exact HO189.out) hb); have n3_ := Aside0.mk (Kd.R_lower ho0 (below_size (by repeat (first | (with_reducible first | exact HB.out | apply below_alloc | apply pw_below_drewN | apply below_drew1) | exact HB.out)))); have n4_ := Aside0.mk (below_step (by repeat (first | (with_reducible first | exact HB.out | apply below_alloc | apply pw_below_drewN | apply below_drew1) | exact HB.out)) hb); clear HO_0; clear HO185; clear HO189; clear HB; have HO_0 := n0_; have HO185 := n1_; have HO189 := n2_; have HO193 := n3_; have HB := n4_; clear n0_ n1_ n2_ n3_ n4_; (try clear hb); (try clear hb2); (try clear hk); (try clear hi); (try clear ho0)) | (go_at_call 21; (with_reducible refine (vmfleetref1_List.calls kj10 _ _ t179 x4_10 t194 _ ?side1 ?side2 A20.out).mono ?_); (case side1 => repeat (first | exact (Kd.V_reads' HO_0.out).2.2 | (with_reducible refine Kd.C_alloc ?_ _) | (with_reducible refine Kd.C_drewN ?_ _) | (with_reducible refine Kd.C_drew ?_))); (case side2 => exact (Kd.V_reads' HO_0.out).2.1); rintro e w48 ⟨v195, rfl, ho0, hb⟩; have n0_ := Aside0.mk (Kd.V_elder' (by (with_reducible repeat (first | apply Kd.V_alloc | apply Kd.V_drewN | apply Kd.V_drew)); exact HO_0.out) (Kd.R_base ho0) hb); have n1_ := Aside0.mk (Kd.R_below (by (with_reducible repeat (first | apply Kd.R_alloc | apply Kd.R_drewN | apply Kd.R_drew)); exact HO185.out) hb); have n2_ := Aside0.mk (Kd.R_below (by (with_reducible repeat (first | apply Kd.R_alloc | apply Kd.R_drewN | apply Kd.R_drew)); exact HO189.out) hb); have n3_ := Aside0.mk (Kd.R_elder' (by (with_reducible repeat (first | apply Kd.R_alloc | apply Kd.R_drewN | apply Kd.R_drew)); exact HO193.out) (Kd.R_base ho0) hb); have n4_ := Aside0.mk (Kd.R_lower (Kd.R_new' ho0 (Kd.R_lt (by (with_reducible repeat (first | apply Kd.R_alloc | apply Kd.R_drewN | apply Kd.R_drew)); exact HO193.out))) (below_size (by repeat (first | (with_reducible first | exact HB.out | apply below_alloc | apply pw_below_drewN | apply below_drew1) | exact HB.out)))); have n5_ := Aside0.mk (below_step (by repeat (first | (with_reducible first | exact HB.out | apply below_alloc | apply pw_below_drewN | apply below_drew1) | exact HB.out)) hb); clear HO_0; clear HO185; clear HO189; clear HO193; clear HB; have HO_0 := n0_; have HO185 := n1_; have HO189 := n2_; have HO193 := n3_; have HO196 := n4_; have HB := n5_; clear n0_ n1_ n2_ n3_ n4_ n5_; (try clear hb); (try clear hb2); (try clear hk); (try clear hi); (try clear ho0); obtain ⟨Ao49, co49, eo49⟩ := Kd.R_slice HO193.out; subst eo49; obtain ⟨Ao50, co50, eo50⟩ := Kd.R_slice HO196.out; subst eo50) | (go_at_call 19; (with_reducible refine (vmfleetref1_SameMappings.calls kj10 _ _ t191 _ _ t194 true _ ?side1 ?side2 ?side3 ?side4 A21.out).mono ?_); (case side1 => repeat (first | exact (Kd.R_reads' HO193.out).2.2 | (with_reducible refine Kd.C_alloc ?_ _) | (with_reducible refine Kd.C_drewN ?_ _) | (with_reducible refine Kd.C_drew ?_))); (case side2 => exact (Kd.R_reads' HO193.out).2.1); (case side3 => repeat (first | exact (Kd.R_reads' HO196.out).2.2 | (with_reducible refine Kd.C_alloc ?_ _) | (with_reducible refine Kd.C_drewN ?_ _) | (with_reducible refine Kd.C_drew ?_))); (case side4 => exact (Kd.R_reads' HO196.out).2.1); rintro e w' ⟨rfl, ⟨nd, rfl⟩⟩) | (go_at_call 20; (with_reducible refine (paging_List.calls _ _ t182 x4_10 t198 _ ?side1 ?side2 A23.out).mono ?_); (case side1 => repeat (first | exact (Kd.R_reads' HO185.out).2.2 | (with_reducible refine Kd.C_alloc ?_ _) | (with_reducible refine Kd.C_drewN ?_ _) | (with_reducible refine Kd.C_drew ?_))); (case side2 => exact (Kd.R_reads' HO185.out).2.1); rintro e w51 ⟨v199, rfl, ho0, hb⟩; have n0_ := Aside0.mk (Kd.V_elder' (by (with_reducible repeat (first | apply Kd.V_alloc | apply Kd.V_drewN | apply Kd.V_drew)); exact HO_0.out) (Kd.R_base ho0) hb); have n1_ := Aside0.mk (Kd.R_below (by (with_reducible repeat (first | apply Kd.R_alloc | apply Kd.R_drewN | apply Kd.R_drew)); exact HO185.out) hb); have n2_ := Aside0.mk (Kd.R_below (by (with_reducible repeat (first | apply Kd.R_alloc | apply Kd.R_drewN | apply Kd.R_drew)); exact HO189.out) hb); have n3_ := Aside0.mk (Kd.R_elder' (by (with_reducible repeat (first | apply Kd.R_alloc | apply Kd.R_drewN | apply Kd.R_drew)); exact HO193.out) (Kd.R_base ho0) hb); have n4_ := Aside0.mk (Kd.R_elder' (by (with_reducible repeat (first | apply Kd.R_alloc | apply Kd.R_drewN | apply Kd.R_drew)); exact HO196.out) (Kd.R_base ho0) hb); have n5_ := Aside0.mk (Kd.R_lower (Kd.R_new' (Kd.R_new' ho0 (Kd.R_lt (by (with_reducible repeat (first | apply Kd.R_alloc | apply Kd.R_drewN | apply Kd.R_drew)); exact HO193.out))) (Kd.R_lt (by (with_reducible repeat (first | apply Kd.R_alloc | apply Kd.R_drewN | apply Kd.R_drew)); exact HO196.out))) (below_size (by repeat (first | (with_reducible first | exact HB.out | apply below_alloc | apply pw_below_drewN | apply below_drew1) | exact HB.out)))); have n6_ := Aside0.mk (below_step (by repeat (first | (with_reducible first | exact HB.out | apply below_alloc | apply pw_below_drewN | apply below_drew1) | exact HB.out)) hb); clear HO_0; clear HO185; clear HO189; clear HO193; clear HO196; clear HB; have HO_0 := n0_; have HO185 := n1_; have HO189 := n2_; have HO193 := n3_; have HO196 := n4_; have HO200 := n5_; have HB := n6_; clear n0_ n1_ n2_ n3_ n4_ n5_ n6_; (try clear hb); (try clear hb2); (try clear hk); (try clear hi); (try clear ho0)) | (go_at_call 21; (with_reducible refine (vmfleetref1_List.calls kj10 _ _ t186 x4_10 t201 _ ?side1 ?side2 A24.out).mono ?_); (case side1 => repeat (first | exact (Kd.R_reads' HO189.out).2.2 | (with_reducible refine Kd.C_alloc ?_ _) | (with_reducible refine Kd.C_drewN ?_ _) | (with_reducible refine Kd.C_drew ?_))); (case side2 => exact (Kd.R_reads' HO189.out).2.1); rintro e w52 ⟨v202, rfl, ho0, hb⟩; have n0_ := Aside0.mk (Kd.V_elder' (by (with_reducible repeat (first | apply Kd.V_alloc | apply Kd.V_drewN | apply Kd.V_drew)); exact HO_0.out) (Kd.R_base ho0) hb); have n1_ := Aside0.mk (Kd.R_below (by (with_reducible repeat (first | apply Kd.R_alloc | apply Kd.R_drewN | apply Kd.R_drew)); exact HO185.out) hb); have n2_ := Aside0.mk (Kd.R_below (by (with_reducible repeat (first | apply Kd.R_alloc | apply Kd.R_drewN | apply Kd.R_drew)); exact HO189.out) hb); have n3_ := Aside0.mk (Kd.R_elder' (by (with_reducible repeat (first | apply Kd.R_alloc | apply Kd.R_drewN | apply Kd.R_drew)); exact HO193.out) (Kd.R_base ho0) hb); have n4_ := Aside0.mk (Kd.R_elder' (by (with_reducible repeat (first | apply Kd.R_alloc | apply Kd.R_drewN | apply Kd.R_drew)); exact HO196.out) (Kd.R_base ho0) hb); have n5_ := Aside0.mk (Kd.R_elder' (by (with_reducible repeat (first | apply Kd.R_alloc | apply Kd.R_drewN | apply Kd.R_drew)); exact HO200.out) (Kd.R_base ho0) hb); have n6_ := Aside0.mk (Kd.R_lower (Kd.R_new' (Kd.R_new' (Kd.R_new' ho0 (Kd.R_lt (by (with_reducible repeat (first | apply Kd.R_alloc | apply Kd.R_drewN | apply Kd.R_drew)); exact HO193.out))) (Kd.R_lt (by (with_reducible repeat (first | apply Kd.R_alloc | apply Kd.R_drewN | apply Kd.R_drew)); exact HO196.out))) (Kd.R_lt (by (with_reducible repeat (first | apply Kd.R_alloc | apply Kd.R_drewN | apply Kd.R_drew)); exact HO200.out))) (below_size (by repeat (first | (with_reducible first | exact HB.out | apply below_alloc | apply pw_below_drewN | apply below_drew1) | exact HB.out)))); have n7_ := Aside0.mk (below_step (by repeat (first | (with_reducible first | exact HB.out | apply below_alloc | apply pw_below_drewN | apply below_drew1) | exact HB.out)) hb); clear HO_0; clear HO185; clear HO189; clear HO193; clear HO196; clear HO200; clear HB; have HO_0 := n0_; have HO185 := n1_; have HO189 := n2_; have HO193 := n3_; have HO196 := n4_; have HO200 := n5_; have HO203 := n6_; have HB := n7_; clear n0_ n1_ n2_ n3_ n4_ n5_ n6_ n7_; (try clear hb); (try clear hb2); (try clear hk); (try clear hi); (try clear ho0); obtain ⟨Ao53, co53, eo53⟩ := Kd.R_slice HO200.out; subst eo53; obtain ⟨Ao54, co54, eo54⟩ := Kd.R_slice HO203.out; subst eo54) | (go_at_call 19; (with_reducible refine (vmfleetref1_SameMappings.calls kj10 _ _ t198 _ _ t201 false _ ?side1 ?side2 ?side3 ?side4 A25.out).mono ?_); (case side1 => repeat (first | exact (Kd.R_reads' HO200.out).2.2 | (with_reducible refine Kd.C_alloc ?_ _) | (with_reducible refine Kd.C_drewN ?_ _) | (with_reducible refine Kd.C_drew ?_))); (case side2 => exact (Kd.R_reads' HO200.out).2.1); (case side3 => repeat (first | exact (Kd.R_reads' HO203.out).2.2 | (with_reducible refine Kd.C_alloc ?_ _) | (with_reducible refine Kd.C_drewN ?_ _) | (with_reducible refine Kd.C_drew ?_))); (case side4 => exact (Kd.R_reads' HO203.out).2.1); rintro e w' ⟨rfl, ⟨nd, rfl⟩⟩))
              go_ret
              exact ⟨by first | rfl | (simp [errW_none, errW_some] <;> rfl) | (simp [*, errW_none, errW_some] <;> rfl), by repeat (first | (with_reducible first | exact HB.out | apply below_alloc | apply pw_below_drewN | apply below_drew1) | exact HB.out)⟩
          · replace c22 := Bool.eq_false_iff.mpr c22
            subst c22
            have H1 : (some false) = some r := by rw [if_neg (show ¬ (false = true) by decide)] at H; exact H
            clear H
            have H := H1
            clear H1
            obtain rfl := Option.some.inj H
            obtain ⟨Ao55, co55, eo55⟩ := Kd.V_slice HO_0.out
            subst eo55
            go_wp2_with (first | ((with_reducible refine gate_callee (f := 12) rfl ?_); refine goesL_ (some 43) rfl rfl Try.func12 (by kernel_rfl) rfl #[.slice Ao55 t179.length co55, .int .u32 x4_10, .int .u32 x5_10, .int .u32 x6_10, .int .u32 x7_10] rfl (by (try simp only [List.map_toArray, List.map_cons, List.map_nil]); first | done | rfl | (simp only [List.length_drop, List.length_take]; rfl)) ?_; (with_reducible refine (paging_Map.calls _ _ t179 x4_10 x5_10 x6_10 x7_10 t182 t183 _ ?side1 ?side2 A14.out).mono ?_); (case side1 => repeat (first | exact (Kd.V_reads' HO_0.out).2.2 | (with_reducible refine Kd.C_alloc ?_ _) | (with_reducible refine Kd.C_drewN ?_ _) | (with_reducible refine Kd.C_drew ?_))); (case side2 => exact (Kd.V_reads' HO_0.out).2.1); rintro e w56 ⟨v184, rfl, ho0, hb⟩; refine ⟨_, rfl, ?_⟩; have n0_ := Aside0.mk (Kd.V_elder' (by (with_reducible repeat (first | apply Kd.V_alloc | apply Kd.V_drewN | apply Kd.V_drew)); exact HO_0.out) (Kd.R_base ho0) hb); have n1_ := Aside0.mk (Kd.R_lower ho0 (below_size (by repeat (first | (with_reducible first | exact HB.out | apply below_alloc | apply pw_below_drewN | apply below_drew1) | exact HB.out)))); have n2_ := Aside0.mk (below_step (by repeat (first | (with_reducible first | exact HB.out | apply below_alloc | apply pw_below_drewN | apply below_drew1) | exact HB.out)) hb); clear HO_0; clear HB; have HO_0 := n0_; have HO185 := n1_; have HB := n2_; clear n0_ n1_ n2_; (try clear hb); (try clear hb2); (try clear hk); (try clear hi); (try clear ho0)) | ((with_reducible refine gate_callee (f := 18) rfl ?_); refine goesL_ (some 52) rfl rfl Try.func18 (by kernel_rfl) rfl #[.slice Ao55 t179.length co55, .int .u32 x4_10, .int .u32 x5_10, .int .u32 x6_10, .int .u32 x7_10] rfl (by (try simp only [List.map_toArray, List.map_cons, List.map_nil]); first | done | rfl | (simp only [List.length_drop, List.length_take]; rfl)) ?_; (with_reducible refine (vmfleetref1_Map.calls _ _ t179 x4_10 x5_10 x6_10 x7_10 t186 t187 _ ?side1 ?side2 A15.out).mono ?_); (case side1 => repeat (first | exact (Kd.V_reads' HO_0.out).2.2 | (with_reducible refine Kd.C_alloc ?_ _) | (with_reducible refine Kd.C_drewN ?_ _) | (with_reducible refine Kd.C_drew ?_))); (case side2 => exact (Kd.V_reads' HO_0.out).2.1); rintro e w57 ⟨v188, rfl, ho0, hb⟩; refine ⟨_, rfl, ?_⟩; have n0_ := Aside0.mk (Kd.V_elder' (by (with_reducible repeat (first | apply Kd.V_alloc | apply Kd.V_drewN | apply Kd.V_drew)); exact HO_0.out) (Kd.R_base ho0) hb); have n1_ := Aside0.mk (Kd.R_elder' (by (with_reducible repeat (first | apply Kd.R_alloc | apply Kd.R_drewN | apply Kd.R_drew)); exact HO185.out) (Kd.R_base ho0) hb); have n2_ := Aside0.mk (Kd.R_lower (Kd.R_new' ho0 (Kd.R_lt (by (with_reducible repeat (first | apply Kd.R_alloc | apply Kd.R_drewN | apply Kd.R_drew)); exact HO185.out))) (below_size (by repeat (first | (with_reducible first | exact HB.out | apply below_alloc | apply pw_below_drewN | apply below_drew1) | exact HB.out)))); have n3_ := Aside0.mk (below_step (by repeat (first | (with_reducible first | exact HB.out | apply below_alloc | apply pw_below_drewN | apply below_drew1) | exact HB.out)) hb); clear HO_0; clear HO185; clear HB; have HO_0 := n0_; have HO185 := n1_; have HO189 := n2_; have HB := n3_; clear n0_ n1_ n2_ n3_; (try clear hb); (try clear hb2); (try clear hk); (try clear hi); (try clear ho0); obtain ⟨Ao58, co58, eo58⟩ := Kd.R_slice HO185.out; subst eo58; obtain ⟨Ao59, co59, eo59⟩ := Kd.R_slice HO189.out; subst eo59) | (go_at_call 16; (with_reducible refine (vmfleetref1_SameWords.calls kj10 _ _ t182 _ _ t186 true _ ?side1 ?side2 ?side3 ?side4 A17.out).mono ?_); (case side1 => repeat (first | exact (Kd.R_reads' HO185.out).2.2 | (with_reducible refine Kd.C_alloc ?_ _) | (with_reducible refine Kd.C_drewN ?_ _) | (with_reducible refine Kd.C_drew ?_))); (case side2 => exact (Kd.R_reads' HO185.out).2.1); (case side3 => repeat (first | exact (Kd.R_reads' HO189.out).2.2 | (with_reducible refine Kd.C_alloc ?_ _) | (with_reducible refine Kd.C_drewN ?_ _) | (with_reducible refine Kd.C_drew ?_))); (case side4 => exact (Kd.R_reads' HO189.out).2.1); rintro e w' ⟨rfl, ⟨nd, rfl⟩⟩) | (go_at_call 20; (with_reducible refine (paging_List.calls _ _ t179 x4_10 t191 _ ?side1 ?side2 A19.out).mono ?_); (case side1 => repeat (first | exact (Kd.V_reads' HO_0.out).2.2 | (with_reducible refine Kd.C_alloc ?_ _) | (with_reducible refine Kd.C_drewN ?_ _) | (with_reducible refine Kd.C_drew ?_))); (case side2 => exact (Kd.V_reads' HO_0.out).2.1); rintro e w60 ⟨v192, rfl, ho0, hb⟩; have n0_ := Aside0.mk (Kd.V_elder' (by (with_reducible repeat (first | apply Kd.V_alloc | apply Kd.V_drewN | apply Kd.V_drew)); exact HO_0.out) (Kd.R_base ho0) hb); have n1_ := Aside0.mk (Kd.R_below (by (with_reducible repeat (first | apply Kd.R_alloc | apply Kd.R_drewN | apply Kd.R_drew)); exact HO185.out) hb); have n2_ := Aside0.mk (Kd.R_below (by (with_reducible repeat (first | apply Kd.R_alloc | apply Kd.R_drewN | apply Kd.R_drew)); exact HO189.out) hb); have n3_ := Aside0.mk (Kd.R_lower ho0 (below_size (by repeat (first | (with_reducible first | exact HB.out | apply below_alloc | apply pw_below_drewN | apply below_drew1) | exact HB.out)))); have n4_ := Aside0.mk (below_step (by repeat (first | (with_reducible first | exact HB.out | apply below_alloc | apply pw_below_drewN | apply below_drew1) | exact HB.out)) hb); clear HO_0; clear HO185; clear HO189; clear HB; have HO_0 := n0_; have HO185 := n1_; have HO189 := n2_; have HO193 := n3_; have HB := n4_; clear n0_ n1_ n2_ n3_ n4_; (try clear hb); (try clear hb2); (try clear hk); (try clear hi); (try clear ho0)) | (go_at_call 21; (with_reducible refine (vmfleetref1_List.calls kj10 _ _ t179 x4_10 t194 _ ?side1 ?side2 A20.out).mono ?_); (case side1 => repeat (first | exact (Kd.V_reads' HO_0.out).2.2 | (with_reducible refine Kd.C_alloc ?_ _) | (with_reducible refine Kd.C_drewN ?_ _) | (with_reducible refine Kd.C_drew ?_))); (case side2 => exact (Kd.V_reads' HO_0.out).2.1); rintro e w61 ⟨v195, rfl, ho0, hb⟩; have n0_ := Aside0.mk (Kd.V_elder' (by (with_reducible repeat (first | apply Kd.V_alloc | apply Kd.V_drewN | apply Kd.V_drew)); exact HO_0.out) (Kd.R_base ho0) hb); have n1_ := Aside0.mk (Kd.R_below (by (with_reducible repeat (first | apply Kd.R_alloc | apply Kd.R_drewN | apply Kd.R_drew)); exact HO185.out) hb); have n2_ := Aside0.mk (Kd.R_below (by (with_reducible repeat (first | apply Kd.R_alloc | apply Kd.R_drewN | apply Kd.R_drew)); exact HO189.out) hb); have n3_ := Aside0.mk (Kd.R_elder' (by (with_reducible repeat (first | apply Kd.R_alloc | apply Kd.R_drewN | apply Kd.R_drew)); exact HO193.out) (Kd.R_base ho0) hb); have n4_ := Aside0.mk (Kd.R_lower (Kd.R_new' ho0 (Kd.R_lt (by (with_reducible repeat (first | apply Kd.R_alloc | apply Kd.R_drewN | apply Kd.R_drew)); exact HO193.out))) (below_size (by repeat (first | (with_reducible first | exact HB.out | apply below_alloc | apply pw_below_drewN | apply below_drew1) | exact HB.out)))); have n5_ := Aside0.mk (below_step (by repeat (first | (with_reducible first | exact HB.out | apply below_alloc | apply pw_below_drewN | apply below_drew1) | exact HB.out)) hb); clear HO_0; clear HO185; clear HO189; clear HO193; clear HB; have HO_0 := n0_; have HO185 := n1_; have HO189 := n2_; have HO193 := n3_; have HO196 := n4_; have HB := n5_; clear n0_ n1_ n2_ n3_ n4_ n5_; (try clear hb); (try clear hb2); (try clear hk); (try clear hi); (try clear ho0); obtain ⟨Ao62, co62, eo62⟩ := Kd.R_slice HO193.out; subst eo62; obtain ⟨Ao63, co63, eo63⟩ := Kd.R_slice HO196.out; subst eo63) | (go_at_call 19; (with_reducible refine (vmfleetref1_SameMappings.calls kj10 _ _ t191 _ _ t194 false _ ?side1 ?side2 ?side3 ?side4 A21.out).mono ?_); (case side1 => repeat (first | exact (Kd.R_reads' HO193.out).2.2 | (with_reducible refine Kd.C_alloc ?_ _) | (with_reducible refine Kd.C_drewN ?_ _) | (with_reducible refine Kd.C_drew ?_))); (case side2 => exact (Kd.R_reads' HO193.out).2.1); (case side3 => repeat (first | exact (Kd.R_reads' HO196.out).2.2 | (with_reducible refine Kd.C_alloc ?_ _) | (with_reducible refine Kd.C_drewN ?_ _) | (with_reducible refine Kd.C_drew ?_))); (case side4 => exact (Kd.R_reads' HO196.out).2.1); rintro e w' ⟨rfl, ⟨nd, rfl⟩⟩))
            go_ret
            exact ⟨by first | rfl | (simp [errW_none, errW_some] <;> rfl) | (simp [*, errW_none, errW_some] <;> rfl), by repeat (first | (with_reducible first | exact HB.out | apply below_alloc | apply pw_below_drewN | apply below_drew1) | exact HB.out)⟩
        · replace c18 := Bool.eq_false_iff.mpr c18
          subst c18
          have H1 : (some false) = some r := by rw [if_neg (show ¬ (false = true) by decide)] at H; exact H
          clear H
          have H := H1
          clear H1
          obtain rfl := Option.some.inj H
          obtain ⟨Ao64, co64, eo64⟩ := Kd.V_slice HO_0.out
          subst eo64
          go_wp2_with (first | ((with_reducible refine gate_callee (f := 12) rfl ?_); refine goesL_ (some 43) rfl rfl Try.func12 (by kernel_rfl) rfl #[.slice Ao64 t179.length co64, .int .u32 x4_10, .int .u32 x5_10, .int .u32 x6_10, .int .u32 x7_10] rfl (by (try simp only [List.map_toArray, List.map_cons, List.map_nil]); first | done | rfl | (simp only [List.length_drop, List.length_take]; rfl)) ?_; (with_reducible refine (paging_Map.calls _ _ t179 x4_10 x5_10 x6_10 x7_10 t182 t183 _ ?side1 ?side2 A14.out).mono ?_); (case side1 => repeat (first | exact (Kd.V_reads' HO_0.out).2.2 | (with_reducible refine Kd.C_alloc ?_ _) | (with_reducible refine Kd.C_drewN ?_ _) | (with_reducible refine Kd.C_drew ?_))); (case side2 => exact (Kd.V_reads' HO_0.out).2.1); rintro e w65 ⟨v184, rfl, ho0, hb⟩; refine ⟨_, rfl, ?_⟩; have n0_ := Aside0.mk (Kd.V_elder' (by (with_reducible repeat (first | apply Kd.V_alloc | apply Kd.V_drewN | apply Kd.V_drew)); exact HO_0.out) (Kd.R_base ho0) hb); have n1_ := Aside0.mk (Kd.R_lower ho0 (below_size (by repeat (first | (with_reducible first | exact HB.out | apply below_alloc | apply pw_below_drewN | apply below_drew1) | exact HB.out)))); have n2_ := Aside0.mk (below_step (by repeat (first | (with_reducible first | exact HB.out | apply below_alloc | apply pw_below_drewN | apply below_drew1) | exact HB.out)) hb); clear HO_0; clear HB; have HO_0 := n0_; have HO185 := n1_; have HB := n2_; clear n0_ n1_ n2_; (try clear hb); (try clear hb2); (try clear hk); (try clear hi); (try clear ho0)) | ((with_reducible refine gate_callee (f := 18) rfl ?_); refine goesL_ (some 52) rfl rfl Try.func18 (by kernel_rfl) rfl #[.slice Ao64 t179.length co64, .int .u32 x4_10, .int .u32 x5_10, .int .u32 x6_10, .int .u32 x7_10] rfl (by (try simp only [List.map_toArray, List.map_cons, List.map_nil]); first | done | rfl | (simp only [List.length_drop, List.length_take]; rfl)) ?_; (with_reducible refine (vmfleetref1_Map.calls _ _ t179 x4_10 x5_10 x6_10 x7_10 t186 t187 _ ?side1 ?side2 A15.out).mono ?_); (case side1 => repeat (first | exact (Kd.V_reads' HO_0.out).2.2 | (with_reducible refine Kd.C_alloc ?_ _) | (with_reducible refine Kd.C_drewN ?_ _) | (with_reducible refine Kd.C_drew ?_))); (case side2 => exact (Kd.V_reads' HO_0.out).2.1); rintro e w66 ⟨v188, rfl, ho0, hb⟩; refine ⟨_, rfl, ?_⟩; have n0_ := Aside0.mk (Kd.V_elder' (by (with_reducible repeat (first | apply Kd.V_alloc | apply Kd.V_drewN | apply Kd.V_drew)); exact HO_0.out) (Kd.R_base ho0) hb); have n1_ := Aside0.mk (Kd.R_elder' (by (with_reducible repeat (first | apply Kd.R_alloc | apply Kd.R_drewN | apply Kd.R_drew)); exact HO185.out) (Kd.R_base ho0) hb); have n2_ := Aside0.mk (Kd.R_lower (Kd.R_new' ho0 (Kd.R_lt (by (with_reducible repeat (first | apply Kd.R_alloc | apply Kd.R_drewN | apply Kd.R_drew)); exact HO185.out))) (below_size (by repeat (first | (with_reducible first | exact HB.out | apply below_alloc | apply pw_below_drewN | apply below_drew1) | exact HB.out)))); have n3_ := Aside0.mk (below_step (by repeat (first | (with_reducible first | exact HB.out | apply below_alloc | apply pw_below_drewN | apply below_drew1) | exact HB.out)) hb); clear HO_0; clear HO185; clear HB; have HO_0 := n0_; have HO185 := n1_; have HO189 := n2_; have HB := n3_; clear n0_ n1_ n2_ n3_; (try clear hb); (try clear hb2); (try clear hk); (try clear hi); (try clear ho0); obtain ⟨Ao67, co67, eo67⟩ := Kd.R_slice HO185.out; subst eo67; obtain ⟨Ao68, co68, eo68⟩ := Kd.R_slice HO189.out; subst eo68) | (go_at_call 16; (with_reducible refine (vmfleetref1_SameWords.calls kj10 _ _ t182 _ _ t186 false _ ?side1 ?side2 ?side3 ?side4 A17.out).mono ?_); (case side1 => repeat (first | exact (Kd.R_reads' HO185.out).2.2 | (with_reducible refine Kd.C_alloc ?_ _) | (with_reducible refine Kd.C_drewN ?_ _) | (with_reducible refine Kd.C_drew ?_))); (case side2 => exact (Kd.R_reads' HO185.out).2.1); (case side3 => repeat (first | exact (Kd.R_reads' HO189.out).2.2 | (with_reducible refine Kd.C_alloc ?_ _) | (with_reducible refine Kd.C_drewN ?_ _) | (with_reducible refine Kd.C_drew ?_))); (case side4 => exact (Kd.R_reads' HO189.out).2.1); rintro e w' ⟨rfl, ⟨nd, rfl⟩⟩))
          go_ret
          exact ⟨by first | rfl | (simp [errW_none, errW_some] <;> rfl) | (simp [*, errW_none, errW_some] <;> rfl), by repeat (first | (with_reducible first | exact HB.out | apply below_alloc | apply pw_below_drewN | apply below_drew1) | exact HB.out)⟩
      · rw [if_neg c16] at H
        have c16b0 : (t183 == t187) = false := by simpa using c16
        (try (have c16b1 : decide (t183 = t187) = false := by simpa using c16))
        (try (have c16b2 : (t183 == t187) = false := by simpa using c16))
        (try (have c16b3 : ¬ (t183 = t187) := by simpa using c16))
        clear c16
        obtain rfl := Option.some.inj H
        obtain ⟨Ao69, co69, eo69⟩ := Kd.V_slice HO_0.out
        subst eo69
        go_wp2_with (first | ((with_reducible refine gate_callee (f := 12) rfl ?_); refine goesL_ (some 43) rfl rfl Try.func12 (by kernel_rfl) rfl #[.slice Ao69 t179.length co69, .int .u32 x4_10, .int .u32 x5_10, .int .u32 x6_10, .int .u32 x7_10] rfl (by (try simp only [List.map_toArray, List.map_cons, List.map_nil]); first | done | rfl | (simp only [List.length_drop, List.length_take]; rfl)) ?_; (with_reducible refine (paging_Map.calls _ _ t179 x4_10 x5_10 x6_10 x7_10 t182 t183 _ ?side1 ?side2 A14.out).mono ?_); (case side1 => repeat (first | exact (Kd.V_reads' HO_0.out).2.2 | (with_reducible refine Kd.C_alloc ?_ _) | (with_reducible refine Kd.C_drewN ?_ _) | (with_reducible refine Kd.C_drew ?_))); (case side2 => exact (Kd.V_reads' HO_0.out).2.1); rintro e w70 ⟨v184, rfl, ho0, hb⟩; refine ⟨_, rfl, ?_⟩; have n0_ := Aside0.mk (Kd.V_elder' (by (with_reducible repeat (first | apply Kd.V_alloc | apply Kd.V_drewN | apply Kd.V_drew)); exact HO_0.out) (Kd.R_base ho0) hb); have n1_ := Aside0.mk (Kd.R_lower ho0 (below_size (by repeat (first | (with_reducible first | exact HB.out | apply below_alloc | apply pw_below_drewN | apply below_drew1) | exact HB.out)))); have n2_ := Aside0.mk (below_step (by repeat (first | (with_reducible first | exact HB.out | apply below_alloc | apply pw_below_drewN | apply below_drew1) | exact HB.out)) hb); clear HO_0; clear HB; have HO_0 := n0_; have HO185 := n1_; have HB := n2_; clear n0_ n1_ n2_; (try clear hb); (try clear hb2); (try clear hk); (try clear hi); (try clear ho0)) | ((with_reducible refine gate_callee (f := 18) rfl ?_); refine goesL_ (some 52) rfl rfl Try.func18 (by kernel_rfl) rfl #[.slice Ao69 t179.length co69, .int .u32 x4_10, .int .u32 x5_10, .int .u32 x6_10, .int .u32 x7_10] rfl (by (try simp only [List.map_toArray, List.map_cons, List.map_nil]); first | done | rfl | (simp only [List.length_drop, List.length_take]; rfl)) ?_; (with_reducible refine (vmfleetref1_Map.calls _ _ t179 x4_10 x5_10 x6_10 x7_10 t186 t187 _ ?side1 ?side2 A15.out).mono ?_); (case side1 => repeat (first | exact (Kd.V_reads' HO_0.out).2.2 | (with_reducible refine Kd.C_alloc ?_ _) | (with_reducible refine Kd.C_drewN ?_ _) | (with_reducible refine Kd.C_drew ?_))); (case side2 => exact (Kd.V_reads' HO_0.out).2.1); rintro e w71 ⟨v188, rfl, ho0, hb⟩; refine ⟨_, rfl, ?_⟩; have n0_ := Aside0.mk (Kd.V_elder' (by (with_reducible repeat (first | apply Kd.V_alloc | apply Kd.V_drewN | apply Kd.V_drew)); exact HO_0.out) (Kd.R_base ho0) hb); have n1_ := Aside0.mk (Kd.R_elder' (by (with_reducible repeat (first | apply Kd.R_alloc | apply Kd.R_drewN | apply Kd.R_drew)); exact HO185.out) (Kd.R_base ho0) hb); have n2_ := Aside0.mk (Kd.R_lower (Kd.R_new' ho0 (Kd.R_lt (by (with_reducible repeat (first | apply Kd.R_alloc | apply Kd.R_drewN | apply Kd.R_drew)); exact HO185.out))) (below_size (by repeat (first | (with_reducible first | exact HB.out | apply below_alloc | apply pw_below_drewN | apply below_drew1) | exact HB.out)))); have n3_ := Aside0.mk (below_step (by repeat (first | (with_reducible first | exact HB.out | apply below_alloc | apply pw_below_drewN | apply below_drew1) | exact HB.out)) hb); clear HO_0; clear HO185; clear HB; have HO_0 := n0_; have HO185 := n1_; have HO189 := n2_; have HB := n3_; clear n0_ n1_ n2_ n3_; (try clear hb); (try clear hb2); (try clear hk); (try clear hi); (try clear ho0)))
        go_ret
        exact ⟨by first | rfl | (simp [errW_none, errW_some] <;> rfl) | (simp [*, errW_none, errW_some] <;> rfl), by repeat (first | (with_reducible first | exact HB.out | apply below_alloc | apply pw_below_drewN | apply below_drew1) | exact HB.out)⟩

/-- THE ONE PURE STATEMENT of vmfleetlaw5_PagingMaps: yours. -/
def vmfleetlaw5_PagingMaps.Pure : Prop := ∀ (l0 : List Int) (a1 : Bool) (l2 : List Int) (a3 : Int) (a4 : Int) (a5 : Int) (a6 : Int) (a7 : Int) (a8 : Bool), l0.length ≤ maxLen → l0.length * 4 ≤ 140737488351232 → (∀ x ∈ l0, (Lit.int .u32 x).wf = true) → l2.length ≤ maxLen → l2.length * 8 ≤ 140737488351232 → (∀ x ∈ l2, (Lit.int .i64 x).wf = true) → (Lit.int .i64 a3).wf = true → (Lit.int .u32 a4).wf = true → (Lit.int .u32 a5).wf = true → (Lit.int .u32 a6).wf = true → (Lit.int .u32 a7).wf = true → ∃ k, vmfleetlaw5_PagingMaps.f k l0 a1 l2 a3 a4 a5 a6 a7 a8 = some true
theorem vmfleetlaw5_PagingMaps.walk (P : vmfleetlaw5_PagingMaps.Pure) (a0 : Option Addr) (len0 cap0 : Nat) (z0 : List Int) (a1 : Bool) (a2 : Option Addr) (len2 cap2 : Nat) (z2 : List Int) (a3 : Int) (a4 : Int) (a5 : Int) (a6 : Int) (a7 : Int) (a8 : Bool) (w : World) (w0 : (a0 = none ∧ len0 = 0 ∧ cap0 = 0 ∧ z0 = []) ∨ ∃ x, a0 = some x ∧ len0 ≤ cap0 ∧ cap0 ≤ maxLen ∧ z0.length = cap0 ∧ (∀ i, i < z0.length → w.cell? (x.add i) = some (.int .u32 (z0.getD i 0))) ∧ ∀ n ∈ z0, (Lit.int .u32 n).wf = true) (y0 : len0 * 4 ≤ 140737488351232) (w2 : (a2 = none ∧ len2 = 0 ∧ cap2 = 0 ∧ z2 = []) ∨ ∃ x, a2 = some x ∧ len2 ≤ cap2 ∧ cap2 ≤ maxLen ∧ z2.length = cap2 ∧ (∀ i, i < z2.length → w.cell? (x.add i) = some (.int .i64 (z2.getD i 0))) ∧ ∀ n ∈ z2, (Lit.int .i64 n).wf = true) (y2 : len2 * 8 ≤ 140737488351232) (w3 : (Lit.int .i64 a3).wf = true) (w4 : (Lit.int .u32 a4).wf = true) (w5 : (Lit.int .u32 a5).wf = true) (w6 : (Lit.int .u32 a6).wf = true) (w7 : (Lit.int .u32 a7).wf = true) :
    Calls Try.prog 7 #[.slice a0 len0 cap0, .bool a1, .slice a2 len2 cap2, .int .i64 a3, .int .u32 a4, .int .u32 a5, .int .u32 a6, .int .u32 a7, .bool a8] w fun e w' => e = .returned (.bool true) ∧ Below w.heap.size w w' := by
  obtain ⟨l0, rfl, hr0, hm0, hw0, hc0⟩ := ReadsInt.ofRowC w0
  obtain ⟨l2, rfl, hr2, hm2, hw2, hc2⟩ := ReadsInt.ofRowC w2
  obtain ⟨k, h⟩ := P l0 a1 l2 a3 a4 a5 a6 a7 a8 hm0 y0 hw0 hm2 y2 hw2 w3 w4 w5 w6 w7
  refine (vmfleetlaw5_PagingMaps.calls k _ _ l0 a1 _ _ l2 a3 a4 a5 a6 a7 a8 true w (Kd.C_of_reads (d := (0 : Int)) (h1 := fun _ => rfl) hr0) hc0 (Kd.C_of_reads (d := (0 : Int)) (h1 := fun _ => rfl) hr2) hc2 h).mono ?_
  rintro e w' ⟨rfl, hd⟩
  exact ⟨rfl, hd⟩

end Go.Proofs.Ytbijkhoeaddemaa.HPagingMaps
