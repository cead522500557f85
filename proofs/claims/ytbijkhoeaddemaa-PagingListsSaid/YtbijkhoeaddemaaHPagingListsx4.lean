-- Written for this claim by wip/hook.py, by means of the kit's print and of hand-proved contracts.
import Derived.Test.YtbijkhoeaddemaaHPagingListsx0
import Derived.Test.YtbijkhoeaddemaaHPagingListsx2
import Derived.Test.YtbijkhoeaddemaaHPagingListsx3
namespace Go.Proofs.Ytbijkhoeaddemaa.HPagingLists
open Go.RowKit Go.Proofs.YtbijkhoeaddemaaW.PrintWords Go.Proofs.YtbijkhoeaddemaaW.PrintLast Go.Proofs.YtbijkhoeaddemaaW.PrintMore
attribute [local go_sem] max2_int min2_int max_two min_two max_three min_three max_four min_four   -- for this text's walks alone
attribute [local go_sem] Instr.field asAgg
set_option linter.unusedVariables false
set_option linter.unusedSimpArgs false

/-! ### paging_List: function 20 -/
attribute [local go_sem] Oper.semAt_some
/-- The entry of page p, if it is valid. -/
def paging_List.ent (l0 : List Int) (a1 : Int) (p : Nat) : Option (Option S46) :=
  (paging_Entry.f a1 (p : Int)).bind fun t => (memory_Load.f l0 t 4).bind fun b => if b.2 = true then (if Go.bits .and .u32 b.1 1 = 0 then some none else (paging_Frame.f b.1).bind fun fr => (bits_Field.f b.1 0 5).bind fun fl => some (some ⟨(p : Int), fr, fl⟩)) else some none
/-- The valid entries of the first k pages. -/
def paging_List.ents (l0 : List Int) (a1 : Int) (k : Nat) : List S46 := (List.range k).filterMap fun p => (paging_List.ent l0 a1 p).getD none
theorem paging_List.ents_none {l0 : List Int} {a1 : Int} {k : Nat} (h : paging_List.ent l0 a1 k = some none) : paging_List.ents l0 a1 (k + 1) = paging_List.ents l0 a1 k := by
  unfold paging_List.ents; rw [List.range_succ, List.filterMap_append]; simp [h]
theorem paging_List.ents_some {l0 : List Int} {a1 : Int} {k : Nat} {x : S46} (h : paging_List.ent l0 a1 k = some (some x)) : paging_List.ents l0 a1 (k + 1) = paging_List.ents l0 a1 k ++ [x] := by
  unfold paging_List.ents; rw [List.range_succ, List.filterMap_append]; simp [h]
theorem paging_List.ents_pre (l0 : List Int) (a1 : Int) {j k : Nat} (h : j ≤ k) : paging_List.ents l0 a1 j <+: paging_List.ents l0 a1 k := by
  unfold paging_List.ents
  refine ⟨((List.range k).drop j).filterMap fun p => (paging_List.ent l0 a1 p).getD none, ?_⟩
  rw [← List.filterMap_append]
  congr 1
  have : (List.range k).take j = List.range j := by rw [List.take_range]; congr 1; omega
  rw [← this, List.take_append_drop]
def paging_List.enc (x : S46) : Value := .agg #[.int .u32 x.f0, .int .u32 x.f1, .int .u32 x.f2]
theorem grown_drew (w : World) (n : Nat) (row : Option Nat) : w.grownBy (w.drewN n) row := ⟨rfl, rfl, rfl, Nat.le_refl _, fun _ _ _ => rfl⟩
/-- What a round keeps: what lay ahead of the call, and the two variables that the iterator reads. -/
def paging_List.Kp (n₀ B1 B2 : Nat) (A B : World) : Prop := Below n₀ A B ∧ B.heap[B1]? = A.heap[B1]? ∧ B.heap[B2]? = A.heap[B2]?
theorem paging_List.Kp.trans {n₀ B1 B2 : Nat} {A B C : World} (h : paging_List.Kp n₀ B1 B2 A B) (g : paging_List.Kp n₀ B1 B2 B C) : paging_List.Kp n₀ B1 B2 A C := ⟨h.1.trans g.1, g.2.1.trans h.2.1, g.2.2.trans h.2.2⟩
theorem paging_List.cell_at {A B : World} {b : Nat} (h : B.heap[b]? = A.heap[b]?) : B.cell? ⟨b, 0, none⟩ = A.cell? ⟨b, 0, none⟩ := by unfold World.cell?; simp only [h]
set_option maxRecDepth 100000 in
set_option maxHeartbeats 4000000 in
theorem paging_List.iter_in (n : Nat) (hn : 3 ≤ n) (l B1 B2 n₀ : Nat) (A0 : Option Addr) (c0 : Nat) (l0 : List Int) (a1 : Int) (J Jx : List S46 → World → Prop)
    (hall : ∀ p, p < 32 → (paging_List.ent l0 a1 p).isSome = true)
    (w0 W : World) (hJ : AbidesFrom W.heap.size J) (hJx : AbidesFrom W.heap.size Jx)
    (hY : ∀ pre x W, J pre W → pre.length < 32 → YieldAt Fence.wide (n - 1) Try.prog l #[paging_List.enc x] W fun e W' =>
      (e = .returned (.bool true) ∧ J (pre ++ [x]) W' ∧ paging_List.Kp n₀ B1 B2 W W') ∨ (e = .returned (.bool false) ∧ Jx (pre ++ [x]) W'))
    (h1 : W.cell? ⟨B1, 0, none⟩ = some (.slice A0 l0.length c0)) (h2 : W.cell? ⟨B2, 0, none⟩ = some (.int .u32 a1)) (hC : Kd.C (Kd.int .u32) w0 A0 l0.length l0) (hc0 : l0.length ≤ c0) (hn₀ : n₀ = w0.heap.size) (hB0 : Below n₀ w0 W) (h0 : J [] W) :
    CallsIn Fence.wide n Try.prog 38 #[.func (.yield l) #[] #[], .pointer (some ⟨B1, 0, none⟩), .pointer (some ⟨B2, 0, none⟩)] W fun e W' => (∃ v, e = .returned v) ∧
      ((∃ ys, ys = paging_List.ents l0 a1 32 ∧ J ys W') ∨ (∃ pre, pre <+: paging_List.ents l0 a1 32 ∧ Jx pre W')) := by
  refine callsIn_of_wp Try.func38 rfl trivial ?_ rfl
  simp only [Try.ntmps38, List.size_toArray, List.length_cons, List.length_nil, Nat.reduceAdd, Nat.reduceSub, Array.replicate_succ, Array.replicate_zero, List.push_toArray, List.append_toArray, List.nil_append, List.cons_append]
  gi_wp2
  gi_loopw [7] (fun p wr => ∃ k : Nat, k ≤ 32 ∧ p = .int .u32 (k : Int) ∧ J (paging_List.ents l0 a1 k) wr ∧ paging_List.Kp n₀ B1 B2 W wr)
    (fun p wr => 32 - (intOf p).toNat)
  case atStart =>
    exact ⟨0, by omega, rfl, h0, Below.refl _ _, rfl, rfl⟩
  case round =>
    obtain ⟨k, hk, rfl, hJs, hB⟩ := hrel
    have hJd : ∀ {s : List S46} {w w' : World}, Drawn0 w w' → J s w → J s w' := by
      rintro s w w' ⟨⟨m, rfl⟩⟩ h; exact hJ s w _ none h (grown_drew w m none) (fun r e => by cases e)
    have hBd : ∀ {w w' : World}, Drawn0 w w' → paging_List.Kp n₀ B1 B2 W w → paging_List.Kp n₀ B1 B2 W w' := by
      intro w w' hd h
      have hs := h.1.size
      have hs0 := hB0.size
      obtain ⟨⟨m, rfl⟩⟩ := hd
      exact ⟨h.1.trans ((Drawn0.below (w := w) (w' := w.drewN m) ⟨⟨m, rfl⟩⟩).mono (by omega)), h.2.1, h.2.2⟩
    subst hn₀
    have c1 := (paging_List.cell_at hB.2.1).trans h1
    have c2 := (paging_List.cell_at hB.2.2).trans h2
    by_cases hk32 : k = 32
    · subst hk32
      gi_wp2
      go_end0
      exact ⟨⟨_, rfl⟩, .inl ⟨_, rfl, hJs⟩⟩
    · have hlt : k < 32 := by omega
      have q1 : decide ((k : Int) < 32) = true := decide_eq_true (by omega)
      have hsome := hall k hlt
      obtain ⟨r, hr⟩ := Option.isSome_iff_exists.1 hsome
      have hr' := hr
      unfold paging_List.ent at hr'
      obtain ⟨t, A1, hr'⟩ := Option.bind_eq_some_iff.1 hr'
      obtain ⟨⟨wd, okb⟩, A2, hr'⟩ := Option.bind_eq_some_iff.1 hr'
      dsimp only at hr'
      cases okb with
      | false =>
        rw [if_neg (by decide)] at hr'
        obtain rfl := Option.some.inj hr'
        gi_wp2
        refine wpIn_region_quiet_lit rfl (by kernel_rfl) (by kernel_rfl) ?_
        repeat (refine wpQuietIn_step (by first | (go_simp; done) | (go_simp; exact True.intro)) (fun K hK => ?_); go_simp; first | (refine hK _ ?_; clear hK K) | (apply Exists.intro; refine ⟨fun _ => ?_, hK _ ?_⟩; (first | (refine ⟨fun _ => by omega, ?_⟩; gi_at_call 26; exact CallsIn.quiet_of ((callsIn_wide.2 (paging_Entry.calls a1 (k : Int) t _ A1)).mono (fun e w' h => ⟨h.1, h.2.out⟩))) | (refine ⟨fun _ => by omega, ?_⟩; gi_at_call 28; exact CallsIn.quiet_of ((callsIn_wide.2 (memory_Load.calls _ _ l0 t 4 wd false _ (Kd.C_below hC (hB0.trans (hBd ⟨⟨_, rfl⟩⟩ hB).1)) hc0 A2)).mono (fun e w' h => ⟨h.1, h.2.out⟩)))); clear hK K))
        refine wpQuietIn_nil ?_
        intro _ hw'
        obtain ⟨nq, hw''⟩ := hw'
        subst hw''
        have hJ3 := hJd (w' := wr.drewN nq) ⟨⟨nq, rfl⟩⟩ hJs
        have hB3 := hBd (w' := wr.drewN nq) ⟨⟨nq, rfl⟩⟩ hB
        gi_wp2
        refine ⟨trivial, ?_⟩
        gi_wp2
        refine ⟨trivial, ?_⟩
        gi_wp2
        refine ⟨fun _ h => (by cases h), ?_⟩
        gi_wp2
        go_roundw
        case rel => exact ⟨k + 1, by omega, by simp, by rw [paging_List.ents_none hr]; exact hJ3, hB3⟩
        case measure => simp only [intOf]; omega
      | true =>
        rw [if_pos rfl] at hr'
        gi_wp2
        refine wpIn_region_quiet_lit rfl (by kernel_rfl) (by kernel_rfl) ?_
        repeat (refine wpQuietIn_step (by first | (go_simp; done) | (go_simp; exact True.intro)) (fun K hK => ?_); go_simp; first | (refine hK _ ?_; clear hK K) | (apply Exists.intro; refine ⟨fun _ => ?_, hK _ ?_⟩; (first | (refine ⟨fun _ => by omega, ?_⟩; gi_at_call 26; exact CallsIn.quiet_of ((callsIn_wide.2 (paging_Entry.calls a1 (k : Int) t _ A1)).mono (fun e w' h => ⟨h.1, h.2.out⟩))) | (refine ⟨fun _ => by omega, ?_⟩; gi_at_call 28; exact CallsIn.quiet_of ((callsIn_wide.2 (memory_Load.calls _ _ l0 t 4 wd true _ (Kd.C_below hC (hB0.trans (hBd ⟨⟨_, rfl⟩⟩ hB).1)) hc0 A2)).mono (fun e w' h => ⟨h.1, h.2.out⟩)))); clear hK K))
        refine wpQuietIn_nil ?_
        intro _ hw'
        obtain ⟨nq, hw''⟩ := hw'
        subst hw''
        have hJ3 := hJd (w' := wr.drewN nq) ⟨⟨nq, rfl⟩⟩ hJs
        have hB3 := hBd (w' := wr.drewN nq) ⟨⟨nq, rfl⟩⟩ hB
        by_cases hz : Go.bits .and .u32 wd 1 = 0
        · rw [if_pos hz] at hr'
          obtain rfl := Option.some.inj hr'
          have z1 : (Go.bits .and .u32 wd 1 != 0) = false := by rw [hz]; rfl
          gi_wp2
          refine ⟨trivial, ?_⟩
          gi_wp2
          refine ⟨trivial, ?_⟩
          gi_wp2
          refine ⟨fun _ h => (by cases h), ?_⟩
          gi_wp2
          go_roundw
          case rel => exact ⟨k + 1, by omega, by simp, by rw [paging_List.ents_none hr]; exact hJ3, hB3⟩
          case measure => simp only [intOf]; omega
        · rw [if_neg hz] at hr'
          have z1 : (Go.bits .and .u32 wd 1 != 0) = true := bne_iff_ne.2 hz
          obtain ⟨fr, A3, hr'⟩ := Option.bind_eq_some_iff.1 hr'
          obtain ⟨fl, A4, hr'⟩ := Option.bind_eq_some_iff.1 hr'
          obtain rfl := Option.some.inj hr'
          have hlen : (paging_List.ents l0 a1 k).length < 32 := by
            have : (paging_List.ents l0 a1 k).length ≤ (List.range k).length := List.length_filterMap_le _ _
            rw [List.length_range] at this; omega
          gi_wp2
          refine ⟨trivial, fun _ => by omega, ?_⟩
          refine (callsIn_wide.2 (paging_Frame.calls wd fr _ A3)).mono ?_
          rintro e w5 ⟨rfl, hd5⟩
          have hJ5 := hJd hd5 hJ3
          have hB5 := hBd hd5 hB3
          gi_wp2
          refine ⟨trivial, fun _ => by omega, ?_⟩
          refine (callsIn_wide.2 (bits_Field.calls wd 0 5 fl _ A4)).mono ?_
          rintro e w6 ⟨rfl, hd6⟩
          have hJ6 := hJd hd6 hJ5
          have hB6 := hBd hd6 hB5
          obtain ⟨fn, tmps, assign, body, hy, hR⟩ := hY (paging_List.ents l0 a1 k) ⟨(k : Int), fr, fl⟩ w6 hJ6 hlen
          unfold paging_List.enc at hy
          dsimp only at hy
          gi_wp2
          refine ⟨fun _ => by omega, hR.mono ?_⟩
          rintro e w7 (⟨rfl, hJ7, hk7⟩ | ⟨rfl, hJx7⟩)
          · gi_wp2
            go_roundw
            case rel => exact ⟨k + 1, by omega, by simp, by rw [paging_List.ents_some hr]; exact hJ7, hB6.trans hk7⟩
            case measure => simp only [intOf]; omega
          · gi_wp2
            refine bodyPost_ret (results_none rfl _ _ _) rfl ?_
            exact ⟨⟨_, rfl⟩, .inr ⟨_, by rw [← paging_List.ents_some hr]; exact paging_List.ents_pre l0 a1 (by omega), hJx7⟩⟩
set_option maxHeartbeats 1000000 in
theorem paging_List.entries_in (n : Nat) (A0 : Option Addr) (c0 : Nat) (l0 : List Int) (a1 : Int) (w : World) :
    CallsIn Fence.wide n Try.prog 31 #[.slice A0 l0.length c0, .int .u32 a1] w fun e w' => e = .returned (.func (.func 38) #[] #[.pointer (some ⟨w.heap.size, 0, none⟩), .pointer (some ⟨w.heap.size + 1, 0, none⟩)]) ∧ w' = (w.alloc (.cells #[.slice A0 l0.length c0] 24)).alloc (.cells #[.int .u32 a1] 23) := by
  refine callsIn_of_wp Try.func31 rfl trivial ?_ rfl
  simp only [Try.ntmps31, List.size_toArray, List.length_cons, List.length_nil, Nat.reduceAdd, Nat.reduceSub, Array.replicate_succ, Array.replicate_zero, List.push_toArray, List.append_toArray, List.nil_append, List.cons_append]
  gi_wp2
  go_ret
  exact ⟨by simp, rfl⟩
theorem paging_List.stops (n : Nat) (hn : 3 ≤ n) (B1 B2 : Nat) (A0 : Option Addr) (c0 : Nat) (l0 : List Int) (a1 : Int) (hall : ∀ p, p < 32 → (paging_List.ent l0 a1 p).isSome = true) (w0 w : World)
    (h1 : w.cell? ⟨B1, 0, none⟩ = some (.slice A0 l0.length c0)) (h2 : w.cell? ⟨B2, 0, none⟩ = some (.int .u32 a1)) (hb1 : B1 < w.heap.size) (hb2 : B2 < w.heap.size) (hC : Kd.C (Kd.int .u32) w0 A0 l0.length l0) (hc0 : l0.length ≤ c0) (hB0 : Below w0.heap.size w0 w) :
    SeqStopsK Fence.wide n Try.prog 38 #[.pointer (some ⟨B1, 0, none⟩), .pointer (some ⟨B2, 0, none⟩)] (fun x : S46 => #[paging_List.enc x]) (paging_List.Kp w0.heap.size B1 B2) (fun ys => ys = paging_List.ents l0 a1 32) (fun pre => pre <+: paging_List.ents l0 a1 32) 32 w := fun l J Jx W hW hJ hJx hY h0 =>
  paging_List.iter_in n hn l B1 B2 w0.heap.size A0 c0 l0 a1 J Jx hall w0 W hJ hJx hY ((hW.cell (p := ⟨B1, 0, none⟩) hb1).trans h1) ((hW.cell (p := ⟨B2, 0, none⟩) hb2).trans h2) hC hc0 rfl (hB0.trans (hW.mono hB0.size)) h0
/-- A variable of three cells. -/
def paging_List.Box3 (W : World) (B : Nat) (x : S46) : Prop := W.heap[B]? = some (.cells #[.int .u32 x.f0, .int .u32 x.f1, .int .u32 x.f2] 46 (0, 0))
theorem paging_List.box3_own (B : Nat) (x : S46) : Own (fun (_ : Unit) W => paging_List.Box3 W B x) := by
  intro s X Y row h hg hrow
  have hlt := (Array.getElem?_eq_some_iff.1 h).1
  exact (hg.block B hlt (fun e' => by obtain ⟨o, ho, hc⟩ := hrow B e'.symm; rw [show X.heap[B]? = _ from h] at ho; cases ho; cases hc)).trans h
theorem paging_List.cell3_new (w : World) (a b c : Value) (t : TypeId) : ∀ j u, [a, b, c][j]? = some u → (w.alloc (.cells #[a, b, c] t)).cell? ((⟨w.heap.size, 0, none⟩ : Addr).add j) = some u := by
  intro j u hj
  have hn := World.alloc_heap_new w (.cells #[a, b, c] t)
  have hj3 : j = 0 ∨ j = 1 ∨ j = 2 := by
    have := (List.getElem?_eq_some_iff.1 hj).1
    simp at this; omega
  have ha : (⟨w.heap.size, 0, none⟩ : Addr).add j = ⟨w.heap.size, j, none⟩ := by unfold Addr.add; split <;> simp_all
  rw [ha]
  unfold World.cell?
  simp only [hn]
  rcases hj3 with rfl | rfl | rfl <;> simpa using hj
/-- The cells of the entries. -/
def paging_List.cells (xs : List S46) : List Value := xs.flatMap fun x => [.int .u32 x.f0, .int .u32 x.f1, .int .u32 x.f2]
set_option maxRecDepth 100000 in
set_option maxHeartbeats 4000000 in
theorem paging_List.List_in (n : Nat) (hn : 6 ≤ n) (A0 : Option Addr) (c0 : Nat) (l0 : List Int) (a1 : Int) (hall : ∀ p, p < 32 → (paging_List.ent l0 a1 p).isSome = true) (w : World) (hC : Kd.C (Kd.int .u32) w A0 l0.length l0) (hc0 : l0.length ≤ c0) (hp : paging_page.f l0 a1 = some true) :
    CallsIn Fence.wide n Try.prog 20 #[.slice A0 l0.length c0, .int .u32 a1] w fun e W' => ∃ v, e = .returned v ∧ W'.ownsRow w.heap.size 46 3 v (paging_List.ents l0 a1 32).length (paging_List.cells (paging_List.ents l0 a1 32)) ∧ Below w.heap.size w W' := by
  have h1 : 1 ≤ n := by omega
  obtain ⟨i0, hi, hz0, hz1, hz2⟩ := info_parts info46
  refine callsIn_of_wp_marks Try.func20 rfl trivial ?_ rfl
  simp only [Try.ntmps20, List.size_toArray, List.length_cons, List.length_nil, Nat.reduceAdd, Nat.reduceSub, Array.replicate_succ, Array.replicate_zero, List.push_toArray, List.append_toArray, List.nil_append, List.cons_append]
  gi_wp2
  refine ⟨trivial, ?_⟩
  refine (callsIn_wide.2 (paging_page.calls _ _ l0 a1 true _ hC hc0 hp)).mono ?_
  rintro e w1 ⟨rfl, ⟨⟨m1, rfl⟩⟩⟩
  gi_wp2
  refine ⟨trivial, ?_⟩
  refine (paging_List.entries_in (n - 1) A0 c0 l0 a1 _).mono ?_
  rintro e w' ⟨rfl, rfl⟩
  gi_wp2
  have hB0 : Below w.heap.size w ((((w.drewN m1).alloc (.cells #[.slice none 0 0] 42)).alloc (.cells #[.slice A0 l0.length c0] 24)).alloc (.cells #[.int .u32 a1] 23)) :=
    (((((Drawn0.below (w := w) (w' := w.drewN m1) ⟨⟨m1, rfl⟩⟩)).alloc (Nat.le_refl _) _).alloc (by simp) _).alloc (by simp; omega) _)
  have bO : Boxed ((((w.drewN m1).alloc (.cells #[.slice none 0 0] 42)).alloc (.cells #[.slice A0 l0.length c0] 24)).alloc (.cells #[.int .u32 a1] 23)) w.heap.size 42 (.slice none 0 0) := ((Boxed.new (w.drewN m1) 42 (.slice none 0 0)).alloc _).alloc _
  have bM : Boxed ((((w.drewN m1).alloc (.cells #[.slice none 0 0] 42)).alloc (.cells #[.slice A0 l0.length c0] 24)).alloc (.cells #[.int .u32 a1] 23)) (w.heap.size + 1) 24 (.slice A0 l0.length c0) := by
    have := (Boxed.new ((w.drewN m1).alloc (.cells #[.slice none 0 0] 42)) 24 (.slice A0 l0.length c0)).alloc (.cells #[.int .u32 a1] 23)
    rw [World.size_alloc] at this; exact this
  have bR : Boxed ((((w.drewN m1).alloc (.cells #[.slice none 0 0] 42)).alloc (.cells #[.slice A0 l0.length c0] 24)).alloc (.cells #[.int .u32 a1] 23)) (w.heap.size + 1 + 1) 23 (.int .u32 a1) := by
    have := Boxed.new (((w.drewN m1).alloc (.cells #[.slice none 0 0] 42)).alloc (.cells #[.slice A0 l0.length c0] 24)) 23 (.int .u32 a1)
    rw [World.size_alloc, World.size_alloc] at this; exact this
  obtain ⟨W0, hW0⟩ : ∃ W0, ((((w.drewN m1).alloc (.cells #[.slice none 0 0] 42)).alloc (.cells #[.slice A0 l0.length c0] 24)).alloc (.cells #[.int .u32 a1] 23)) = W0 := ⟨_, rfl⟩
  rw [hW0] at hB0 bO bM bR ⊢
  clear hW0
  have hsz := bR.lt
  refine wpIn_rangeFunc_ownH rfl h1 (gf := 38) (lb := #[.pointer (some ⟨w.heap.size + 1, 0, none⟩), .pointer (some ⟨w.heap.size + 1 + 1, 0, none⟩)]) rfl trivial (enters_of Try.func38 (by kernel_rfl) rfl)
    (paging_List.stops (n - 1) (by omega) (w.heap.size + 1) (w.heap.size + 1 + 1) A0 c0 l0 a1 hall w W0 bM.cell bR.cell bM.lt bR.lt hC hc0 hB0) paging_List.Kp.trans
    (fun W l o o' hl h2 h3 h4 => ⟨belowK_b (by omega) W l o o' hl h2 h3 h4, World.putObj_heap_other (by omega), World.putObj_heap_other (by omega)⟩) (Below.refl _ _) (fun _ => rfl)
    (fun pre W => ((∃ v, Boxed W w.heap.size 42 v ∧ W.ownsRow w.heap.size 46 3 v pre.length (paging_List.cells pre) ∧ True) ∧ (Boxed W (w.heap.size + 1) 24 (.slice A0 l0.length c0) ∧ Boxed W (w.heap.size + 1 + 1) 23 (.int .u32 a1))) ∧ Below w.heap.size w W)
    (fun _ _ _ => False)
    (OwnFrom.and (OwnFrom.and (Own.from (holdsRow_own w.heap.size w.heap.size 42 46 3 (fun pre : List S46 => pre.length) (fun pre => paging_List.cells pre) (fun _ _ => True)) _) (OwnFrom.and (Own.from (boxed_own _ _ _) _) (Own.from (boxed_own _ _ _) _))) (ownFrom_below (Nat.le_refl _) (by omega)))
    (fun _ _ _ _ _ hs _ _ => hs)
    ⟨⟨⟨_, bO, World.ownsRow_nil _ _ _ _, trivial⟩, bM, bR⟩, hB0⟩
    (fun x a' W => ∃ Bx, w.heap.size + 1 + 1 < Bx ∧ paging_List.Box3 W Bx x ∧ a' = { tmps := #[.slice A0 l0.length c0, .int .u32 a1, undef, undef, .slice none 0 0, .pointer (some ⟨w.heap.size, 0, none⟩), .pointer (some ⟨Bx, 0, none⟩), .slice A0 l0.length c0, .int .u32 a1, .bool true, .bool false, .slice A0 l0.length c0, .int .u32 a1, .func (.func 38) #[] #[.pointer (some ⟨w.heap.size + 1, 0, none⟩), .pointer (some ⟨w.heap.size + 1 + 1, 0, none⟩)], paging_List.enc x, undef, undef, undef, undef, undef], defers := [] })
    (fun x a' _ X Y row hs hg hr => by obtain ⟨Bx, h1, h2, h3⟩ := hs; exact ⟨Bx, h1, paging_List.box3_own Bx x () X Y row h2 hg (fun r e => (hr r e).2), h3⟩)
    ?assign ?body ?done ?stop
  case assign =>
    rintro l pre x W K ⟨⟨⟨v, bO1, hrow, _⟩, bM1, bR1⟩, hB1⟩ hK
    unfold paging_List.enc
    gi_wp2
    exact hK _ _ ((KeepsOthers.alloc _ _).from _) ⟨(Below.refl _ W).alloc hB1.size _, Below.heap_alloc W _ _ bM1.lt, Below.heap_alloc W _ _ bR1.lt⟩
      ⟨⟨⟨v, bO1.alloc _, hrow.alloc _, trivial⟩, bM1.alloc _, bR1.alloc _⟩, hB1.alloc hB1.size _⟩ ⟨W.heap.size, bR1.lt, World.alloc_heap_new W _, rfl⟩
  case body =>
    rintro l pre x a' W hl ⟨r, hr⟩ ⟨⟨⟨v, bO1, hrow, _⟩, bM1, bR1⟩, hB1⟩ ⟨Bx, hBx, bX, rfl⟩ hlt
    have hc := bO1.cell
    have x0 : W.cell? ⟨Bx, 0, none⟩ = some (.int .u32 x.f0) := by unfold World.cell?; simp only [show W.heap[Bx]? = _ from bX]; rfl
    have x1 : W.cell? ⟨Bx, 1, none⟩ = some (.int .u32 x.f1) := by unfold World.cell?; simp only [show W.heap[Bx]? = _ from bX]; rfl
    have x2 : W.cell? ⟨Bx, 2, none⟩ = some (.int .u32 x.f2) := by unfold World.cell?; simp only [show W.heap[Bx]? = _ from bX]; rfl
    gi_wp2_with (gi_at_builtin; refine wpListIn_append_own _ rfl _ _ 42 rfl w.heap.size 46 i0 (.agg #[.int .u32 0, .int .u32 0, .int .u32 0]) 3 12 Try.underlying42 hi hz0 hz1 hz2 rfl (by decide) _ _ _ rfl (hrow.alloc _) ⟨W.heap.size, 0, none⟩ 1 1 [.int .u32 x.f0, .int .u32 x.f1, .int .u32 x.f2] rfl rfl (paging_List.cell3_new _ _ _ _ _) (by simp [Value.oneCell']) (by unfold maxLen; omega) (by omega) (by have := hB1.size; simp; omega) ?_; intro v' w1 hown' hgrow _; obtain ⟨g', cap', rfl⟩ := ownsRow_succ hown'; obtain ⟨hv1, hv2, hr2, hk2, hb2⟩ := bO1.appended (by decide) hrow hB1.size (Nat.le_refl _) hown' hgrow; have hM2 := ((bM1.alloc _).kept hgrow (bM1.not_row (by decide) hrow)).other (B' := w.heap.size) (by omega) (.slice (some ⟨g', 0, none⟩) (pre.length + 1) cap'); have hR2 := ((bR1.alloc _).kept hgrow (bR1.not_row (by decide) hrow)).other (B' := w.heap.size) (by omega) (.slice (some ⟨g', 0, none⟩) (pre.length + 1) cap'); have hc1 := hv1.cell; have hf1 := hv1.frozen)
    exact ⟨hk2.from _, ⟨hb2, (show _ = _ from hM2).trans (show _ = _ from bM1).symm, (show _ = _ from hR2).trans (show _ = _ from bR1).symm⟩, ⟨⟨_, hv2, by unfold paging_List.cells at hr2 ⊢; simpa using hr2, trivial⟩, hM2, hR2⟩, hB1.trans hb2⟩
  case done =>
    rintro D zs W hD rfl ⟨⟨⟨v, bO1, hrow, _⟩, bM1, bR1⟩, hB1⟩ hK
    have cS := bO1.cell
    gi_wp2
    refine ⟨by simp, .inl ⟨_, _, rfl, run_takeDeferred hK, ?_⟩⟩
    exact ⟨_, results_tmp rfl _ _ _, v, rfl, ownsRow_putObj hrow _ hK rfl, hB1.trans (belowK_b (w := w) (Nat.le_refl _) W D _ _ (by omega) hK rfl rfl)⟩
  case stop =>
    rintro D c pre W _ _ h _
    exact h.elim
theorem paging_List.cells_at (xs : List S46) : ∀ (j : Nat) (p : S46), xs[j]? = some p → ((paging_List.cells xs).drop (j * 3)).take 3 = [.int .u32 p.f0, .int .u32 p.f1, .int .u32 p.f2] := by
  induction xs with
  | nil => intro j p h; simp at h
  | cons x xs ih =>
    intro j p h
    have hc : paging_List.cells (x :: xs) = [.int .u32 x.f0, .int .u32 x.f1, .int .u32 x.f2] ++ paging_List.cells xs := rfl
    cases j with
    | zero =>
      obtain rfl : x = p := by simpa using h
      rw [hc]; rfl
    | succ j =>
      have hx : xs[j]? = some p := by simpa using h
      have := ih j p hx
      have e : (j + 1) * 3 = 3 + j * 3 := by omega
      rw [hc, e, ← List.drop_drop]
      exact this
theorem paging_List.cells_len (xs : List S46) : (paging_List.cells xs).length = xs.length * 3 := by
  induction xs with
  | nil => rfl
  | cons x xs ih =>
    have hc : paging_List.cells (x :: xs) = [.int .u32 x.f0, .int .u32 x.f1, .int .u32 x.f2] ++ paging_List.cells xs := rfl
    rw [hc, List.length_append, ih, List.length_cons]
    show 3 + xs.length * 3 = (xs.length + 1) * 3
    omega
def paging_List.f (l0 : List Int) (a1 : Int) : Option (List S46) := (paging_page.f l0 a1).bind fun t => if t = true then (if (List.range 32).all (fun p => (paging_List.ent l0 a1 p).isSome) = true then some (paging_List.ents l0 a1 32) else none) else some ([] : List S46)
set_option maxHeartbeats 4000000 in
set_option maxRecDepth 100000 in
theorem paging_List.calls (A0 : Option Addr) (c0 : Nat) (l0 : List Int) (a1 : Int) (r : List (S46)) (w : World) (hr0 : Kd.C (Kd.int .u32) w A0 l0.length l0) (hc0 : l0.length ≤ c0) (h : paging_List.f l0 a1 = some r) :
    Calls Try.prog 20 #[.slice A0 l0.length c0, .int .u32 a1] w fun e w' => ∃ v0_ : Value, e = .returned (v0_) ∧ Kd.R k46 46 w' w.heap.size (fun _ => True) v0_ r ∧ Below w.heap.size w w' := by
  unfold paging_List.f at h
  obtain ⟨t, A1, h⟩ := Option.bind_eq_some_iff.1 h
  cases t with
  | true =>
    rw [if_pos rfl] at h
    by_cases hall : (List.range 32).all (fun p => (paging_List.ent l0 a1 p).isSome) = true
    · rw [if_pos hall] at h
      obtain rfl := Option.some.inj h
      have hall' : ∀ p, p < 32 → (paging_List.ent l0 a1 p).isSome = true := fun p hp => List.all_eq_true.1 hall p (by simpa using hp)
      refine (callsIn_wide.1 (paging_List.List_in 6 (by omega) A0 c0 l0 a1 hall' w hr0 hc0 A1)).mono ?_
      rintro e w' ⟨v, rfl, hown, hb⟩
      refine ⟨v, rfl, ⟨fun _ _ => trivial, paging_List.cells (paging_List.ents l0 a1 32), hown, paging_List.cells_len _, fun j p hp => ?_⟩, hb⟩
      show k46.M _ _ _ p (((paging_List.cells (paging_List.ents l0 a1 32)).drop (j * 3)).take 3)
      rw [paging_List.cells_at _ j p hp]
      exact k46_mkM _ _ _ p
    · rw [if_neg hall] at h
      exact absurd h (by simp)
  | false =>
    rw [if_neg (by decide)] at h
    obtain rfl := Option.some.inj h
    have HR0 := Aside0.mk hr0
    have HC0 := Aside0.mk hc0
    have HB := Aside0.mk (Below.refl w.heap.size w)
    have A1' := Aside0.mk A1
    clear hr0 hc0 A1 h
    go_enter Try.func20, Try.ntmps20
    go_wp2_with (first | (go_at_call 24; (with_reducible refine (paging_page.calls _ _ l0 a1 false _ ?side1 ?side2 A1'.out).mono ?_); (case side1 => repeat (first | exact HR0.out | (with_reducible refine Kd.C_alloc ?_ _) | (with_reducible refine Kd.C_drewN ?_ _) | (with_reducible refine Kd.C_drew ?_))); (case side2 => exact HC0.out); rintro e w' ⟨rfl, ⟨nd, rfl⟩⟩))
    go_ret
    exact ⟨_, rfl, Kd.R_nil _ _ _ _ _, by repeat (first | (with_reducible first | exact HB.out | apply below_alloc | apply pw_below_drewN | apply below_drew1) | exact HB.out)⟩

/-! ### vmfleetlaw5_PagingLists: function 8 -/
mutual
def vmfleetlaw5_PagingLists.l0 : Nat → Int → List Int → Int → List (S46) → Int → Int → Option (Bool)
  | 0, _, _, _, _, _, _ => none
  | k + 1, x2, x7, x8, x9, x10, x11 => if x11 < 32 then ((paging_Walk.f k x7 x2 ((128 * x11) % 4294967296) 2).bind fun bt167 => (if x10 < (x9.length : Int) then (if 0 ≤ x10 then (vmfleetlaw5_PagingLists.j1 k x2 x7 x8 x9 x10 x11 (((rd_T46 x9 x10).f0) == x11) bt167.1 bt167.2.1 bt167.2.2) else (none)) else (vmfleetlaw5_PagingLists.j1 k x2 x7 x8 x9 x10 x11 false bt167.1 bt167.2.1 bt167.2.2))) else (if x10 = (x9.length : Int) then ((vmfleetlaw5_awake.f k).bind fun t166 => (some t166)) else (some false))
def vmfleetlaw5_PagingLists.j1 : Nat → Int → List Int → Int → List (S46) → Int → Int → Bool → Int → Int → Int → Option (Bool)
  | 0, _, _, _, _, _, _, _, _, _, _ => none
  | k + 1, x2, x7, x8, x9, x10, x11, x46, x171000, x171001, x171002 => if x46 = true then (if 0 ≤ x10 then (if x10 < (x9.length : Int) then (if ((x171002 == 0) != (decide (((rd_T46 x9 x10).f1) < x8))) = true then (vmfleetlaw5_PagingLists.j2 k x2 x7 x8 x9 x10 x11 true) else (if ((rd_T46 x9 x10).f1) < x8 then (vmfleetlaw5_PagingLists.j2 k x2 x7 x8 x9 x10 x11 (x171000 != ((128 * ((rd_T46 x9 x10).f1)) % 4294967296))) else (vmfleetlaw5_PagingLists.j2 k x2 x7 x8 x9 x10 x11 false))) else (none)) else (none)) else (if x171002 = 0 then (some false) else (vmfleetlaw5_PagingLists.l0 k x2 x7 x8 x9 x10 ((x11 + 1) % 4294967296)))
def vmfleetlaw5_PagingLists.j2 : Nat → Int → List Int → Int → List (S46) → Int → Int → Bool → Option (Bool)
  | 0, _, _, _, _, _, _, _ => none
  | k + 1, x2, x7, x8, x9, x10, x11, x77 => if x77 = true then (some false) else (vmfleetlaw5_PagingLists.l0 k x2 x7 x8 x9 (wrap64 (x10 + 1)) ((x11 + 1) % 4294967296))
end
def vmfleetlaw5_PagingLists.f (k : Nat) (l0 : List Int) (a1 : Int) (a2 : Int) : Option (Bool) := (vmfleetlaw5_tables.f k l0 a1).bind fun t159 => ((vmfleetref1_Pages.f t159).bind fun t162 => (if ((t162) % 4294967296) = 0 then (none) else ((paging_List.f t159 (Int.tmod a2 ((t162) % 4294967296))).bind fun t163 => (vmfleetlaw5_PagingLists.l0 k (Int.tmod a2 ((t162) % 4294967296)) t159 ((t162) % 4294967296) t163 0 0))))
theorem vmfleetlaw5_PagingLists.mono_l : ∀ k, (∀ y0 y1 y2 y3 y4 y5, LeO (vmfleetlaw5_PagingLists.l0 k y0 y1 y2 y3 y4 y5) (vmfleetlaw5_PagingLists.l0 (k + 1) y0 y1 y2 y3 y4 y5)) ∧ (∀ y0 y1 y2 y3 y4 y5 y6 y7 y8 y9, LeO (vmfleetlaw5_PagingLists.j1 k y0 y1 y2 y3 y4 y5 y6 y7 y8 y9) (vmfleetlaw5_PagingLists.j1 (k + 1) y0 y1 y2 y3 y4 y5 y6 y7 y8 y9)) ∧ (∀ y0 y1 y2 y3 y4 y5 y6, LeO (vmfleetlaw5_PagingLists.j2 k y0 y1 y2 y3 y4 y5 y6) (vmfleetlaw5_PagingLists.j2 (k + 1) y0 y1 y2 y3 y4 y5 y6))
  | 0 => ⟨fun _ _ _ _ _ _ r h => by simp [vmfleetlaw5_PagingLists.l0] at h, fun _ _ _ _ _ _ _ _ _ _ r h => by simp [vmfleetlaw5_PagingLists.j1] at h, fun _ _ _ _ _ _ _ r h => by simp [vmfleetlaw5_PagingLists.j2] at h⟩
  | k + 1 => by
    obtain ⟨ih0, ih1, ih2⟩ := vmfleetlaw5_PagingLists.mono_l k
    refine ⟨?_, ?_, ?_⟩
    · intro y0 y1 y2 y3 y4 y5
      unfold vmfleetlaw5_PagingLists.l0
      repeat' first
      | (with_reducible exact ih0 _ _ _ _ _ _)
      | (with_reducible exact ih1 _ _ _ _ _ _ _ _ _ _)
      | (with_reducible exact ih2 _ _ _ _ _ _ _)
      | (with_reducible exact paging_Walk.mono _ _ _ _ _)
      | (with_reducible exact vmfleetlaw5_awake.mono _)
      | (with_reducible exact vmfleetlaw5_tables.mono _ _ _)
      | (with_reducible exact LeO.refl _)
      | (with_reducible exact LeO.none _)
      | (with_reducible refine LeO.ite ?_ ?_)
      | (with_reducible refine LeO.bind ?_ (fun _ => ?_))
      | exact ih0 _ _ _ _ _ _
      | exact ih1 _ _ _ _ _ _ _ _ _ _
      | exact ih2 _ _ _ _ _ _ _
      | exact paging_Walk.mono _ _ _ _ _
      | exact vmfleetlaw5_awake.mono _
      | exact vmfleetlaw5_tables.mono _ _ _
      | exact LeO.none _
      | refine LeO.ite ?_ ?_
      | refine LeO.bind ?_ (fun _ => ?_)
    · intro y0 y1 y2 y3 y4 y5 y6 y7 y8 y9
      unfold vmfleetlaw5_PagingLists.j1
      repeat' first
      | (with_reducible exact ih0 _ _ _ _ _ _)
      | (with_reducible exact ih1 _ _ _ _ _ _ _ _ _ _)
      | (with_reducible exact ih2 _ _ _ _ _ _ _)
      | (with_reducible exact paging_Walk.mono _ _ _ _ _)
      | (with_reducible exact vmfleetlaw5_awake.mono _)
      | (with_reducible exact vmfleetlaw5_tables.mono _ _ _)
      | (with_reducible exact LeO.refl _)
      | (with_reducible exact LeO.none _)
      | (with_reducible refine LeO.ite ?_ ?_)
      | (with_reducible refine LeO.bind ?_ (fun _ => ?_))
      | exact ih0 _ _ _ _ _ _
      | exact ih1 _ _ _ _ _ _ _ _ _ _
      | exact ih2 _ _ _ _ _ _ _
      | exact paging_Walk.mono _ _ _ _ _
      | exact vmfleetlaw5_awake.mono _
      | exact vmfleetlaw5_tables.mono _ _ _
      | exact LeO.none _
      | refine LeO.ite ?_ ?_
      | refine LeO.bind ?_ (fun _ => ?_)
    · intro y0 y1 y2 y3 y4 y5 y6
      unfold vmfleetlaw5_PagingLists.j2
      repeat' first
      | (with_reducible exact ih0 _ _ _ _ _ _)
      | (with_reducible exact ih1 _ _ _ _ _ _ _ _ _ _)
      | (with_reducible exact ih2 _ _ _ _ _ _ _)
      | (with_reducible exact paging_Walk.mono _ _ _ _ _)
      | (with_reducible exact vmfleetlaw5_awake.mono _)
      | (with_reducible exact vmfleetlaw5_tables.mono _ _ _)
      | (with_reducible exact LeO.refl _)
      | (with_reducible exact LeO.none _)
      | (with_reducible refine LeO.ite ?_ ?_)
      | (with_reducible refine LeO.bind ?_ (fun _ => ?_))
      | exact ih0 _ _ _ _ _ _
      | exact ih1 _ _ _ _ _ _ _ _ _ _
      | exact ih2 _ _ _ _ _ _ _
      | exact paging_Walk.mono _ _ _ _ _
      | exact vmfleetlaw5_awake.mono _
      | exact vmfleetlaw5_tables.mono _ _ _
      | exact LeO.none _
      | refine LeO.ite ?_ ?_
      | refine LeO.bind ?_ (fun _ => ?_)
theorem vmfleetlaw5_PagingLists.mono : ∀ a0 a1 a2 k, LeO (vmfleetlaw5_PagingLists.f k a0 a1 a2) (vmfleetlaw5_PagingLists.f (k + 1) a0 a1 a2) := by
  intro a0 a1 a2 k
  obtain ⟨ih0, ih1, ih2⟩ := vmfleetlaw5_PagingLists.mono_l k
  unfold vmfleetlaw5_PagingLists.f
  repeat' first
      | (with_reducible exact ih0 _ _ _ _ _ _)
      | (with_reducible exact ih1 _ _ _ _ _ _ _ _ _ _)
      | (with_reducible exact ih2 _ _ _ _ _ _ _)
      | (with_reducible exact paging_Walk.mono _ _ _ _ _)
      | (with_reducible exact vmfleetlaw5_awake.mono _)
      | (with_reducible exact vmfleetlaw5_tables.mono _ _ _)
      | (with_reducible exact LeO.refl _)
      | (with_reducible exact LeO.none _)
      | (with_reducible refine LeO.ite ?_ ?_)
      | (with_reducible refine LeO.bind ?_ (fun _ => ?_))
      | exact ih0 _ _ _ _ _ _
      | exact ih1 _ _ _ _ _ _ _ _ _ _
      | exact ih2 _ _ _ _ _ _ _
      | exact paging_Walk.mono _ _ _ _ _
      | exact vmfleetlaw5_awake.mono _
      | exact vmfleetlaw5_tables.mono _ _ _
      | exact LeO.none _
      | refine LeO.ite ?_ ?_
      | refine LeO.bind ?_ (fun _ => ?_)
set_option maxHeartbeats 8000000 in
set_option maxRecDepth 100000 in
theorem vmfleetlaw5_PagingLists.calls (k : Nat) (A0 : Option Addr) (c0 : Nat) (l0 : List Int) (a1 : Int) (a2 : Int) (r : Bool) (w : World) (hr0 : Kd.C (Kd.int .i64) w A0 l0.length l0) (hc0 : l0.length ≤ c0) (h : vmfleetlaw5_PagingLists.f k l0 a1 a2 = some r) :
    Calls Try.prog 8 #[.slice A0 l0.length c0, .int .i64 a1, .int .u32 a2] w fun e w' => e = .returned (.bool r) ∧ Below w.heap.size w w' := by
  have hu31 := Try.underlying31
  have HR0 := Aside0.mk hr0
  have HC0 := Aside0.mk hc0
  clear hr0 hc0
  have HB := Aside0.mk (Below.refl w.heap.size w)
  have H : ((vmfleetlaw5_tables.f k l0 a1).bind fun t159 => ((vmfleetref1_Pages.f t159).bind fun t162 => (if ((t162) % 4294967296) = 0 then (none) else ((paging_List.f t159 (Int.tmod a2 ((t162) % 4294967296))).bind fun t163 => (vmfleetlaw5_PagingLists.l0 k (Int.tmod a2 ((t162) % 4294967296)) t159 ((t162) % 4294967296) t163 0 0))))) = some r := h
  clear h
  replace H := Option.bind_eq_some_iff.mp H
  obtain ⟨t159, A40, H⟩ := H
  replace H : ((vmfleetref1_Pages.f t159).bind fun t162 => (if ((t162) % 4294967296) = 0 then (none) else ((paging_List.f t159 (Int.tmod a2 ((t162) % 4294967296))).bind fun t163 => (vmfleetlaw5_PagingLists.l0 k (Int.tmod a2 ((t162) % 4294967296)) t159 ((t162) % 4294967296) t163 0 0)))) = some r := H
  have A4 := Aside0.mk A40
  clear A40
  replace H := Option.bind_eq_some_iff.mp H
  obtain ⟨t162, A50, H⟩ := H
  replace H : (if ((t162) % 4294967296) = 0 then (none) else ((paging_List.f t159 (Int.tmod a2 ((t162) % 4294967296))).bind fun t163 => (vmfleetlaw5_PagingLists.l0 k (Int.tmod a2 ((t162) % 4294967296)) t159 ((t162) % 4294967296) t163 0 0))) = some r := H
  have A5 := Aside0.mk A50
  clear A50
  by_cases c6 : ((t162) % 4294967296) = 0
  · rw [if_pos c6] at H
    exact absurd H (by simp)
  · rw [if_neg c6] at H
    have c6b0 : (((t162) % 4294967296) == 0) = false := beq_eq_false_iff_ne.mpr c6
    have c6b1 : (((t162) % 4294967296) != 0) = true := bne_iff_ne.mpr c6
    replace H := Option.bind_eq_some_iff.mp H
    obtain ⟨t163, A70, H⟩ := H
    replace H : (vmfleetlaw5_PagingLists.l0 k (Int.tmod a2 ((t162) % 4294967296)) t159 ((t162) % 4294967296) t163 0 0) = some r := H
    have A7 := Aside0.mk A70
    clear A70
    have H' := Aside0.mk H
    clear H
    go_enter Try.func8, Try.ntmps8
    go_wp2_with (first | (go_at_call 9; (with_reducible refine (vmfleetlaw5_tables.calls k _ _ l0 a1 t159 _ ?side1 ?side2 A4.out).mono ?_); (case side1 => repeat (first | exact HR0.out | (with_reducible refine Kd.C_alloc ?_ _) | (with_reducible refine Kd.C_drewN ?_ _) | (with_reducible refine Kd.C_drew ?_))); (case side2 => exact HC0.out); rintro e w8 ⟨v160, rfl, ho0, hb⟩; have n0_ := Aside0.mk (Kd.R_lower ho0 (below_size (by repeat (first | (with_reducible first | exact HB.out | apply below_alloc | apply pw_below_drewN | apply below_drew1) | exact HB.out)))); have n1_ := Aside0.mk (below_step (by repeat (first | (with_reducible first | exact HB.out | apply below_alloc | apply pw_below_drewN | apply below_drew1) | exact HB.out)) hb); clear HB; have HO161 := n0_; have HB := n1_; clear n0_ n1_; (try clear hb); (try clear hb2); (try clear hk); (try clear hi); (try clear ho0); obtain ⟨Ao9, co9, eo9⟩ := Kd.R_slice HO161.out; subst eo9) | (go_at_call 10; (with_reducible refine (vmfleetref1_Pages.calls _ _ t159 t162 _ ?side1 ?side2 A5.out).mono ?_); (case side1 => repeat (first | exact (Kd.R_reads' HO161.out).2.2 | (with_reducible refine Kd.C_alloc ?_ _) | (with_reducible refine Kd.C_drewN ?_ _) | (with_reducible refine Kd.C_drew ?_))); (case side2 => exact (Kd.R_reads' HO161.out).2.1); rintro e w' ⟨rfl, ⟨nd, rfl⟩⟩; (try first | exact ⟨rfl, _, World.drewN_drewN _ _ _⟩ | exact ⟨rfl, _, Eq.trans (World.drewN_drewN _ _ _) (congrArg (World.drewN _) (Nat.add_assoc _ _ _))⟩)) | (go_at_call 20; (with_reducible refine (paging_List.calls _ _ t159 (Int.tmod a2 ((t162) % 4294967296)) t163 _ ?side1 ?side2 A7.out).mono ?_); (case side1 => repeat (first | exact (Kd.R_reads' HO161.out).2.2 | (with_reducible refine Kd.C_alloc ?_ _) | (with_reducible refine Kd.C_drewN ?_ _) | (with_reducible refine Kd.C_drew ?_))); (case side2 => exact (Kd.R_reads' HO161.out).2.1); rintro e w10 ⟨v164, rfl, ho0, hb⟩; have n0_ := Aside0.mk (Kd.R_below (by (with_reducible repeat (first | apply Kd.R_alloc | apply Kd.R_drewN | apply Kd.R_drew)); exact HO161.out) hb); have n1_ := Aside0.mk (Kd.R_lower ho0 (below_size (by repeat (first | (with_reducible first | exact HB.out | apply below_alloc | apply pw_below_drewN | apply below_drew1) | exact HB.out)))); have n2_ := Aside0.mk (below_step (by repeat (first | (with_reducible first | exact HB.out | apply below_alloc | apply pw_below_drewN | apply below_drew1) | exact HB.out)) hb); clear HO161; clear HB; have HO161 := n0_; have HO165 := n1_; have HB := n2_; clear n0_ n1_ n2_; (try clear hb); (try clear hb2); (try clear hk); (try clear hi); (try clear ho0)))
    repeat (go_quiet (first | (go_at_call 9; (with_reducible refine (vmfleetlaw5_tables.calls k _ _ l0 a1 t159 _ ?side1 ?side2 A4.out).mono ?_); (case side1 => repeat (first | exact HR0.out | (with_reducible refine Kd.C_alloc ?_ _) | (with_reducible refine Kd.C_drewN ?_ _) | (with_reducible refine Kd.C_drew ?_))); (case side2 => exact HC0.out); rintro e w8 ⟨v160, rfl, ho0, hb⟩; have n0_ := Aside0.mk (Kd.R_lower ho0 (below_size (by repeat (first | (with_reducible first | exact HB.out | apply below_alloc | apply pw_below_drewN | apply below_drew1) | exact HB.out)))); have n1_ := Aside0.mk (below_step (by repeat (first | (with_reducible first | exact HB.out | apply below_alloc | apply pw_below_drewN | apply below_drew1) | exact HB.out)) hb); clear HB; have HO161 := n0_; have HB := n1_; clear n0_ n1_; (try clear hb); (try clear hb2); (try clear hk); (try clear hi); (try clear ho0); obtain ⟨Ao9, co9, eo9⟩ := Kd.R_slice HO161.out; subst eo9) | (go_at_call 10; (with_reducible refine (vmfleetref1_Pages.calls _ _ t159 t162 _ ?side1 ?side2 A5.out).mono ?_); (case side1 => repeat (first | exact (Kd.R_reads' HO161.out).2.2 | (with_reducible refine Kd.C_alloc ?_ _) | (with_reducible refine Kd.C_drewN ?_ _) | (with_reducible refine Kd.C_drew ?_))); (case side2 => exact (Kd.R_reads' HO161.out).2.1); rintro e w' ⟨rfl, ⟨nd, rfl⟩⟩; (try first | exact ⟨rfl, _, World.drewN_drewN _ _ _⟩ | exact ⟨rfl, _, Eq.trans (World.drewN_drewN _ _ _) (congrArg (World.drewN _) (Nat.add_assoc _ _ _))⟩)) | (go_at_call 20; (with_reducible refine (paging_List.calls _ _ t159 (Int.tmod a2 ((t162) % 4294967296)) t163 _ ?side1 ?side2 A7.out).mono ?_); (case side1 => repeat (first | exact (Kd.R_reads' HO161.out).2.2 | (with_reducible refine Kd.C_alloc ?_ _) | (with_reducible refine Kd.C_drewN ?_ _) | (with_reducible refine Kd.C_drew ?_))); (case side2 => exact (Kd.R_reads' HO161.out).2.1); rintro e w10 ⟨v164, rfl, ho0, hb⟩; have n0_ := Aside0.mk (Kd.R_below (by (with_reducible repeat (first | apply Kd.R_alloc | apply Kd.R_drewN | apply Kd.R_drew)); exact HO161.out) hb); have n1_ := Aside0.mk (Kd.R_lower ho0 (below_size (by repeat (first | (with_reducible first | exact HB.out | apply below_alloc | apply pw_below_drewN | apply below_drew1) | exact HB.out)))); have n2_ := Aside0.mk (below_step (by repeat (first | (with_reducible first | exact HB.out | apply below_alloc | apply pw_below_drewN | apply below_drew1) | exact HB.out)) hb); clear HO161; clear HB; have HO161 := n0_; have HO165 := n1_; have HB := n2_; clear n0_ n1_ n2_; (try clear hb); (try clear hb2); (try clear hk); (try clear hi); (try clear ho0))); try go_wp2_with (first | (go_at_call 9; (with_reducible refine (vmfleetlaw5_tables.calls k _ _ l0 a1 t159 _ ?side1 ?side2 A4.out).mono ?_); (case side1 => repeat (first | exact HR0.out | (with_reducible refine Kd.C_alloc ?_ _) | (with_reducible refine Kd.C_drewN ?_ _) | (with_reducible refine Kd.C_drew ?_))); (case side2 => exact HC0.out); rintro e w8 ⟨v160, rfl, ho0, hb⟩; have n0_ := Aside0.mk (Kd.R_lower ho0 (below_size (by repeat (first | (with_reducible first | exact HB.out | apply below_alloc | apply pw_below_drewN | apply below_drew1) | exact HB.out)))); have n1_ := Aside0.mk (below_step (by repeat (first | (with_reducible first | exact HB.out | apply below_alloc | apply pw_below_drewN | apply below_drew1) | exact HB.out)) hb); clear HB; have HO161 := n0_; have HB := n1_; clear n0_ n1_; (try clear hb); (try clear hb2); (try clear hk); (try clear hi); (try clear ho0); obtain ⟨Ao9, co9, eo9⟩ := Kd.R_slice HO161.out; subst eo9) | (go_at_call 10; (with_reducible refine (vmfleetref1_Pages.calls _ _ t159 t162 _ ?side1 ?side2 A5.out).mono ?_); (case side1 => repeat (first | exact (Kd.R_reads' HO161.out).2.2 | (with_reducible refine Kd.C_alloc ?_ _) | (with_reducible refine Kd.C_drewN ?_ _) | (with_reducible refine Kd.C_drew ?_))); (case side2 => exact (Kd.R_reads' HO161.out).2.1); rintro e w' ⟨rfl, ⟨nd, rfl⟩⟩; (try first | exact ⟨rfl, _, World.drewN_drewN _ _ _⟩ | exact ⟨rfl, _, Eq.trans (World.drewN_drewN _ _ _) (congrArg (World.drewN _) (Nat.add_assoc _ _ _))⟩)) | (go_at_call 20; (with_reducible refine (paging_List.calls _ _ t159 (Int.tmod a2 ((t162) % 4294967296)) t163 _ ?side1 ?side2 A7.out).mono ?_); (case side1 => repeat (first | exact (Kd.R_reads' HO161.out).2.2 | (with_reducible refine Kd.C_alloc ?_ _) | (with_reducible refine Kd.C_drewN ?_ _) | (with_reducible refine Kd.C_drew ?_))); (case side2 => exact (Kd.R_reads' HO161.out).2.1); rintro e w10 ⟨v164, rfl, ho0, hb⟩; have n0_ := Aside0.mk (Kd.R_below (by (with_reducible repeat (first | apply Kd.R_alloc | apply Kd.R_drewN | apply Kd.R_drew)); exact HO161.out) hb); have n1_ := Aside0.mk (Kd.R_lower ho0 (below_size (by repeat (first | (with_reducible first | exact HB.out | apply below_alloc | apply pw_below_drewN | apply below_drew1) | exact HB.out)))); have n2_ := Aside0.mk (below_step (by repeat (first | (with_reducible first | exact HB.out | apply below_alloc | apply pw_below_drewN | apply below_drew1) | exact HB.out)) hb); clear HO161; clear HB; have HO161 := n0_; have HO165 := n1_; have HB := n2_; clear n0_ n1_ n2_; (try clear hb); (try clear hb2); (try clear hk); (try clear hi); (try clear ho0))))
    go_loopg [10, 11] k (fun kq v10 v11 w' => ∃ (x10_1 : Int) (x11_1 : Int), v10 = .int .i64 x10_1 ∧ v11 = .int .u32 x11_1 ∧ Aside0 (vmfleetlaw5_PagingLists.l0 kq (Int.tmod a2 ((t162) % 4294967296)) t159 ((t162) % 4294967296) t163 x10_1 x11_1 = some r) ∧ Aside0 (kq ≤ k) ∧ Aside0 (Kd.R (Kd.int .u32) 23 w' w.heap.size (fun _ => True) (.slice Ao9 t159.length co9) t159) ∧ Aside0 (Kd.R k46 46 w' w.heap.size (fun _ => True) v164 t163) ∧ Aside0 (Below w.heap.size w w'))
    case atStart => exact ⟨(0), (0), (by first | rfl | (simp; done) | (simp [*]; done)), (by first | rfl | (simp; done) | (simp [*]; done)), H', ⟨Nat.le_refl _⟩, ⟨by (with_reducible repeat (first | apply Kd.R_alloc | apply Kd.R_drewN | apply Kd.R_drew)); exact HO161.out⟩, ⟨by (with_reducible repeat (first | apply Kd.R_alloc | apply Kd.R_drewN | apply Kd.R_drew)); exact HO165.out⟩, ⟨by repeat (first | (with_reducible first | exact HB.out | apply below_alloc | apply pw_below_drewN | apply below_drew1) | exact HB.out)⟩⟩
    case round =>
      clear H'
      try clear p2
      try clear c6
      try clear c6b0
      try clear c6b1
      try clear c8
      obtain ⟨x10_1, x11_1, rfl, rfl, HA, HK1, HO_7, HO_9, HB⟩ := hrel
      cases gk with
      | zero => exact absurd HA.out (by simp [vmfleetlaw5_PagingLists.l0])
      | succ k1 =>
        have H := HA.out
        clear HA
        simp only [vmfleetlaw5_PagingLists.l0] at H
        by_cases c11 : x11_1 < 32
        · rw [if_pos c11] at H
          have c11b0 : decide (x11_1 < 32) = true := decide_eq_true c11
          clear c11
          replace H := Option.bind_eq_some_iff.mp H
          obtain ⟨⟨t167, t168, t169⟩, A120, H⟩ := H
          replace H : (if x10_1 < (t163.length : Int) then (if 0 ≤ x10_1 then (vmfleetlaw5_PagingLists.j1 k1 (Int.tmod a2 ((t162) % 4294967296)) t159 ((t162) % 4294967296) t163 x10_1 x11_1 (((rd_T46 t163 x10_1).f0) == x11_1) t167 t168 t169) else (none)) else (vmfleetlaw5_PagingLists.j1 k1 (Int.tmod a2 ((t162) % 4294967296)) t159 ((t162) % 4294967296) t163 x10_1 x11_1 false t167 t168 t169)) = some r := H
          have A12 := Aside0.mk A120
          clear A120
          have HC13 := Aside0.mk H
          clear H
          go_upto_region 10 with (first | (go_at_call 13; (with_reducible refine (paging_Walk.calls k1 _ _ t159 (Int.tmod a2 ((t162) % 4294967296)) ((128 * x11_1) % 4294967296) 2 t167 t168 t169 _ ?side1 ?side2 A12.out).mono ?_); (case side1 => repeat (first | exact (Kd.R_reads' HO_7.out).2.2 | (with_reducible refine Kd.C_alloc ?_ _) | (with_reducible refine Kd.C_drewN ?_ _) | (with_reducible refine Kd.C_drew ?_))); (case side2 => exact (Kd.R_reads' HO_7.out).2.1); rintro e w14 ⟨rfl, hb⟩; have n0_ := Aside0.mk (Kd.R_below (by (with_reducible repeat (first | apply Kd.R_alloc | apply Kd.R_drewN | apply Kd.R_drew)); exact HO_7.out) hb); have n1_ := Aside0.mk (Kd.R_below (by (with_reducible repeat (first | apply Kd.R_alloc | apply Kd.R_drewN | apply Kd.R_drew)); exact HO_9.out) hb); have n2_ := Aside0.mk (below_step (by repeat (first | (with_reducible first | exact HB.out | apply below_alloc | apply pw_below_drewN | apply below_drew1) | exact HB.out)) hb); clear HO_7; clear HO_9; clear HB; have HO_7 := n0_; have HO_9 := n1_; have HB := n2_; clear n0_ n1_ n2_; (try clear hb); (try clear hb2); (try clear hk); (try clear hi)) | ((with_reducible refine gate_dst (N := 12) rfl ?_); refine box_event ?hg (N := 12) ?hd (cs := #[.int .u32 0, .int .u32 0, .int .i64 0]) (t := 31) ?hr ?_; (case hd => rfl); (case hg => rfl); (case hr => first | (go_simp; done) | (go_simp; rfl)); intro gb170 hg w15 hbox hb; have n0_ := Aside0.mk (Kd.R_below (by (with_reducible repeat (first | apply Kd.R_alloc | apply Kd.R_drewN | apply Kd.R_drew)); exact HO_7.out) hb); have n1_ := Aside0.mk (Kd.R_below (by (with_reducible repeat (first | apply Kd.R_alloc | apply Kd.R_drewN | apply Kd.R_drew)); exact HO_9.out) hb); have n2_ := Aside0.mk (below_step (by repeat (first | (with_reducible first | exact HB.out | apply below_alloc | apply pw_below_drewN | apply below_drew1) | exact HB.out)) hb); have n3_ := Aside0.mk (hbox); have n4_ := Aside0.mk ((by rw [hg]; exact (below_size (by repeat (first | (with_reducible first | exact HB.out | apply below_alloc | apply pw_below_drewN | apply below_drew1) | exact HB.out))) : w.heap.size ≤ gb170)); have n5_ := Aside0.mk ((by rw [hg]; exact (below_size (by repeat (first | (with_reducible first | exact HB.out | apply below_alloc | apply pw_below_drewN | apply below_drew1) | exact HB.out))) : w.heap.size ≤ gb170)); clear HO_7; clear HO_9; clear HB; have HO_7 := n0_; have HO_9 := n1_; have HB := n2_; have BK170 := n3_; have GW170 := n4_; have GE170 := n5_; clear n0_ n1_ n2_ n3_ n4_ n5_; clear hb hbox hg; have hcz16_0 : w15.cell? ⟨gb170, 0, none⟩ = some (.int .u32 0) := (blk_cell BK170.out 0).trans rfl; have hcz16_1 : w15.cell? ⟨gb170, 1, none⟩ = some (.int .u32 0) := (blk_cell BK170.out 1).trans rfl; have hcz16_2 : w15.cell? ⟨gb170, 2, none⟩ = some (.int .i64 0) := (blk_cell BK170.out 2).trans rfl; have hfz16_0 := blk_frozen BK170.out 0; have hfz16_1 := blk_frozen BK170.out 1; have hfz16_2 := blk_frozen BK170.out 2))
          repeat (go_quiet (first | (go_at_call 13; (with_reducible refine (paging_Walk.calls k1 _ _ t159 (Int.tmod a2 ((t162) % 4294967296)) ((128 * x11_1) % 4294967296) 2 t167 t168 t169 _ ?side1 ?side2 A12.out).mono ?_); (case side1 => repeat (first | exact (Kd.R_reads' HO_7.out).2.2 | (with_reducible refine Kd.C_alloc ?_ _) | (with_reducible refine Kd.C_drewN ?_ _) | (with_reducible refine Kd.C_drew ?_))); (case side2 => exact (Kd.R_reads' HO_7.out).2.1); rintro e w14 ⟨rfl, hb⟩; have n0_ := Aside0.mk (Kd.R_below (by (with_reducible repeat (first | apply Kd.R_alloc | apply Kd.R_drewN | apply Kd.R_drew)); exact HO_7.out) hb); have n1_ := Aside0.mk (Kd.R_below (by (with_reducible repeat (first | apply Kd.R_alloc | apply Kd.R_drewN | apply Kd.R_drew)); exact HO_9.out) hb); have n2_ := Aside0.mk (below_step (by repeat (first | (with_reducible first | exact HB.out | apply below_alloc | apply pw_below_drewN | apply below_drew1) | exact HB.out)) hb); clear HO_7; clear HO_9; clear HB; have HO_7 := n0_; have HO_9 := n1_; have HB := n2_; clear n0_ n1_ n2_; (try clear hb); (try clear hb2); (try clear hk); (try clear hi)) | ((with_reducible refine gate_dst (N := 12) rfl ?_); refine box_event ?hg (N := 12) ?hd (cs := #[.int .u32 0, .int .u32 0, .int .i64 0]) (t := 31) ?hr ?_; (case hd => rfl); (case hg => rfl); (case hr => first | (go_simp; done) | (go_simp; rfl)); intro gb170 hg w15 hbox hb; have n0_ := Aside0.mk (Kd.R_below (by (with_reducible repeat (first | apply Kd.R_alloc | apply Kd.R_drewN | apply Kd.R_drew)); exact HO_7.out) hb); have n1_ := Aside0.mk (Kd.R_below (by (with_reducible repeat (first | apply Kd.R_alloc | apply Kd.R_drewN | apply Kd.R_drew)); exact HO_9.out) hb); have n2_ := Aside0.mk (below_step (by repeat (first | (with_reducible first | exact HB.out | apply below_alloc | apply pw_below_drewN | apply below_drew1) | exact HB.out)) hb); have n3_ := Aside0.mk (hbox); have n4_ := Aside0.mk ((by rw [hg]; exact (below_size (by repeat (first | (with_reducible first | exact HB.out | apply below_alloc | apply pw_below_drewN | apply below_drew1) | exact HB.out))) : w.heap.size ≤ gb170)); have n5_ := Aside0.mk ((by rw [hg]; exact (below_size (by repeat (first | (with_reducible first | exact HB.out | apply below_alloc | apply pw_below_drewN | apply below_drew1) | exact HB.out))) : w.heap.size ≤ gb170)); clear HO_7; clear HO_9; clear HB; have HO_7 := n0_; have HO_9 := n1_; have HB := n2_; have BK170 := n3_; have GW170 := n4_; have GE170 := n5_; clear n0_ n1_ n2_ n3_ n4_ n5_; clear hb hbox hg; have hcz16_0 : w15.cell? ⟨gb170, 0, none⟩ = some (.int .u32 0) := (blk_cell BK170.out 0).trans rfl; have hcz16_1 : w15.cell? ⟨gb170, 1, none⟩ = some (.int .u32 0) := (blk_cell BK170.out 1).trans rfl; have hcz16_2 : w15.cell? ⟨gb170, 2, none⟩ = some (.int .i64 0) := (blk_cell BK170.out 2).trans rfl; have hfz16_0 := blk_frozen BK170.out 0; have hfz16_1 := blk_frozen BK170.out 1; have hfz16_2 := blk_frozen BK170.out 2)); go_upto_region 10 with (first | (go_at_call 13; (with_reducible refine (paging_Walk.calls k1 _ _ t159 (Int.tmod a2 ((t162) % 4294967296)) ((128 * x11_1) % 4294967296) 2 t167 t168 t169 _ ?side1 ?side2 A12.out).mono ?_); (case side1 => repeat (first | exact (Kd.R_reads' HO_7.out).2.2 | (with_reducible refine Kd.C_alloc ?_ _) | (with_reducible refine Kd.C_drewN ?_ _) | (with_reducible refine Kd.C_drew ?_))); (case side2 => exact (Kd.R_reads' HO_7.out).2.1); rintro e w14 ⟨rfl, hb⟩; have n0_ := Aside0.mk (Kd.R_below (by (with_reducible repeat (first | apply Kd.R_alloc | apply Kd.R_drewN | apply Kd.R_drew)); exact HO_7.out) hb); have n1_ := Aside0.mk (Kd.R_below (by (with_reducible repeat (first | apply Kd.R_alloc | apply Kd.R_drewN | apply Kd.R_drew)); exact HO_9.out) hb); have n2_ := Aside0.mk (below_step (by repeat (first | (with_reducible first | exact HB.out | apply below_alloc | apply pw_below_drewN | apply below_drew1) | exact HB.out)) hb); clear HO_7; clear HO_9; clear HB; have HO_7 := n0_; have HO_9 := n1_; have HB := n2_; clear n0_ n1_ n2_; (try clear hb); (try clear hb2); (try clear hk); (try clear hi)) | ((with_reducible refine gate_dst (N := 12) rfl ?_); refine box_event ?hg (N := 12) ?hd (cs := #[.int .u32 0, .int .u32 0, .int .i64 0]) (t := 31) ?hr ?_; (case hd => rfl); (case hg => rfl); (case hr => first | (go_simp; done) | (go_simp; rfl)); intro gb170 hg w15 hbox hb; have n0_ := Aside0.mk (Kd.R_below (by (with_reducible repeat (first | apply Kd.R_alloc | apply Kd.R_drewN | apply Kd.R_drew)); exact HO_7.out) hb); have n1_ := Aside0.mk (Kd.R_below (by (with_reducible repeat (first | apply Kd.R_alloc | apply Kd.R_drewN | apply Kd.R_drew)); exact HO_9.out) hb); have n2_ := Aside0.mk (below_step (by repeat (first | (with_reducible first | exact HB.out | apply below_alloc | apply pw_below_drewN | apply below_drew1) | exact HB.out)) hb); have n3_ := Aside0.mk (hbox); have n4_ := Aside0.mk ((by rw [hg]; exact (below_size (by repeat (first | (with_reducible first | exact HB.out | apply below_alloc | apply pw_below_drewN | apply below_drew1) | exact HB.out))) : w.heap.size ≤ gb170)); have n5_ := Aside0.mk ((by rw [hg]; exact (below_size (by repeat (first | (with_reducible first | exact HB.out | apply below_alloc | apply pw_below_drewN | apply below_drew1) | exact HB.out))) : w.heap.size ≤ gb170)); clear HO_7; clear HO_9; clear HB; have HO_7 := n0_; have HO_9 := n1_; have HB := n2_; have BK170 := n3_; have GW170 := n4_; have GE170 := n5_; clear n0_ n1_ n2_ n3_ n4_ n5_; clear hb hbox hg; have hcz16_0 : w15.cell? ⟨gb170, 0, none⟩ = some (.int .u32 0) := (blk_cell BK170.out 0).trans rfl; have hcz16_1 : w15.cell? ⟨gb170, 1, none⟩ = some (.int .u32 0) := (blk_cell BK170.out 1).trans rfl; have hcz16_2 : w15.cell? ⟨gb170, 2, none⟩ = some (.int .i64 0) := (blk_cell BK170.out 2).trans rfl; have hfz16_0 := blk_frozen BK170.out 0; have hfz16_1 := blk_frozen BK170.out 1; have hfz16_2 := blk_frozen BK170.out 2)))
          (try simp only [Act.put, List.setIfInBounds_toArray, List.set_cons_zero, List.set_cons_succ])
          go_cut [46] (fun v46 wc => ∃ (kq : Nat) (x46_12 : Bool), v46 = .bool x46_12 ∧ Aside0 (vmfleetlaw5_PagingLists.j1 kq (Int.tmod a2 ((t162) % 4294967296)) t159 ((t162) % 4294967296) t163 x10_1 x11_1 x46_12 t167 t168 t169 = some r) ∧ Aside0 (kq ≤ k1) ∧ Aside0 (Kd.R (Kd.int .u32) 23 wc w.heap.size (fun _ => True) (.slice Ao9 t159.length co9) t159) ∧ Aside0 (Kd.R k46 46 wc w.heap.size (fun _ => True) v164 t163) ∧ Aside0 (wc.heap[gb170]? = some (.cells #[.int .u32 t167, .int .u32 t168, .int .i64 t169] 31 (0, 0))) ∧ Aside0 (Below w.heap.size w wc))
          case first =>
            have H := HC13.out
            clear HC13
            by_cases c17 : x10_1 < (t163.length : Int)
            · rw [if_pos c17] at H
              have c17b0 : decide (x10_1 < (t163.length : Int)) = true := decide_eq_true c17
              clear c17
              (first | rw [c17b0] | (simp only [i64_w, i32_w]; rw [c17b0]) | skip)
              by_cases c18 : 0 ≤ x10_1
              · rw [if_pos c18] at H
                have c18b0 : decide (0 ≤ x10_1) = true := decide_eq_true c18
                clear c18
                have H' := Aside0.mk H
                clear H
                obtain ⟨Ao19, co19, eo19⟩ := Kd.R_slice HO_9.out
                subst eo19
                have p171 : 0 ≤ (x10_1 : Int) := of_decide_eq_true (by first | (with_reducible assumption) | assumption)
                have q171 : x10_1 < (t163.length : Int) := of_decide_eq_true (by first | (with_reducible assumption) | assumption)
                obtain ⟨ad171, e171, hx171_0, hx171_1, hx171_2⟩ := at_T46 (Kd.R_reads' HO_9.out).2.2 x10_1 p171 q171
                cases e171
                have hn171_0 : ad171.block ≠ gb170 := Kd.own_blk (Kd.R_ne HO_9.out BK170.out (by decide))
                have hn171_1 : ad171.block ≠ gb170 := Kd.own_blk (Kd.R_ne HO_9.out BK170.out (by decide))
                have hn171_2 : ad171.block ≠ gb170 := Kd.own_blk (Kd.R_ne HO_9.out BK170.out (by decide))
                replace hx171_0 := (cell_far (p := ⟨gb170, 0, none⟩) (by first | (rw [add_block]; exact hn171_0) | (show (Addr.add _ _).block ≠ _; rw [add_block]; exact hn171_0) | exact hn171_0) (.int .u32 t167)).trans hx171_0
                replace hx171_1 := (cell_far (p := ⟨gb170, 0, none⟩) (by first | (rw [add_block]; exact hn171_0) | (show (Addr.add _ _).block ≠ _; rw [add_block]; exact hn171_0) | exact hn171_0) (.int .u32 t167)).trans hx171_1
                replace hx171_2 := (cell_far (p := ⟨gb170, 0, none⟩) (by first | (rw [add_block]; exact hn171_0) | (show (Addr.add _ _).block ≠ _; rw [add_block]; exact hn171_0) | exact hn171_0) (.int .u32 t167)).trans hx171_2
                replace hx171_0 := (cell_far (p := ⟨gb170, 1, none⟩) (by first | (rw [add_block]; exact hn171_1) | (show (Addr.add _ _).block ≠ _; rw [add_block]; exact hn171_1) | exact hn171_1) (.int .u32 t168)).trans hx171_0
                replace hx171_1 := (cell_far (p := ⟨gb170, 1, none⟩) (by first | (rw [add_block]; exact hn171_1) | (show (Addr.add _ _).block ≠ _; rw [add_block]; exact hn171_1) | exact hn171_1) (.int .u32 t168)).trans hx171_1
                replace hx171_2 := (cell_far (p := ⟨gb170, 1, none⟩) (by first | (rw [add_block]; exact hn171_1) | (show (Addr.add _ _).block ≠ _; rw [add_block]; exact hn171_1) | exact hn171_1) (.int .u32 t168)).trans hx171_2
                replace hx171_0 := (cell_far (p := ⟨gb170, 2, none⟩) (by first | (rw [add_block]; exact hn171_2) | (show (Addr.add _ _).block ≠ _; rw [add_block]; exact hn171_2) | exact hn171_2) (.int .i64 t169)).trans hx171_0
                replace hx171_1 := (cell_far (p := ⟨gb170, 2, none⟩) (by first | (rw [add_block]; exact hn171_2) | (show (Addr.add _ _).block ≠ _; rw [add_block]; exact hn171_2) | exact hn171_2) (.int .i64 t169)).trans hx171_1
                replace hx171_2 := (cell_far (p := ⟨gb170, 2, none⟩) (by first | (rw [add_block]; exact hn171_2) | (show (Addr.add _ _).block ≠ _; rw [add_block]; exact hn171_2) | exact hn171_2) (.int .i64 t169)).trans hx171_2
                (try have hy171_0 := fun (n_ : Nat) => (show (((((w15.drewN n_).setCell ⟨gb170, 0, none⟩ (.int .u32 t167)).setCell ⟨gb170, 1, none⟩ (.int .u32 t168)).setCell ⟨gb170, 2, none⟩ (.int .i64 t169))).cell? _ = some _ from hx171_0))
                (try have hy171_1 := fun (n_ : Nat) => (show (((((w15.drewN n_).setCell ⟨gb170, 0, none⟩ (.int .u32 t167)).setCell ⟨gb170, 1, none⟩ (.int .u32 t168)).setCell ⟨gb170, 2, none⟩ (.int .i64 t169))).cell? _ = some _ from hx171_1))
                (try have hy171_2 := fun (n_ : Nat) => (show (((((w15.drewN n_).setCell ⟨gb170, 0, none⟩ (.int .u32 t167)).setCell ⟨gb170, 1, none⟩ (.int .u32 t168)).setCell ⟨gb170, 2, none⟩ (.int .i64 t169))).cell? _ = some _ from hx171_2))
                clear hn171_0
                clear hn171_1
                clear hn171_2
                replace p171 := eq_true p171
                replace q171 := eq_true q171
                go_wp2
                repeat (go_quiet (fail); try go_wp2)
                go_meet
                case rel => exact ⟨_, ((((rd_T46 t163 x10_1).f0) == x11_1)), (by first | rfl | (simp; done) | (simp [*]; done)), H', ⟨by have := HK1.out; first | omega | exact Nat.le_refl _⟩, ⟨by (with_reducible repeat (first | apply Kd.R_alloc | apply Kd.R_drewN | apply Kd.R_drew)); exact Kd.R_mono (Kd.R_far (p := ⟨gb170, 2, none⟩) (Kd.R_far (p := ⟨gb170, 1, none⟩) (Kd.R_far (p := ⟨gb170, 0, none⟩) (Kd.R_types HO_7.out BK170.out (by decide)) (fun _ hk => hk.2) (.int .u32 t167)) (fun _ hk => hk.2) (.int .u32 t168)) (fun _ hk => hk.2) (.int .i64 t169)) (fun _ hk => trivial)⟩, ⟨by (with_reducible repeat (first | apply Kd.R_alloc | apply Kd.R_drewN | apply Kd.R_drew)); exact Kd.R_mono (Kd.R_far (p := ⟨gb170, 2, none⟩) (Kd.R_far (p := ⟨gb170, 1, none⟩) (Kd.R_far (p := ⟨gb170, 0, none⟩) (Kd.R_types HO_9.out BK170.out (by decide)) (fun _ hk => hk.2) (.int .u32 t167)) (fun _ hk => hk.2) (.int .u32 t168)) (fun _ hk => hk.2) (.int .i64 t169)) (fun _ hk => trivial)⟩, ⟨by (with_reducible repeat (first | refine blk_drewN ?_ _ | refine blk_drew ?_ | refine blk_alloc ?_ _)); refine blk_put (cs := #[.int .u32 t167, .int .u32 t168, .int .i64 0]) ?_ 2 _ rfl; (with_reducible repeat (first | refine blk_drewN ?_ _ | refine blk_drew ?_ | refine blk_alloc ?_ _)); refine blk_put (cs := #[.int .u32 t167, .int .u32 0, .int .i64 0]) ?_ 1 _ rfl; (with_reducible repeat (first | refine blk_drewN ?_ _ | refine blk_drew ?_ | refine blk_alloc ?_ _)); refine blk_put (cs := #[.int .u32 0, .int .u32 0, .int .i64 0]) ?_ 0 _ rfl; (with_reducible repeat (first | refine blk_drewN ?_ _ | refine blk_drew ?_ | refine blk_alloc ?_ _)); exact BK170.out⟩, ⟨by repeat (first | (with_reducible first | exact HB.out | apply below_alloc | apply pw_below_drewN | apply below_drew1 | refine below_set ?_ GE170.out) | exact HB.out)⟩⟩
              · rw [if_neg c18] at H
                exact absurd H (by simp)
            · rw [if_neg c17] at H
              have c17b0 : decide (x10_1 < (t163.length : Int)) = false := decide_eq_false c17
              clear c17
              (first | rw [c17b0] | (simp only [i64_w, i32_w]; rw [c17b0]) | skip)
              have H' := Aside0.mk H
              clear H
              obtain ⟨Ao20, co20, eo20⟩ := Kd.R_slice HO_9.out
              subst eo20
              go_wp2
              repeat (go_quiet (fail); try go_wp2)
              go_meet
              case rel => exact ⟨_, (false), (by first | rfl | (simp; done) | (simp [*]; done)), H', ⟨by have := HK1.out; first | omega | exact Nat.le_refl _⟩, ⟨by (with_reducible repeat (first | apply Kd.R_alloc | apply Kd.R_drewN | apply Kd.R_drew)); exact Kd.R_mono (Kd.R_far (p := ⟨gb170, 2, none⟩) (Kd.R_far (p := ⟨gb170, 1, none⟩) (Kd.R_far (p := ⟨gb170, 0, none⟩) (Kd.R_types HO_7.out BK170.out (by decide)) (fun _ hk => hk.2) (.int .u32 t167)) (fun _ hk => hk.2) (.int .u32 t168)) (fun _ hk => hk.2) (.int .i64 t169)) (fun _ hk => trivial)⟩, ⟨by (with_reducible repeat (first | apply Kd.R_alloc | apply Kd.R_drewN | apply Kd.R_drew)); exact Kd.R_mono (Kd.R_far (p := ⟨gb170, 2, none⟩) (Kd.R_far (p := ⟨gb170, 1, none⟩) (Kd.R_far (p := ⟨gb170, 0, none⟩) (Kd.R_types HO_9.out BK170.out (by decide)) (fun _ hk => hk.2) (.int .u32 t167)) (fun _ hk => hk.2) (.int .u32 t168)) (fun _ hk => hk.2) (.int .i64 t169)) (fun _ hk => trivial)⟩, ⟨by (with_reducible repeat (first | refine blk_drewN ?_ _ | refine blk_drew ?_ | refine blk_alloc ?_ _)); refine blk_put (cs := #[.int .u32 t167, .int .u32 t168, .int .i64 0]) ?_ 2 _ rfl; (with_reducible repeat (first | refine blk_drewN ?_ _ | refine blk_drew ?_ | refine blk_alloc ?_ _)); refine blk_put (cs := #[.int .u32 t167, .int .u32 0, .int .i64 0]) ?_ 1 _ rfl; (with_reducible repeat (first | refine blk_drewN ?_ _ | refine blk_drew ?_ | refine blk_alloc ?_ _)); refine blk_put (cs := #[.int .u32 0, .int .u32 0, .int .i64 0]) ?_ 0 _ rfl; (with_reducible repeat (first | refine blk_drewN ?_ _ | refine blk_drew ?_ | refine blk_alloc ?_ _)); exact BK170.out⟩, ⟨by repeat (first | (with_reducible first | exact HB.out | apply below_alloc | apply pw_below_drewN | apply below_drew1 | refine below_set ?_ GE170.out) | exact HB.out)⟩⟩
          case rest =>
            clear HC13
            try clear c1
            try clear p1
            try clear q1
            try clear hx1
            try clear p2
            try clear c6
            try clear c6b0
            try clear c6b1
            try clear c8
            try clear c11
            try clear c11b0
            try clear c17
            try clear c17b0
            try clear p17
            try clear q17
            try clear hx17
            try clear c18
            try clear c18b0
            try clear hcz16_0
            try clear hcz16_1
            try clear hcz16_2
            try clear hfz16_0
            try clear hfz16_1
            try clear hfz16_2
            try clear hx171_0
            try clear hx171_1
            try clear hx171_2
            try clear p171
            try clear p2
            try clear q171
            obtain ⟨kq, x46_12, rfl, HA, HJ12, HO_7, HO_9, BK170, HB⟩ := hcut
            cases kq with
            | zero => exact absurd HA.out (by simp [vmfleetlaw5_PagingLists.j1])
            | succ kj12 =>
              have H := HA.out
              clear HA
              simp only [vmfleetlaw5_PagingLists.j1] at H
              by_cases c21 : x46_12 = true
              · subst c21
                have H1 : (if 0 ≤ x10_1 then (if x10_1 < (t163.length : Int) then (if ((t169 == 0) != (decide (((rd_T46 t163 x10_1).f1) < ((t162) % 4294967296)))) = true then (vmfleetlaw5_PagingLists.j2 kj12 (Int.tmod a2 ((t162) % 4294967296)) t159 ((t162) % 4294967296) t163 x10_1 x11_1 true) else (if ((rd_T46 t163 x10_1).f1) < ((t162) % 4294967296) then (vmfleetlaw5_PagingLists.j2 kj12 (Int.tmod a2 ((t162) % 4294967296)) t159 ((t162) % 4294967296) t163 x10_1 x11_1 (t167 != ((128 * ((rd_T46 t163 x10_1).f1)) % 4294967296))) else (vmfleetlaw5_PagingLists.j2 kj12 (Int.tmod a2 ((t162) % 4294967296)) t159 ((t162) % 4294967296) t163 x10_1 x11_1 false))) else (none)) else (none)) = some r := by rw [if_pos rfl] at H; exact H
                clear H
                have H := H1
                clear H1
                have HC22 := Aside0.mk H
                clear H
                go_upto_region 11 with (fail)
                repeat (go_quiet (fail); go_upto_region 11 with (fail))
                go_cut [77] (fun v77 wc => ∃ (kq : Nat) (x77_21 : Bool), v77 = .bool x77_21 ∧ Aside0 (vmfleetlaw5_PagingLists.j2 kq (Int.tmod a2 ((t162) % 4294967296)) t159 ((t162) % 4294967296) t163 x10_1 x11_1 x77_21 = some r) ∧ Aside0 (kq ≤ kj12) ∧ Aside0 (Kd.R (Kd.int .u32) 23 wc w.heap.size (fun _ => True) (.slice Ao9 t159.length co9) t159) ∧ Aside0 (Kd.R k46 46 wc w.heap.size (fun _ => True) v164 t163) ∧ Aside0 (wc.heap[gb170]? = some (.cells #[.int .u32 t167, .int .u32 t168, .int .i64 t169] 31 (0, 0))) ∧ Aside0 (Below w.heap.size w wc))
                case first =>
                  have H := HC22.out
                  clear HC22
                  by_cases c23 : 0 ≤ x10_1
                  · rw [if_pos c23] at H
                    have c23b0 : decide (0 ≤ x10_1) = true := decide_eq_true c23
                    clear c23
                    (first | rw [c23b0] | (simp only [i64_w, i32_w]; rw [c23b0]) | skip)
                    by_cases c24 : x10_1 < (t163.length : Int)
                    · rw [if_pos c24] at H
                      have c24b0 : decide (x10_1 < (t163.length : Int)) = true := decide_eq_true c24
                      clear c24
                      by_cases c25 : ((t169 == 0) != (decide (((rd_T46 t163 x10_1).f1) < ((t162) % 4294967296)))) = true
                      · rw [if_pos c25] at H
                        have c25b0 : ((t169 == 0) != (decide (((rd_T46 t163 x10_1).f1) < ((t162) % 4294967296)))) = true := c25
                        (try (have c25b1 : decide ((t169 == 0) = (decide (((rd_T46 t163 x10_1).f1) < ((t162) % 4294967296)))) = false := by simpa using c25))
                        (try (have c25b2 : ((t169 == 0) == (decide (((rd_T46 t163 x10_1).f1) < ((t162) % 4294967296)))) = false := by simpa using c25))
                        (try (have c25b3 : ¬ ((t169 == 0) = (decide (((rd_T46 t163 x10_1).f1) < ((t162) % 4294967296)))) := by simpa using c25))
                        clear c25
                        have H' := Aside0.mk H
                        clear H
                        have hcz26_0 : wc.cell? ⟨gb170, 0, none⟩ = some (.int .u32 t167) := (blk_cell BK170.out 0).trans rfl
                        have hcz26_1 : wc.cell? ⟨gb170, 1, none⟩ = some (.int .u32 t168) := (blk_cell BK170.out 1).trans rfl
                        have hcz26_2 : wc.cell? ⟨gb170, 2, none⟩ = some (.int .i64 t169) := (blk_cell BK170.out 2).trans rfl
                        have hfz26_0 := blk_frozen BK170.out 0
                        have hfz26_1 := blk_frozen BK170.out 1
                        have hfz26_2 := blk_frozen BK170.out 2
                        obtain ⟨Ao27, co27, eo27⟩ := Kd.R_slice HO_9.out
                        subst eo27
                        have p172 : 0 ≤ (x10_1 : Int) := of_decide_eq_true (by first | (with_reducible assumption) | assumption)
                        have q172 : x10_1 < (t163.length : Int) := of_decide_eq_true (by first | (with_reducible assumption) | assumption)
                        obtain ⟨ad172, e172, hx172_0, hx172_1, hx172_2⟩ := at_T46 (Kd.R_reads' HO_9.out).2.2 x10_1 p172 q172
                        cases e172
                        replace p172 := eq_true p172
                        replace q172 := eq_true q172
                        go_wp2
                        repeat (go_quiet (fail); try go_wp2)
                        go_meet
                        case rel => exact ⟨_, (true), (by first | rfl | (simp; done) | (simp [*]; done)), H', ⟨by have := HK1.out; have := HJ12.out; first | omega | exact Nat.le_refl _⟩, ⟨by (with_reducible repeat (first | apply Kd.R_alloc | apply Kd.R_drewN | apply Kd.R_drew)); exact HO_7.out⟩, ⟨by (with_reducible repeat (first | apply Kd.R_alloc | apply Kd.R_drewN | apply Kd.R_drew)); exact HO_9.out⟩, ⟨by (with_reducible repeat (first | refine blk_drewN ?_ _ | refine blk_drew ?_ | refine blk_alloc ?_ _)); exact BK170.out⟩, ⟨by repeat (first | (with_reducible first | exact HB.out | apply below_alloc | apply pw_below_drewN | apply below_drew1 | refine below_set ?_ GE170.out) | exact HB.out)⟩⟩
                      · rw [if_neg c25] at H
                        have c25b0 : ((t169 == 0) != (decide (((rd_T46 t163 x10_1).f1) < ((t162) % 4294967296)))) = false := by simpa using c25
                        (try (have c25b1 : decide ((t169 == 0) = (decide (((rd_T46 t163 x10_1).f1) < ((t162) % 4294967296)))) = true := by simpa using c25))
                        (try (have c25b2 : ((t169 == 0) == (decide (((rd_T46 t163 x10_1).f1) < ((t162) % 4294967296)))) = true := by simpa using c25))
                        clear c25
                        by_cases c28 : ((rd_T46 t163 x10_1).f1) < ((t162) % 4294967296)
                        · rw [if_pos c28] at H
                          have c28b0 : decide (((rd_T46 t163 x10_1).f1) < ((t162) % 4294967296)) = true := decide_eq_true c28
                          have c28bz : (t169 == 0) = true := by have e_ := c25b0; rw [c28b0] at e_; simpa using e_
                          clear c28
                          have H' := Aside0.mk H
                          clear H
                          have hcz29_0 : wc.cell? ⟨gb170, 0, none⟩ = some (.int .u32 t167) := (blk_cell BK170.out 0).trans rfl
                          have hcz29_1 : wc.cell? ⟨gb170, 1, none⟩ = some (.int .u32 t168) := (blk_cell BK170.out 1).trans rfl
                          have hcz29_2 : wc.cell? ⟨gb170, 2, none⟩ = some (.int .i64 t169) := (blk_cell BK170.out 2).trans rfl
                          have hfz29_0 := blk_frozen BK170.out 0
                          have hfz29_1 := blk_frozen BK170.out 1
                          have hfz29_2 := blk_frozen BK170.out 2
                          obtain ⟨Ao30, co30, eo30⟩ := Kd.R_slice HO_9.out
                          subst eo30
                          have p172 : 0 ≤ (x10_1 : Int) := of_decide_eq_true (by first | (with_reducible assumption) | assumption)
                          have q172 : x10_1 < (t163.length : Int) := of_decide_eq_true (by first | (with_reducible assumption) | assumption)
                          obtain ⟨ad172, e172, hx172_0, hx172_1, hx172_2⟩ := at_T46 (Kd.R_reads' HO_9.out).2.2 x10_1 p172 q172
                          cases e172
                          replace p172 := eq_true p172
                          replace q172 := eq_true q172
                          have p173 : 0 ≤ (x10_1 : Int) := of_decide_eq_true (by first | (with_reducible assumption) | assumption)
                          have q173 : x10_1 < (t163.length : Int) := of_decide_eq_true (by first | (with_reducible assumption) | assumption)
                          obtain ⟨ad173, e173, hx173_0, hx173_1, hx173_2⟩ := at_T46 (Kd.R_reads' HO_9.out).2.2 x10_1 p173 q173
                          obtain rfl : ad172 = ad173 := (by injection e173)
                          replace p173 := eq_true p173
                          replace q173 := eq_true q173
                          have p174 : 0 ≤ (x10_1 : Int) := of_decide_eq_true (by first | (with_reducible assumption) | assumption)
                          have q174 : x10_1 < (t163.length : Int) := of_decide_eq_true (by first | (with_reducible assumption) | assumption)
                          obtain ⟨ad174, e174, hx174_0, hx174_1, hx174_2⟩ := at_T46 (Kd.R_reads' HO_9.out).2.2 x10_1 p174 q174
                          obtain rfl : ad172 = ad174 := (by injection e174)
                          replace p174 := eq_true p174
                          replace q174 := eq_true q174
                          go_wp2
                          repeat (go_quiet (fail); try go_wp2)
                          go_meet
                          case rel => exact ⟨_, ((t167 != ((128 * ((rd_T46 t163 x10_1).f1)) % 4294967296))), (by first | rfl | (simp; done) | (simp [*]; done)), H', ⟨by have := HK1.out; have := HJ12.out; first | omega | exact Nat.le_refl _⟩, ⟨by (with_reducible repeat (first | apply Kd.R_alloc | apply Kd.R_drewN | apply Kd.R_drew)); exact HO_7.out⟩, ⟨by (with_reducible repeat (first | apply Kd.R_alloc | apply Kd.R_drewN | apply Kd.R_drew)); exact HO_9.out⟩, ⟨by (with_reducible repeat (first | refine blk_drewN ?_ _ | refine blk_drew ?_ | refine blk_alloc ?_ _)); exact BK170.out⟩, ⟨by repeat (first | (with_reducible first | exact HB.out | apply below_alloc | apply pw_below_drewN | apply below_drew1 | refine below_set ?_ GE170.out) | exact HB.out)⟩⟩
                        · rw [if_neg c28] at H
                          have c28b0 : decide (((rd_T46 t163 x10_1).f1) < ((t162) % 4294967296)) = false := decide_eq_false c28
                          have c28bz : (t169 == 0) = false := by have e_ := c25b0; rw [c28b0] at e_; simpa using e_
                          clear c28
                          have H' := Aside0.mk H
                          clear H
                          have hcz31_0 : wc.cell? ⟨gb170, 0, none⟩ = some (.int .u32 t167) := (blk_cell BK170.out 0).trans rfl
                          have hcz31_1 : wc.cell? ⟨gb170, 1, none⟩ = some (.int .u32 t168) := (blk_cell BK170.out 1).trans rfl
                          have hcz31_2 : wc.cell? ⟨gb170, 2, none⟩ = some (.int .i64 t169) := (blk_cell BK170.out 2).trans rfl
                          have hfz31_0 := blk_frozen BK170.out 0
                          have hfz31_1 := blk_frozen BK170.out 1
                          have hfz31_2 := blk_frozen BK170.out 2
                          obtain ⟨Ao32, co32, eo32⟩ := Kd.R_slice HO_9.out
                          subst eo32
                          have p172 : 0 ≤ (x10_1 : Int) := of_decide_eq_true (by first | (with_reducible assumption) | assumption)
                          have q172 : x10_1 < (t163.length : Int) := of_decide_eq_true (by first | (with_reducible assumption) | assumption)
                          obtain ⟨ad172, e172, hx172_0, hx172_1, hx172_2⟩ := at_T46 (Kd.R_reads' HO_9.out).2.2 x10_1 p172 q172
                          cases e172
                          replace p172 := eq_true p172
                          replace q172 := eq_true q172
                          have p173 : 0 ≤ (x10_1 : Int) := of_decide_eq_true (by first | (with_reducible assumption) | assumption)
                          have q173 : x10_1 < (t163.length : Int) := of_decide_eq_true (by first | (with_reducible assumption) | assumption)
                          obtain ⟨ad173, e173, hx173_0, hx173_1, hx173_2⟩ := at_T46 (Kd.R_reads' HO_9.out).2.2 x10_1 p173 q173
                          obtain rfl : ad172 = ad173 := (by injection e173)
                          replace p173 := eq_true p173
                          replace q173 := eq_true q173
                          go_wp2
                          repeat (go_quiet (fail); try go_wp2)
                          go_meet
                          case rel => exact ⟨_, (false), (by first | rfl | (simp; done) | (simp [*]; done)), H', ⟨by have := HK1.out; have := HJ12.out; first | omega | exact Nat.le_refl _⟩, ⟨by (with_reducible repeat (first | apply Kd.R_alloc | apply Kd.R_drewN | apply Kd.R_drew)); exact HO_7.out⟩, ⟨by (with_reducible repeat (first | apply Kd.R_alloc | apply Kd.R_drewN | apply Kd.R_drew)); exact HO_9.out⟩, ⟨by (with_reducible repeat (first | refine blk_drewN ?_ _ | refine blk_drew ?_ | refine blk_alloc ?_ _)); exact BK170.out⟩, ⟨by repeat (first | (with_reducible first | exact HB.out | apply below_alloc | apply pw_below_drewN | apply below_drew1 | refine below_set ?_ GE170.out) | exact HB.out)⟩⟩
                    · rw [if_neg c24] at H
                      exact absurd H (by simp)
                  · rw [if_neg c23] at H
                    exact absurd H (by simp)
                case rest =>
                  clear HC22
                  try clear c1
                  try clear p1
                  try clear q1
                  try clear hx1
                  try clear c2
                  try clear p2
                  try clear c6
                  try clear c6b0
                  try clear c6b1
                  try clear c8
                  try clear c11
                  try clear c11b0
                  try clear c17
                  try clear c17b0
                  try clear p17
                  try clear q17
                  try clear hx17
                  try clear c18
                  try clear c18b0
                  try clear c21
                  try clear c23
                  try clear c23b0
                  try clear c24
                  try clear c24b0
                  try clear c25
                  try clear c25b0
                  try clear c25b1
                  try clear c25b2
                  try clear c28
                  try clear c28b0
                  try clear hcz16_0
                  try clear hcz16_1
                  try clear hcz16_2
                  try clear hcz26_0
                  try clear hcz26_1
                  try clear hcz26_2
                  try clear hcz29_0
                  try clear hcz29_1
                  try clear hcz29_2
                  try clear hcz31_0
                  try clear hcz31_1
                  try clear hcz31_2
                  try clear hfz16_0
                  try clear hfz16_1
                  try clear hfz16_2
                  try clear hfz26_0
                  try clear hfz26_1
                  try clear hfz26_2
                  try clear hfz29_0
                  try clear hfz29_1
                  try clear hfz29_2
                  try clear hfz31_0
                  try clear hfz31_1
                  try clear hfz31_2
                  try clear hx171_0
                  try clear hx171_1
                  try clear hx171_2
                  try clear hx172_0
                  try clear hx172_1
                  try clear hx172_2
                  try clear hx173_0
                  try clear hx173_1
                  try clear hx173_2
                  try clear hx174_0
                  try clear hx174_1
                  try clear hx174_2
                  try clear p1
                  try clear p17
                  try clear p171
                  try clear p172
                  try clear p173
                  try clear p174
                  try clear p2
                  try clear q1
                  try clear q17
                  try clear q171
                  try clear q172
                  try clear q173
                  try clear q174
                  obtain ⟨kq, x77_21, rfl, HA, HJ21, HO_7, HO_9, BK170, HB⟩ := hcut
                  cases kq with
                  | zero => exact absurd HA.out (by simp [vmfleetlaw5_PagingLists.j2])
                  | succ kj21 =>
                    have H := HA.out
                    clear HA
                    simp only [vmfleetlaw5_PagingLists.j2] at H
                    by_cases c33 : x77_21 = true
                    · subst c33
                      have H1 : (some false) = some r := by rw [if_pos rfl] at H; exact H
                      clear H
                      have H := H1
                      clear H1
                      obtain rfl := Option.some.inj H
                      go_wp2
                      repeat (go_quiet (fail); try go_wp2)
                      go_ret
                      exact ⟨by first | rfl | (simp [errW_none, errW_some] <;> rfl) | (simp [*, errW_none, errW_some] <;> rfl), by repeat (first | (with_reducible first | exact HB.out | apply below_alloc | apply pw_below_drewN | apply below_drew1 | refine below_set ?_ GE170.out) | exact HB.out)⟩
                    · replace c33 := Bool.eq_false_iff.mpr c33
                      subst c33
                      have H1 : (vmfleetlaw5_PagingLists.l0 kj21 (Int.tmod a2 ((t162) % 4294967296)) t159 ((t162) % 4294967296) t163 (wrap64 (x10_1 + 1)) ((x11_1 + 1) % 4294967296)) = some r := by rw [if_neg (show ¬ (false = true) by decide)] at H; exact H
                      clear H
                      have H := H1
                      clear H1
                      have H' := Aside0.mk H
                      clear H
                      go_wp2
                      repeat (go_quiet (fail); try go_wp2)
                      go_roundg kj21
                      case measure => have := HK1.out; have := HJ12.out; have := HJ21.out; omega
                      case rel => exact ⟨(wrap64 (x10_1 + 1)), ((x11_1 + 1) % 4294967296), (by first | rfl | (simp; done) | (simp [*]; done)), (by first | rfl | (simp; done) | (simp [*]; done)), H', ⟨by have := HK1.out; have := HJ12.out; have := HJ21.out; omega⟩, ⟨by (with_reducible repeat (first | apply Kd.R_alloc | apply Kd.R_drewN | apply Kd.R_drew)); exact HO_7.out⟩, ⟨by (with_reducible repeat (first | apply Kd.R_alloc | apply Kd.R_drewN | apply Kd.R_drew)); exact HO_9.out⟩, ⟨by repeat (first | (with_reducible first | exact HB.out | apply below_alloc | apply pw_below_drewN | apply below_drew1 | refine below_set ?_ GE170.out) | exact HB.out)⟩⟩
              · replace c21 := Bool.eq_false_iff.mpr c21
                subst c21
                have H1 : (if t169 = 0 then (some false) else (vmfleetlaw5_PagingLists.l0 kj12 (Int.tmod a2 ((t162) % 4294967296)) t159 ((t162) % 4294967296) t163 x10_1 ((x11_1 + 1) % 4294967296))) = some r := by rw [if_neg (show ¬ (false = true) by decide)] at H; exact H
                clear H
                have H := H1
                clear H1
                by_cases c34 : t169 = 0
                · rw [if_pos c34] at H
                  have c34b0 : (t169 == 0) = true := beq_iff_eq.mpr c34
                  have c34b1 : (t169 != 0) = false := bne_eq_false_iff_eq.mpr c34
                  clear c34
                  obtain rfl := Option.some.inj H
                  have hcz35_0 : wc.cell? ⟨gb170, 0, none⟩ = some (.int .u32 t167) := (blk_cell BK170.out 0).trans rfl
                  have hcz35_1 : wc.cell? ⟨gb170, 1, none⟩ = some (.int .u32 t168) := (blk_cell BK170.out 1).trans rfl
                  have hcz35_2 : wc.cell? ⟨gb170, 2, none⟩ = some (.int .i64 t169) := (blk_cell BK170.out 2).trans rfl
                  have hfz35_0 := blk_frozen BK170.out 0
                  have hfz35_1 := blk_frozen BK170.out 1
                  have hfz35_2 := blk_frozen BK170.out 2
                  go_wp2
                  repeat (go_quiet (fail); try go_wp2)
                  go_ret
                  exact ⟨by first | rfl | (simp [errW_none, errW_some] <;> rfl) | (simp [*, errW_none, errW_some] <;> rfl), by repeat (first | (with_reducible first | exact HB.out | apply below_alloc | apply pw_below_drewN | apply below_drew1 | refine below_set ?_ GE170.out) | exact HB.out)⟩
                · rw [if_neg c34] at H
                  have c34b0 : (t169 == 0) = false := beq_eq_false_iff_ne.mpr c34
                  have c34b1 : (t169 != 0) = true := bne_iff_ne.mpr c34
                  have H' := Aside0.mk H
                  clear H
                  have hcz36_0 : wc.cell? ⟨gb170, 0, none⟩ = some (.int .u32 t167) := (blk_cell BK170.out 0).trans rfl
                  have hcz36_1 : wc.cell? ⟨gb170, 1, none⟩ = some (.int .u32 t168) := (blk_cell BK170.out 1).trans rfl
                  have hcz36_2 : wc.cell? ⟨gb170, 2, none⟩ = some (.int .i64 t169) := (blk_cell BK170.out 2).trans rfl
                  have hfz36_0 := blk_frozen BK170.out 0
                  have hfz36_1 := blk_frozen BK170.out 1
                  have hfz36_2 := blk_frozen BK170.out 2
                  go_wp2
                  repeat (go_quiet (fail); try go_wp2)
                  go_roundg kj12
                  case measure => have := HK1.out; have := HJ12.out; omega
                  case rel => exact ⟨(x10_1), ((x11_1 + 1) % 4294967296), (by first | rfl | (simp; done) | (simp [*]; done)), (by first | rfl | (simp; done) | (simp [*]; done)), H', ⟨by have := HK1.out; have := HJ12.out; omega⟩, ⟨by (with_reducible repeat (first | apply Kd.R_alloc | apply Kd.R_drewN | apply Kd.R_drew)); exact HO_7.out⟩, ⟨by (with_reducible repeat (first | apply Kd.R_alloc | apply Kd.R_drewN | apply Kd.R_drew)); exact HO_9.out⟩, ⟨by repeat (first | (with_reducible first | exact HB.out | apply below_alloc | apply pw_below_drewN | apply below_drew1 | refine below_set ?_ GE170.out) | exact HB.out)⟩⟩
        · rw [if_neg c11] at H
          have c11b0 : decide (x11_1 < 32) = false := decide_eq_false c11
          clear c11
          by_cases c37 : x10_1 = (t163.length : Int)
          · rw [if_pos c37] at H
            have c37b0 : (x10_1 == (t163.length : Int)) = true := beq_iff_eq.mpr c37
            have c37b1 : (x10_1 != (t163.length : Int)) = false := bne_eq_false_iff_eq.mpr c37
            clear c37
            replace H := Option.bind_eq_some_iff.mp H
            obtain ⟨t166, A380, H⟩ := H
            replace H : (some t166) = some r := H
            have A38 := Aside0.mk A380
            clear A380
            obtain rfl := Option.some.inj H
            obtain ⟨Ao39, co39, eo39⟩ := Kd.R_slice HO_9.out
            subst eo39
            go_wp2_with (first | (go_at_call 14; (with_reducible refine (vmfleetlaw5_awake.calls k1  t166 _ A38.out).mono ?_); rintro e w40 ⟨rfl, hb⟩; have n0_ := Aside0.mk (Kd.R_below (by (with_reducible repeat (first | apply Kd.R_alloc | apply Kd.R_drewN | apply Kd.R_drew)); exact HO_7.out) hb); have n1_ := Aside0.mk (Kd.R_below (by (with_reducible repeat (first | apply Kd.R_alloc | apply Kd.R_drewN | apply Kd.R_drew)); exact HO_9.out) hb); have n2_ := Aside0.mk (below_step (by repeat (first | (with_reducible first | exact HB.out | apply below_alloc | apply pw_below_drewN | apply below_drew1) | exact HB.out)) hb); clear HO_7; clear HO_9; clear HB; have HO_7 := n0_; have HO_9 := n1_; have HB := n2_; clear n0_ n1_ n2_; (try clear hb); (try clear hb2); (try clear hk); (try clear hi)))
            repeat (go_quiet (first | (go_at_call 14; (with_reducible refine (vmfleetlaw5_awake.calls k1  t166 _ A38.out).mono ?_); rintro e w40 ⟨rfl, hb⟩; have n0_ := Aside0.mk (Kd.R_below (by (with_reducible repeat (first | apply Kd.R_alloc | apply Kd.R_drewN | apply Kd.R_drew)); exact HO_7.out) hb); have n1_ := Aside0.mk (Kd.R_below (by (with_reducible repeat (first | apply Kd.R_alloc | apply Kd.R_drewN | apply Kd.R_drew)); exact HO_9.out) hb); have n2_ := Aside0.mk (below_step (by repeat (first | (with_reducible first | exact HB.out | apply below_alloc | apply pw_below_drewN | apply below_drew1) | exact HB.out)) hb); clear HO_7; clear HO_9; clear HB; have HO_7 := n0_; have HO_9 := n1_; have HB := n2_; clear n0_ n1_ n2_; (try clear hb); (try clear hb2); (try clear hk); (try clear hi))); try go_wp2_with (first | (go_at_call 14; (with_reducible refine (vmfleetlaw5_awake.calls k1  t166 _ A38.out).mono ?_); rintro e w40 ⟨rfl, hb⟩; have n0_ := Aside0.mk (Kd.R_below (by (with_reducible repeat (first | apply Kd.R_alloc | apply Kd.R_drewN | apply Kd.R_drew)); exact HO_7.out) hb); have n1_ := Aside0.mk (Kd.R_below (by (with_reducible repeat (first | apply Kd.R_alloc | apply Kd.R_drewN | apply Kd.R_drew)); exact HO_9.out) hb); have n2_ := Aside0.mk (below_step (by repeat (first | (with_reducible first | exact HB.out | apply below_alloc | apply pw_below_drewN | apply below_drew1) | exact HB.out)) hb); clear HO_7; clear HO_9; clear HB; have HO_7 := n0_; have HO_9 := n1_; have HB := n2_; clear n0_ n1_ n2_; (try clear hb); (try clear hb2); (try clear hk); (try clear hi))))
            go_ret
            exact ⟨by first | rfl | (simp [errW_none, errW_some] <;> rfl) | (simp [*, errW_none, errW_some] <;> rfl), by repeat (first | (with_reducible first | exact HB.out | apply below_alloc | apply pw_below_drewN | apply below_drew1) | exact HB.out)⟩
          · rw [if_neg c37] at H
            have c37b0 : (x10_1 == (t163.length : Int)) = false := beq_eq_false_iff_ne.mpr c37
            have c37b1 : (x10_1 != (t163.length : Int)) = true := bne_iff_ne.mpr c37
            obtain rfl := Option.some.inj H
            obtain ⟨Ao41, co41, eo41⟩ := Kd.R_slice HO_9.out
            subst eo41
            go_wp2
            repeat (go_quiet (fail); try go_wp2)
            go_ret
            exact ⟨by first | rfl | (simp [errW_none, errW_some] <;> rfl) | (simp [*, errW_none, errW_some] <;> rfl), by repeat (first | (with_reducible first | exact HB.out | apply below_alloc | apply pw_below_drewN | apply below_drew1) | exact HB.out)⟩

/-- THE ONE PURE STATEMENT of vmfleetlaw5_PagingLists: yours. -/
def vmfleetlaw5_PagingLists.Pure : Prop := ∀ (l0 : List Int) (a1 : Int) (a2 : Int), l0.length ≤ maxLen → l0.length * 8 ≤ 140737488351232 → (∀ x ∈ l0, (Lit.int .i64 x).wf = true) → (Lit.int .i64 a1).wf = true → (Lit.int .u32 a2).wf = true → ∃ k, vmfleetlaw5_PagingLists.f k l0 a1 a2 = some true
theorem vmfleetlaw5_PagingLists.walk (P : vmfleetlaw5_PagingLists.Pure) (a0 : Option Addr) (len0 cap0 : Nat) (z0 : List Int) (a1 : Int) (a2 : Int) (w : World) (w0 : (a0 = none ∧ len0 = 0 ∧ cap0 = 0 ∧ z0 = []) ∨ ∃ x, a0 = some x ∧ len0 ≤ cap0 ∧ cap0 ≤ maxLen ∧ z0.length = cap0 ∧ (∀ i, i < z0.length → w.cell? (x.add i) = some (.int .i64 (z0.getD i 0))) ∧ ∀ n ∈ z0, (Lit.int .i64 n).wf = true) (y0 : len0 * 8 ≤ 140737488351232) (w1 : (Lit.int .i64 a1).wf = true) (w2 : (Lit.int .u32 a2).wf = true) :
    Calls Try.prog 8 #[.slice a0 len0 cap0, .int .i64 a1, .int .u32 a2] w fun e w' => e = .returned (.bool true) ∧ Below w.heap.size w w' := by
  obtain ⟨l0, rfl, hr0, hm0, hw0, hc0⟩ := ReadsInt.ofRowC w0
  obtain ⟨k, h⟩ := P l0 a1 a2 hm0 y0 hw0 w1 w2
  refine (vmfleetlaw5_PagingLists.calls k _ _ l0 a1 a2 true w (Kd.C_of_reads (d := (0 : Int)) (h1 := fun _ => rfl) hr0) hc0 h).mono ?_
  rintro e w' ⟨rfl, hd⟩
  exact ⟨rfl, hd⟩

end Go.Proofs.Ytbijkhoeaddemaa.HPagingLists
