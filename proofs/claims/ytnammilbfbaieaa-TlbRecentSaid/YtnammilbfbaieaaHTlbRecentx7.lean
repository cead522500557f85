-- Written for this claim by wip/hook.py, by means of the kit's print and of hand-proved contracts.
import Derived.Test.YtnammilbfbaieaaHTlbRecentx0
import Derived.Test.YtnammilbfbaieaaHTlbRecentx2
import Derived.Test.YtnammilbfbaieaaHTlbRecentx5
import Derived.Test.YtnammilbfbaieaaHTlbRecentx6
namespace Go.Proofs.Ytnammilbfbaieaa.HTlbRecent
open Go.RowKit Go.Proofs.YtnammilbfbaieaaW.PrintWords Go.Proofs.YtnammilbfbaieaaW.PrintLast Go.Proofs.YtnammilbfbaieaaW.PrintMore
attribute [local go_sem] max2_int min2_int max_two min_two max_three min_three max_four min_four   -- for this text's walks alone
attribute [local go_sem] Instr.field asAgg
set_option linter.unusedVariables false
set_option linter.unusedSimpArgs false

/-! ### vmfleetlaw14_TlbRecent: function 4 -/
mutual
def vmfleetlaw14_TlbRecent.j0 : Nat → Int → Int → List Int → Bool → Option (Bool)
  | 0, _, _, _, _ => none
  | k + 1, x0, x1, x2, x26 => if x26 = true then ((vmfleetlaw14_awake.f k).bind fun t249 => (some t249)) else ((vmfleetref1_New.f 2).bind fun t250 => (vmfleetlaw14_TlbRecent.l0 k x0 x1 x2 t250 0))
def vmfleetlaw14_TlbRecent.l0 : Nat → Int → Int → List Int → List Int → Int → Option (Bool)
  | 0, _, _, _, _, _ => none
  | k + 1, x0, x1, x2, x7, x8 => if x8 < 32 then (if 0 ≤ x8 then (if x8 < (x7.length : Int) then (vmfleetlaw14_TlbRecent.l0 k x0 x1 x2 (x7.set (x8 : Int).toNat 257) (wrap64 (x8 + 1))) else (none)) else (none)) else (vmfleetlaw14_TlbRecent.l1 k x0 x1 x2 x7 ([] : List (S49)) 0)
def vmfleetlaw14_TlbRecent.l1 : Nat → Int → Int → List Int → List Int → List (S49) → Int → Option (Bool)
  | 0, _, _, _, _, _, _ => none
  | k + 1, x0, x1, x2, x7, x9, x10 => if x10 < (x2.length : Int) then (if 0 ≤ x10 then ((vmfleetmake_Round.f (rd x2 x10) 4096).bind fun t255 => ((tlb_Fill.f k x9 x7 0 ((t255) % 4294967296) 2).bind fun bt256 => (vmfleetlaw14_TlbRecent.l1 k x0 x1 x2 bt256.2.2.2.2 bt256.2.2.2.1 (wrap64 (x10 + 1))))) else (none)) else (vmfleetlaw14_TlbRecent.l2 k x0 x1 x7 x9 0)
def vmfleetlaw14_TlbRecent.l2 : Nat → Int → Int → List Int → List (S49) → Int → Option (Bool)
  | 0, _, _, _, _, _ => none
  | k + 1, x0, x1, x7, x9, x11 => if x11 < x1 then ((tlb_Fill.f k x9 x7 0 ((((x0 + (x11)) % 4294967296) % 32) * 128) 2).bind fun bt265 => (vmfleetlaw14_TlbRecent.l2 k x0 x1 bt265.2.2.2.2 bt265.2.2.2.1 (wrap64 (x11 + 1)))) else (vmfleetlaw14_TlbRecent.l3 k x0 x1 x9 0)
def vmfleetlaw14_TlbRecent.l3 : Nat → Int → Int → List (S49) → Int → Option (Bool)
  | 0, _, _, _, _ => none
  | k + 1, x0, x1, x9, x12 => if x12 < x1 then ((tlb_Lookup.f k x9 (((x0 + (x12)) % 4294967296) % 32) 2).bind fun bt274 => (if bt274.2.2 = true then (if bt274.1 = 1 then (vmfleetlaw14_TlbRecent.l3 k x0 x1 bt274.2.1 (wrap64 (x12 + 1))) else (some false)) else (some false))) else ((vmfleetlaw14_awake.f k).bind fun t279 => (some t279))
end
def vmfleetlaw14_TlbRecent.f (k : Nat) (a0 : Int) (a1 : Int) (l2 : List Int) : Option (Bool) := if a1 < 1 then (vmfleetlaw14_TlbRecent.j0 k a0 a1 l2 true) else (if a1 > 8 then (vmfleetlaw14_TlbRecent.j0 k a0 a1 l2 true) else (vmfleetlaw14_TlbRecent.j0 k a0 a1 l2 (decide ((l2.length : Int) > 20))))
theorem vmfleetlaw14_TlbRecent.mono_l : ∀ k, (∀ y0 y1 y2 y3, LeO (vmfleetlaw14_TlbRecent.j0 k y0 y1 y2 y3) (vmfleetlaw14_TlbRecent.j0 (k + 1) y0 y1 y2 y3)) ∧ (∀ y0 y1 y2 y3 y4, LeO (vmfleetlaw14_TlbRecent.l0 k y0 y1 y2 y3 y4) (vmfleetlaw14_TlbRecent.l0 (k + 1) y0 y1 y2 y3 y4)) ∧ (∀ y0 y1 y2 y3 y4 y5, LeO (vmfleetlaw14_TlbRecent.l1 k y0 y1 y2 y3 y4 y5) (vmfleetlaw14_TlbRecent.l1 (k + 1) y0 y1 y2 y3 y4 y5)) ∧ (∀ y0 y1 y2 y3 y4, LeO (vmfleetlaw14_TlbRecent.l2 k y0 y1 y2 y3 y4) (vmfleetlaw14_TlbRecent.l2 (k + 1) y0 y1 y2 y3 y4)) ∧ (∀ y0 y1 y2 y3, LeO (vmfleetlaw14_TlbRecent.l3 k y0 y1 y2 y3) (vmfleetlaw14_TlbRecent.l3 (k + 1) y0 y1 y2 y3))
  | 0 => ⟨fun _ _ _ _ r h => by simp [vmfleetlaw14_TlbRecent.j0] at h, fun _ _ _ _ _ r h => by simp [vmfleetlaw14_TlbRecent.l0] at h, fun _ _ _ _ _ _ r h => by simp [vmfleetlaw14_TlbRecent.l1] at h, fun _ _ _ _ _ r h => by simp [vmfleetlaw14_TlbRecent.l2] at h, fun _ _ _ _ r h => by simp [vmfleetlaw14_TlbRecent.l3] at h⟩
  | k + 1 => by
    obtain ⟨ih0, ih1, ih2, ih3, ih4⟩ := vmfleetlaw14_TlbRecent.mono_l k
    refine ⟨?_, ?_, ?_, ?_, ?_⟩
    · intro y0 y1 y2 y3
      unfold vmfleetlaw14_TlbRecent.j0
      repeat' first
      | (with_reducible exact ih0 _ _ _ _)
      | (with_reducible exact ih1 _ _ _ _ _)
      | (with_reducible exact ih2 _ _ _ _ _ _)
      | (with_reducible exact ih3 _ _ _ _ _)
      | (with_reducible exact ih4 _ _ _ _)
      | (with_reducible exact tlb_Fill.mono _ _ _ _ _ _)
      | (with_reducible exact tlb_Lookup.mono _ _ _ _)
      | (with_reducible exact vmfleetlaw14_awake.mono _)
      | (with_reducible exact LeO.refl _)
      | (with_reducible exact LeO.none _)
      | (with_reducible refine LeO.ite ?_ ?_)
      | (with_reducible refine LeO.bind ?_ (fun _ => ?_))
      | exact ih0 _ _ _ _
      | exact ih1 _ _ _ _ _
      | exact ih2 _ _ _ _ _ _
      | exact ih3 _ _ _ _ _
      | exact ih4 _ _ _ _
      | exact tlb_Fill.mono _ _ _ _ _ _
      | exact tlb_Lookup.mono _ _ _ _
      | exact vmfleetlaw14_awake.mono _
      | exact LeO.none _
      | refine LeO.ite ?_ ?_
      | refine LeO.bind ?_ (fun _ => ?_)
    · intro y0 y1 y2 y3 y4
      unfold vmfleetlaw14_TlbRecent.l0
      repeat' first
      | (with_reducible exact ih0 _ _ _ _)
      | (with_reducible exact ih1 _ _ _ _ _)
      | (with_reducible exact ih2 _ _ _ _ _ _)
      | (with_reducible exact ih3 _ _ _ _ _)
      | (with_reducible exact ih4 _ _ _ _)
      | (with_reducible exact tlb_Fill.mono _ _ _ _ _ _)
      | (with_reducible exact tlb_Lookup.mono _ _ _ _)
      | (with_reducible exact vmfleetlaw14_awake.mono _)
      | (with_reducible exact LeO.refl _)
      | (with_reducible exact LeO.none _)
      | (with_reducible refine LeO.ite ?_ ?_)
      | (with_reducible refine LeO.bind ?_ (fun _ => ?_))
      | exact ih0 _ _ _ _
      | exact ih1 _ _ _ _ _
      | exact ih2 _ _ _ _ _ _
      | exact ih3 _ _ _ _ _
      | exact ih4 _ _ _ _
      | exact tlb_Fill.mono _ _ _ _ _ _
      | exact tlb_Lookup.mono _ _ _ _
      | exact vmfleetlaw14_awake.mono _
      | exact LeO.none _
      | refine LeO.ite ?_ ?_
      | refine LeO.bind ?_ (fun _ => ?_)
    · intro y0 y1 y2 y3 y4 y5
      unfold vmfleetlaw14_TlbRecent.l1
      repeat' first
      | (with_reducible exact ih0 _ _ _ _)
      | (with_reducible exact ih1 _ _ _ _ _)
      | (with_reducible exact ih2 _ _ _ _ _ _)
      | (with_reducible exact ih3 _ _ _ _ _)
      | (with_reducible exact ih4 _ _ _ _)
      | (with_reducible exact tlb_Fill.mono _ _ _ _ _ _)
      | (with_reducible exact tlb_Lookup.mono _ _ _ _)
      | (with_reducible exact vmfleetlaw14_awake.mono _)
      | (with_reducible exact LeO.refl _)
      | (with_reducible exact LeO.none _)
      | (with_reducible refine LeO.ite ?_ ?_)
      | (with_reducible refine LeO.bind ?_ (fun _ => ?_))
      | exact ih0 _ _ _ _
      | exact ih1 _ _ _ _ _
      | exact ih2 _ _ _ _ _ _
      | exact ih3 _ _ _ _ _
      | exact ih4 _ _ _ _
      | exact tlb_Fill.mono _ _ _ _ _ _
      | exact tlb_Lookup.mono _ _ _ _
      | exact vmfleetlaw14_awake.mono _
      | exact LeO.none _
      | refine LeO.ite ?_ ?_
      | refine LeO.bind ?_ (fun _ => ?_)
    · intro y0 y1 y2 y3 y4
      unfold vmfleetlaw14_TlbRecent.l2
      repeat' first
      | (with_reducible exact ih0 _ _ _ _)
      | (with_reducible exact ih1 _ _ _ _ _)
      | (with_reducible exact ih2 _ _ _ _ _ _)
      | (with_reducible exact ih3 _ _ _ _ _)
      | (with_reducible exact ih4 _ _ _ _)
      | (with_reducible exact tlb_Fill.mono _ _ _ _ _ _)
      | (with_reducible exact tlb_Lookup.mono _ _ _ _)
      | (with_reducible exact vmfleetlaw14_awake.mono _)
      | (with_reducible exact LeO.refl _)
      | (with_reducible exact LeO.none _)
      | (with_reducible refine LeO.ite ?_ ?_)
      | (with_reducible refine LeO.bind ?_ (fun _ => ?_))
      | exact ih0 _ _ _ _
      | exact ih1 _ _ _ _ _
      | exact ih2 _ _ _ _ _ _
      | exact ih3 _ _ _ _ _
      | exact ih4 _ _ _ _
      | exact tlb_Fill.mono _ _ _ _ _ _
      | exact tlb_Lookup.mono _ _ _ _
      | exact vmfleetlaw14_awake.mono _
      | exact LeO.none _
      | refine LeO.ite ?_ ?_
      | refine LeO.bind ?_ (fun _ => ?_)
    · intro y0 y1 y2 y3
      unfold vmfleetlaw14_TlbRecent.l3
      repeat' first
      | (with_reducible exact ih0 _ _ _ _)
      | (with_reducible exact ih1 _ _ _ _ _)
      | (with_reducible exact ih2 _ _ _ _ _ _)
      | (with_reducible exact ih3 _ _ _ _ _)
      | (with_reducible exact ih4 _ _ _ _)
      | (with_reducible exact tlb_Fill.mono _ _ _ _ _ _)
      | (with_reducible exact tlb_Lookup.mono _ _ _ _)
      | (with_reducible exact vmfleetlaw14_awake.mono _)
      | (with_reducible exact LeO.refl _)
      | (with_reducible exact LeO.none _)
      | (with_reducible refine LeO.ite ?_ ?_)
      | (with_reducible refine LeO.bind ?_ (fun _ => ?_))
      | exact ih0 _ _ _ _
      | exact ih1 _ _ _ _ _
      | exact ih2 _ _ _ _ _ _
      | exact ih3 _ _ _ _ _
      | exact ih4 _ _ _ _
      | exact tlb_Fill.mono _ _ _ _ _ _
      | exact tlb_Lookup.mono _ _ _ _
      | exact vmfleetlaw14_awake.mono _
      | exact LeO.none _
      | refine LeO.ite ?_ ?_
      | refine LeO.bind ?_ (fun _ => ?_)
theorem vmfleetlaw14_TlbRecent.mono : ∀ a0 a1 a2 k, LeO (vmfleetlaw14_TlbRecent.f k a0 a1 a2) (vmfleetlaw14_TlbRecent.f (k + 1) a0 a1 a2) := by
  intro a0 a1 a2 k
  obtain ⟨ih0, ih1, ih2, ih3, ih4⟩ := vmfleetlaw14_TlbRecent.mono_l k
  unfold vmfleetlaw14_TlbRecent.f
  repeat' first
      | (with_reducible exact ih0 _ _ _ _)
      | (with_reducible exact ih1 _ _ _ _ _)
      | (with_reducible exact ih2 _ _ _ _ _ _)
      | (with_reducible exact ih3 _ _ _ _ _)
      | (with_reducible exact ih4 _ _ _ _)
      | (with_reducible exact tlb_Fill.mono _ _ _ _ _ _)
      | (with_reducible exact tlb_Lookup.mono _ _ _ _)
      | (with_reducible exact vmfleetlaw14_awake.mono _)
      | (with_reducible exact LeO.refl _)
      | (with_reducible exact LeO.none _)
      | (with_reducible refine LeO.ite ?_ ?_)
      | (with_reducible refine LeO.bind ?_ (fun _ => ?_))
      | exact ih0 _ _ _ _
      | exact ih1 _ _ _ _ _
      | exact ih2 _ _ _ _ _ _
      | exact ih3 _ _ _ _ _
      | exact ih4 _ _ _ _
      | exact tlb_Fill.mono _ _ _ _ _ _
      | exact tlb_Lookup.mono _ _ _ _
      | exact vmfleetlaw14_awake.mono _
      | exact LeO.none _
      | refine LeO.ite ?_ ?_
      | refine LeO.bind ?_ (fun _ => ?_)
set_option maxHeartbeats 8000000 in
set_option maxRecDepth 100000 in
theorem vmfleetlaw14_TlbRecent.calls (k : Nat) (a0 : Int) (a1 : Int) (A2 : Option Addr) (c2 : Nat) (l2 : List Int) (r : Bool) (w : World) (hr2 : Kd.C (Kd.int .i64) w A2 l2.length l2) (hc2 : l2.length ≤ c2) (h : vmfleetlaw14_TlbRecent.f k a0 a1 l2 = some r) :
    Calls Try.prog 4 #[.int .u32 a0, .int .i64 a1, .slice A2 l2.length c2] w fun e w' => e = .returned (.bool r) ∧ Below w.heap.size w w' := by
  have HR2 := Aside0.mk hr2
  have HC2 := Aside0.mk hc2
  clear hr2 hc2
  have HB := Aside0.mk (Below.refl w.heap.size w)
  have H : (if a1 < 1 then (vmfleetlaw14_TlbRecent.j0 k a0 a1 l2 true) else (if a1 > 8 then (vmfleetlaw14_TlbRecent.j0 k a0 a1 l2 true) else (vmfleetlaw14_TlbRecent.j0 k a0 a1 l2 (decide ((l2.length : Int) > 20))))) = some r := h
  clear h
  have HC4 := Aside0.mk H
  clear H
  go_enter Try.func4, Try.ntmps4
  go_upto_region 1 with (fail)
  go_cut [26] (fun v26 wc => ∃ (kq : Nat) (x26_3 : Bool), v26 = .bool x26_3 ∧ Aside0 (vmfleetlaw14_TlbRecent.j0 kq a0 a1 l2 x26_3 = some r) ∧ Aside0 (kq ≤ k) ∧ Aside0 (Below w.heap.size w wc))
  case first =>
    have H := HC4.out
    clear HC4
    by_cases c5 : a1 < 1
    · rw [if_pos c5] at H
      have c5b0 : decide (a1 < 1) = true := decide_eq_true c5
      clear c5
      (first | rw [c5b0] | (simp only [i64_w, i32_w]; rw [c5b0]) | skip)
      have H' := Aside0.mk H
      clear H
      go_wp2
      go_meet
      case rel => exact ⟨_, (true), (by first | rfl | (simp; done) | (simp [*]; done)), H', ⟨by first | omega | exact Nat.le_refl _⟩, ⟨by repeat (first | (with_reducible first | exact HB.out | apply below_alloc | apply pw_below_drewN | apply below_drew1) | exact HB.out)⟩⟩
    · rw [if_neg c5] at H
      have c5b0 : decide (a1 < 1) = false := decide_eq_false c5
      clear c5
      (first | rw [c5b0] | (simp only [i64_w, i32_w]; rw [c5b0]) | skip)
      by_cases c6 : a1 > 8
      · rw [if_pos c6] at H
        have c6b0 : decide (8 < a1) = true := decide_eq_true c6
        clear c6
        have H' := Aside0.mk H
        clear H
        go_wp2
        go_meet
        case rel => exact ⟨_, (true), (by first | rfl | (simp; done) | (simp [*]; done)), H', ⟨by first | omega | exact Nat.le_refl _⟩, ⟨by repeat (first | (with_reducible first | exact HB.out | apply below_alloc | apply pw_below_drewN | apply below_drew1) | exact HB.out)⟩⟩
      · rw [if_neg c6] at H
        have c6b0 : decide (8 < a1) = false := decide_eq_false c6
        clear c6
        have H' := Aside0.mk H
        clear H
        go_wp2
        go_meet
        case rel => exact ⟨_, (decide ((l2.length : Int) > 20)), (by first | rfl | (simp; done) | (simp [*]; done)), H', ⟨by first | omega | exact Nat.le_refl _⟩, ⟨by repeat (first | (with_reducible first | exact HB.out | apply below_alloc | apply pw_below_drewN | apply below_drew1) | exact HB.out)⟩⟩
  case rest =>
    clear HC4
    try clear c2
    try clear p2
    try clear c4
    try clear c5
    try clear c5b0
    try clear c6
    try clear c6b0
    obtain ⟨kq, x26_3, rfl, HA, HJ3, HB⟩ := hcut
    cases kq with
    | zero => exact absurd HA.out (by simp [vmfleetlaw14_TlbRecent.j0])
    | succ kj3 =>
      have H := HA.out
      clear HA
      simp only [vmfleetlaw14_TlbRecent.j0] at H
      by_cases c7 : x26_3 = true
      · subst c7
        have H1 : ((vmfleetlaw14_awake.f kj3).bind fun t249 => (some t249)) = some r := by rw [if_pos rfl] at H; exact H
        clear H
        have H := H1
        clear H1
        replace H := Option.bind_eq_some_iff.mp H
        obtain ⟨t249, A80, H⟩ := H
        replace H : (some t249) = some r := H
        have A8 := Aside0.mk A80
        clear A80
        obtain rfl := Option.some.inj H
        go_wp2_with (first | ((with_reducible refine gate_callee (f := 5) rfl ?_); refine goesL_ (some 27) rfl rfl Try.func5 (by kernel_rfl) rfl #[] rfl (by (try simp only [List.map_toArray, List.map_cons, List.map_nil]); first | done | rfl | (simp only [List.length_drop, List.length_take]; rfl)) ?_; (with_reducible refine (vmfleetlaw14_awake.calls kj3  t249 _ A8.out).mono ?_); rintro e w9 ⟨rfl, hb⟩; refine ⟨_, rfl, ?_⟩; have n0_ := Aside0.mk (below_step (by repeat (first | (with_reducible first | exact HB.out | apply below_alloc | apply pw_below_drewN | apply below_drew1) | exact HB.out)) hb); clear HB; have HB := n0_; clear n0_; (try clear hb); (try clear hb2); (try clear hk); (try clear hi)))
        go_ret
        exact ⟨by first | rfl | (simp [errW_none, errW_some] <;> rfl) | (simp [*, errW_none, errW_some] <;> rfl), by repeat (first | (with_reducible first | exact HB.out | apply below_alloc | apply pw_below_drewN | apply below_drew1) | exact HB.out)⟩
      · replace c7 := Bool.eq_false_iff.mpr c7
        subst c7
        have H1 : ((vmfleetref1_New.f 2).bind fun t250 => (vmfleetlaw14_TlbRecent.l0 kj3 a0 a1 l2 t250 0)) = some r := by rw [if_neg (show ¬ (false = true) by decide)] at H; exact H
        clear H
        have H := H1
        clear H1
        replace H := Option.bind_eq_some_iff.mp H
        obtain ⟨t250, A100, H⟩ := H
        replace H : (vmfleetlaw14_TlbRecent.l0 kj3 a0 a1 l2 t250 0) = some r := H
        have A10 := Aside0.mk A100
        clear A100
        have H' := Aside0.mk H
        clear H
        go_wp2_with (first | ((with_reducible refine gate_callee (f := 15) rfl ?_); refine goesL_ (some 28) rfl rfl Try.func15 (by kernel_rfl) rfl #[.int .i64 2] rfl (by (try simp only [List.map_toArray, List.map_cons, List.map_nil]); first | done | rfl | (simp only [List.length_drop, List.length_take]; rfl)) ?_; (with_reducible refine (vmfleetref1_New.calls 2 t250 _ A10.out).mono ?_); rintro e w11 ⟨v251, rfl, ho0, hb⟩; refine ⟨_, rfl, ?_⟩; have n0_ := Aside0.mk (Kd.R_lower ho0 (below_size (by repeat (first | (with_reducible first | exact HB.out | apply below_alloc | apply pw_below_drewN | apply below_drew1) | exact HB.out)))); have n1_ := Aside0.mk (below_step (by repeat (first | (with_reducible first | exact HB.out | apply below_alloc | apply pw_below_drewN | apply below_drew1) | exact HB.out)) hb); clear HB; have HO252 := n0_; have HB := n1_; clear n0_ n1_; (try clear hb); (try clear hb2); (try clear hk); (try clear hi); (try clear ho0)))
        go_loopg [8] kj3 (fun kq v8 w' => ∃ (x7_2 : List Int) (x8_2 : Int), v8 = .int .i64 x8_2 ∧ Aside0 (vmfleetlaw14_TlbRecent.l0 kq a0 a1 l2 x7_2 x8_2 = some r) ∧ Aside0 (kq ≤ kj3) ∧ Aside0 (Kd.R (Kd.int .u32) 23 w' w.heap.size (fun _ => True) v251 x7_2) ∧ Aside0 (Below w.heap.size w w'))
        case atStart => exact ⟨(t250), (0), (by first | rfl | (simp; done) | (simp [*]; done)), H', ⟨Nat.le_refl _⟩, ⟨by (with_reducible repeat (first | apply Kd.R_alloc | apply Kd.R_drewN | apply Kd.R_drew)); exact HO252.out⟩, ⟨by repeat (first | (with_reducible first | exact HB.out | apply below_alloc | apply pw_below_drewN | apply below_drew1) | exact HB.out)⟩⟩
        case round =>
          clear H'
          try clear c1
          try clear c2
          try clear p2
          try clear c4
          try clear c5
          try clear c5b0
          try clear c6
          try clear c6b0
          try clear c7
          try clear p2
          obtain ⟨x7_2, x8_2, rfl, HA, HK2, HO_7, HB⟩ := hrel
          cases gk with
          | zero => exact absurd HA.out (by simp [vmfleetlaw14_TlbRecent.l0])
          | succ k2 =>
            have H := HA.out
            clear HA
            simp only [vmfleetlaw14_TlbRecent.l0] at H
            by_cases c12 : x8_2 < 32
            · rw [if_pos c12] at H
              have c12b0 : decide (x8_2 < 32) = true := decide_eq_true c12
              clear c12
              by_cases c13 : 0 ≤ x8_2
              · rw [if_pos c13] at H
                have c13b0 : decide (0 ≤ x8_2) = true := decide_eq_true c13
                clear c13
                by_cases c14 : x8_2 < (x7_2.length : Int)
                · rw [if_pos c14] at H
                  have c14b0 : decide (x8_2 < (x7_2.length : Int)) = true := decide_eq_true c14
                  clear c14
                  obtain ⟨y253, hy253⟩ : ∃ y_ : List Int, y_ = (x7_2.set (x8_2 : Int).toNat 257) := ⟨_, rfl⟩
                  replace H : (vmfleetlaw14_TlbRecent.l0 k2 a0 a1 l2 y253 (wrap64 (x8_2 + 1))) = some r := by first | (rw [hy253]; with_reducible exact H) | (have H2_ := (Option.bind_some _ _).symm.trans H; rw [hy253]; with_reducible exact H2_) | (have H2_ := (Option.bind_some _ _).symm.trans H; with_reducible exact H2_) | with_reducible exact H | (rw [hy253]; exact H) | exact H
                  have Ny253 := Aside0.mk hy253
                  clear hy253
                  have H' := Aside0.mk H
                  clear H
                  have p15 : 0 ≤ (x8_2 : Int) := of_decide_eq_true (by first | (with_reducible assumption) | assumption)
                  have q15 : (x8_2 : Int) < ((x7_2.length : Int) : Int) := of_decide_eq_true (by first | (with_reducible assumption) | assumption)
                  obtain ⟨go15, co15, eo15, gb15, gl15, cl15, HG15⟩ := Kd.R_form HO_7.out (by omega)
                  (first | cases eo15 | (injection eo15 with ea_ en_ ec_; (first | subst ea_ | (injection ea_ with ea_; subst ea_)); subst ec_; clear en_))
                  have GB15 := Aside0.mk gb15
                  have GG15 := Aside0.mk HG15
                  clear gb15 gl15 HG15
                  obtain ⟨hx15_0, hf15_0⟩ := Kd.R_celln 0 HO_7.out (x8_2 : Int) p15 q15
                  replace p15 := eq_true p15
                  replace q15 := eq_true q15
                  have HP16 := Kd.R_putg HO_7.out (x8_2 : Int) 257
                  go_wp2_with (first | ((with_reducible refine gate_store (t := 23) (p := 35) rfl ?_); refine store_event (t := 23) (p := 35) (v := ?vo_w17) (w1 := (wr.setCell ⟨go15, (x8_2 : Int).toNat, none⟩ (.int .u32 257))) ?hg ?ho ?hn ?hr ?_; (case ho => rfl); (case hg => rfl); (case hn => rfl); (case hr => first | (go_simp; done) | (go_simp; rfl)); intro w17 hw; have hg : wr.grownBy w17 (some go15) := (by rw [hw]; exact HP16.2); have hp_ : Kd.R (Kd.int .u32) 23 w17 w.heap.size (fun _ => True) (.slice (some ⟨go15, 0, none⟩) x7_2.length co15) y253 := (by rw [hw, Ny253.out]; exact HP16.1); clear HP16; have n0_ := Aside0.mk (hp_); have n1_ := Aside0.mk ((by rw [hw]; exact below_set (HB.out) GB15.out : Below w.heap.size w w17)); clear HO_7; clear HB; have HO_7 := n0_; have HB := n1_; clear n0_ n1_; clear hg hw hp_))
                  go_roundg k2
                  case measure => have := HJ3.out; have := HK2.out; omega
                  case rel => exact ⟨(y253), (wrap64 (x8_2 + 1)), (by first | rfl | (simp; done) | (simp [*]; done)), H', ⟨by have := HJ3.out; have := HK2.out; omega⟩, ⟨by (with_reducible repeat (first | apply Kd.R_alloc | apply Kd.R_drewN | apply Kd.R_drew)); exact HO_7.out⟩, ⟨by repeat (first | (with_reducible first | exact HB.out | apply below_alloc | apply pw_below_drewN | apply below_drew1) | exact HB.out)⟩⟩
                · rw [if_neg c14] at H
                  exact absurd H (by simp)
              · rw [if_neg c13] at H
                exact absurd H (by simp)
            · rw [if_neg c12] at H
              have c12b0 : decide (x8_2 < 32) = false := decide_eq_false c12
              clear c12
              have H' := Aside0.mk H
              clear H
              go_wp2
              go_loopg [7, 9, 10] k2 (fun kq v7 v9 v10 w' => ∃ (x7_3 : List Int) (x9_3 : List (S49)) (x10_3 : Int), v10 = .int .i64 x10_3 ∧ Aside0 (vmfleetlaw14_TlbRecent.l1 kq a0 a1 l2 x7_3 x9_3 x10_3 = some r) ∧ Aside0 (kq ≤ k2) ∧ Aside0 (Kd.R (Kd.int .u32) 23 w' w.heap.size (fun _ => True) v7 x7_3) ∧ Aside0 (Kd.V k49 49 w' w.heap.size (fun k_ => some k_ ≠ (v7 : Value).ownBlock) v9 x9_3) ∧ Aside0 (Below w.heap.size w w'))
              case atStart => exact ⟨(x7_2), (([] : List (S49))), (0), (by first | rfl | (simp; done) | (simp [*]; done)), H', ⟨Nat.le_refl _⟩, ⟨by (with_reducible repeat (first | apply Kd.R_alloc | apply Kd.R_drewN | apply Kd.R_drew)); exact HO_7.out⟩, ⟨by first | exact Kd.V_nil _ _ _ _ _⟩, ⟨by repeat (first | (with_reducible first | exact HB.out | apply below_alloc | apply pw_below_drewN | apply below_drew1) | exact HB.out)⟩⟩
              case round =>
                clear H'
                try clear c1
                try clear p1
                try clear q1
                try clear hx1
                try clear c2
                try clear p2
                try clear c4
                try clear c5
                try clear c5b0
                try clear c6
                try clear c6b0
                try clear p6
                try clear c7
                try clear c12
                try clear c12b0
                try clear c13
                try clear c13b0
                try clear c14
                try clear c14b0
                try clear c15
                try clear p15
                try clear q15
                try clear hx15
                try clear hf15
                try clear hx15_0
                try clear p15
                try clear p2
                try clear q15
                obtain ⟨x7_3, x9_3, x10_3, rfl, HA, HK3, HO_7, HO_9, HB⟩ := hrel
                cases gk with
                | zero => exact absurd HA.out (by simp [vmfleetlaw14_TlbRecent.l1])
                | succ k3 =>
                  have H := HA.out
                  clear HA
                  simp only [vmfleetlaw14_TlbRecent.l1] at H
                  by_cases c18 : x10_3 < (l2.length : Int)
                  · rw [if_pos c18] at H
                    have c18b0 : decide (x10_3 < (l2.length : Int)) = true := decide_eq_true c18
                    clear c18
                    by_cases c19 : 0 ≤ x10_3
                    · rw [if_pos c19] at H
                      have c19b0 : decide (0 ≤ x10_3) = true := decide_eq_true c19
                      clear c19
                      replace H := Option.bind_eq_some_iff.mp H
                      obtain ⟨t255, A200, H⟩ := H
                      replace H : ((tlb_Fill.f k3 x9_3 x7_3 0 ((t255) % 4294967296) 2).bind fun bt256 => (vmfleetlaw14_TlbRecent.l1 k3 a0 a1 l2 bt256.2.2.2.2 bt256.2.2.2.1 (wrap64 (x10_3 + 1)))) = some r := H
                      have A20 := Aside0.mk A200
                      clear A200
                      replace H := Option.bind_eq_some_iff.mp H
                      obtain ⟨⟨t256, t257, t258, t259, t262⟩, A210, H⟩ := H
                      replace H : (vmfleetlaw14_TlbRecent.l1 k3 a0 a1 l2 t262 t259 (wrap64 (x10_3 + 1))) = some r := H
                      have A21 := Aside0.mk A210
                      clear A210
                      have H' := Aside0.mk H
                      clear H
                      have p254 : 0 ≤ (x10_3 : Int) := of_decide_eq_true (by first | (with_reducible assumption) | assumption)
                      have q254 : x10_3 < (l2.length : Int) := of_decide_eq_true (by first | (with_reducible assumption) | assumption)
                      obtain ⟨ad254, e254, hx254_0⟩ := Kd.at_int HR2.out x10_3 p254 q254
                      cases e254
                      replace hx254_0 := (HB.out.cell (World.block_lt_of_cell? w _ hx254_0)).trans hx254_0
                      replace p254 := eq_true p254
                      replace q254 := eq_true q254
                      go_wp2_with (first | ((with_reducible refine gate_callee (f := 16) rfl ?_); refine goesL_ (some 49) rfl rfl Try.func16 (by kernel_rfl) rfl #[.int .i64 (rd l2 x10_3), .int .i64 4096] rfl (by (try simp only [List.map_toArray, List.map_cons, List.map_nil]); first | done | rfl | (simp only [List.length_drop, List.length_take]; rfl)) ?_; (with_reducible refine (vmfleetmake_Round.calls (rd l2 x10_3) 4096 t255 _ A20.out).mono ?_); rintro e w' ⟨rfl, ⟨nd, rfl⟩⟩; refine ⟨_, rfl, ?_⟩; obtain ⟨Ao22, co22, eo22⟩ := Kd.V_slice HO_9.out; subst eo22; obtain ⟨Ao23, co23, eo23⟩ := Kd.R_slice HO_7.out; subst eo23) | ((with_reducible refine gate_callee (f := 13) rfl ?_); refine goesL_ (some 51) rfl rfl Try.func13 (by kernel_rfl) rfl #[.slice Ao22 x9_3.length co22, .slice Ao23 x7_3.length co23, .int .u32 0, .int .u32 ((t255) % 4294967296), .int .i64 2] rfl (by (try simp only [List.map_toArray, List.map_cons, List.map_nil]); first | done | rfl | (simp only [List.length_drop, List.length_take]; rfl)) ?_; (with_reducible refine (tlb_Fill.calls k3 _ _ x9_3 _ _ x7_3 0 ((t255) % 4294967296) 2 t256 t257 t258 t259 t262 _ ?side1 ?side2 ?side3 ?side4 A21.out).mono ?_); (case side1 => repeat (first | exact (Kd.V_reads' HO_9.out).2.2 | (with_reducible refine Kd.C_alloc ?_ _) | (with_reducible refine Kd.C_drewN ?_ _) | (with_reducible refine Kd.C_drew ?_))); (case side2 => exact (Kd.V_reads' HO_9.out).2.1); (case side3 => repeat (first | exact (Kd.R_reads' HO_7.out).2.2 | (with_reducible refine Kd.C_alloc ?_ _) | (with_reducible refine Kd.C_drewN ?_ _) | (with_reducible refine Kd.C_drew ?_))); (case side4 => exact (Kd.R_reads' HO_7.out).2.1); rintro e w24 ⟨v260, v263, rfl, ho0, ho1, hb⟩; refine ⟨_, rfl, ?_⟩; have n0_ := Aside0.mk (Kd.R_elder' (by (with_reducible repeat (first | apply Kd.R_alloc | apply Kd.R_drewN | apply Kd.R_drew)); exact HO_7.out) (Kd.R_base ho1) hb); have n1_ := Aside0.mk (Kd.V_elder' (by (with_reducible repeat (first | apply Kd.V_alloc | apply Kd.V_drewN | apply Kd.V_drew)); exact HO_9.out) (Kd.R_base ho1) hb); have n2_ := Aside0.mk (Kd.V_lower (Kd.V_mono (ok' := fun k_ => some k_ ≠ (v263 : Value).ownBlock ∧ some k_ ≠ (.slice Ao23 x7_3.length co23 : Value).ownBlock) ho0 (fun k_ hk_ => ⟨hk_.2, (Kd.fresh' (Kd.R_lt (by (with_reducible repeat (first | apply Kd.R_alloc | apply Kd.R_drewN | apply Kd.R_drew)); exact HO_7.out)) k_ hk_.1)⟩)) (below_size (by repeat (first | (with_reducible first | exact HB.out | apply below_alloc | apply pw_below_drewN | apply below_drew1) | exact HB.out)))); have n3_ := Aside0.mk (Kd.R_lower (Kd.R_new' (Kd.R_mono (ok' := fun k_ => True) ho1 (fun _ hk_ => trivial)) (Kd.R_lt (by (with_reducible repeat (first | apply Kd.R_alloc | apply Kd.R_drewN | apply Kd.R_drew)); exact HO_7.out))) (below_size (by repeat (first | (with_reducible first | exact HB.out | apply below_alloc | apply pw_below_drewN | apply below_drew1) | exact HB.out)))); have n4_ := Aside0.mk (below_step (by repeat (first | (with_reducible first | exact HB.out | apply below_alloc | apply pw_below_drewN | apply below_drew1) | exact HB.out)) hb); clear HO_7; clear HO_9; clear HB; have HO_7 := n0_; have HO_9 := n1_; have HO261 := n2_; have HO264 := n3_; have HB := n4_; clear n0_ n1_ n2_ n3_ n4_; (try clear hb); (try clear hb2); (try clear hk); (try clear hi); (try clear ho0); (try clear ho1)))
                      go_roundg k3
                      case measure => have := HJ3.out; have := HK2.out; have := HK3.out; omega
                      case rel => exact ⟨(t262), (t259), (wrap64 (x10_3 + 1)), (by first | rfl | (simp; done) | (simp [*]; done)), H', ⟨by have := HJ3.out; have := HK2.out; have := HK3.out; omega⟩, ⟨by (with_reducible repeat (first | apply Kd.R_alloc | apply Kd.R_drewN | apply Kd.R_drew)); exact Kd.R_mono HO264.out (fun _ hk => trivial)⟩, ⟨by (with_reducible repeat (first | apply Kd.V_alloc | apply Kd.V_drewN | apply Kd.V_drew)); first | exact HO261.out | exact Kd.V_mono HO261.out (fun _ hk => hk.1)⟩, ⟨by repeat (first | (with_reducible first | exact HB.out | apply below_alloc | apply pw_below_drewN | apply below_drew1) | exact HB.out)⟩⟩
                    · rw [if_neg c19] at H
                      exact absurd H (by simp)
                  · rw [if_neg c18] at H
                    have c18b0 : decide (x10_3 < (l2.length : Int)) = false := decide_eq_false c18
                    clear c18
                    have H' := Aside0.mk H
                    clear H
                    go_wp2
                    go_loopg [7, 9, 11] k3 (fun kq v7 v9 v11 w' => ∃ (x7_4 : List Int) (x9_4 : List (S49)) (x11_4 : Int), v11 = .int .i64 x11_4 ∧ Aside0 (vmfleetlaw14_TlbRecent.l2 kq a0 a1 x7_4 x9_4 x11_4 = some r) ∧ Aside0 (kq ≤ k3) ∧ Aside0 (Kd.R (Kd.int .u32) 23 w' w.heap.size (fun _ => True) v7 x7_4) ∧ Aside0 (Kd.V k49 49 w' w.heap.size (fun k_ => some k_ ≠ (v7 : Value).ownBlock) v9 x9_4) ∧ Aside0 (Below w.heap.size w w'))
                    case atStart => exact ⟨(x7_3), (x9_3), (0), (by first | rfl | (simp; done) | (simp [*]; done)), H', ⟨Nat.le_refl _⟩, ⟨by (with_reducible repeat (first | apply Kd.R_alloc | apply Kd.R_drewN | apply Kd.R_drew)); exact HO_7.out⟩, ⟨by (with_reducible repeat (first | apply Kd.V_alloc | apply Kd.V_drewN | apply Kd.V_drew)); exact HO_9.out⟩, ⟨by repeat (first | (with_reducible first | exact HB.out | apply below_alloc | apply pw_below_drewN | apply below_drew1) | exact HB.out)⟩⟩
                    case round =>
                      clear H'
                      try clear c1
                      try clear p1
                      try clear q1
                      try clear hx1
                      try clear c2
                      try clear p2
                      try clear q2
                      try clear hx2
                      try clear c4
                      try clear c5
                      try clear c5b0
                      try clear c6
                      try clear c6b0
                      try clear p6
                      try clear c7
                      try clear c12
                      try clear c12b0
                      try clear c13
                      try clear c13b0
                      try clear c14
                      try clear c14b0
                      try clear c15
                      try clear p15
                      try clear q15
                      try clear hx15
                      try clear hf15
                      try clear c16
                      try clear c18
                      try clear c18b0
                      try clear c19
                      try clear c19b0
                      try clear hx15_0
                      try clear hx254_0
                      try clear p1
                      try clear p15
                      try clear p2
                      try clear p254
                      try clear p6
                      try clear q1
                      try clear q15
                      try clear q254
                      obtain ⟨x7_4, x9_4, x11_4, rfl, HA, HK4, HO_7, HO_9, HB⟩ := hrel
                      cases gk with
                      | zero => exact absurd HA.out (by simp [vmfleetlaw14_TlbRecent.l2])
                      | succ k4 =>
                        have H := HA.out
                        clear HA
                        simp only [vmfleetlaw14_TlbRecent.l2] at H
                        try simp only [Hand.mod32] at H
                        by_cases c25 : x11_4 < a1
                        · rw [if_pos c25] at H
                          have c25b0 : decide (x11_4 < a1) = true := decide_eq_true c25
                          clear c25
                          replace H := Option.bind_eq_some_iff.mp H
                          obtain ⟨⟨t265, t266, t267, t268, t271⟩, A260, H⟩ := H
                          replace H : (vmfleetlaw14_TlbRecent.l2 k4 a0 a1 t271 t268 (wrap64 (x11_4 + 1))) = some r := H
                          have A26 := Aside0.mk A260
                          clear A260
                          have H' := Aside0.mk H
                          clear H
                          obtain ⟨Ao27, co27, eo27⟩ := Kd.V_slice HO_9.out
                          subst eo27
                          obtain ⟨Ao28, co28, eo28⟩ := Kd.R_slice HO_7.out
                          subst eo28
                          go_wp2_with (first | (go_at_call 13; (with_reducible refine (tlb_Fill.calls k4 _ _ x9_4 _ _ x7_4 0 (((a0 + x11_4) % 32) * 128) 2 t265 t266 t267 t268 t271 _ ?side1 ?side2 ?side3 ?side4 A26.out).mono ?_); (case side1 => repeat (first | exact (Kd.V_reads' HO_9.out).2.2 | (with_reducible refine Kd.C_alloc ?_ _) | (with_reducible refine Kd.C_drewN ?_ _) | (with_reducible refine Kd.C_drew ?_))); (case side2 => exact (Kd.V_reads' HO_9.out).2.1); (case side3 => repeat (first | exact (Kd.R_reads' HO_7.out).2.2 | (with_reducible refine Kd.C_alloc ?_ _) | (with_reducible refine Kd.C_drewN ?_ _) | (with_reducible refine Kd.C_drew ?_))); (case side4 => exact (Kd.R_reads' HO_7.out).2.1); rintro e w29 ⟨v269, v272, rfl, ho0, ho1, hb⟩; have n0_ := Aside0.mk (Kd.R_elder' (by (with_reducible repeat (first | apply Kd.R_alloc | apply Kd.R_drewN | apply Kd.R_drew)); exact HO_7.out) (Kd.R_base ho1) hb); have n1_ := Aside0.mk (Kd.V_elder' (by (with_reducible repeat (first | apply Kd.V_alloc | apply Kd.V_drewN | apply Kd.V_drew)); exact HO_9.out) (Kd.R_base ho1) hb); have n2_ := Aside0.mk (Kd.V_lower (Kd.V_mono (ok' := fun k_ => some k_ ≠ (v272 : Value).ownBlock ∧ some k_ ≠ (.slice Ao28 x7_4.length co28 : Value).ownBlock) ho0 (fun k_ hk_ => ⟨hk_.2, (Kd.fresh' (Kd.R_lt (by (with_reducible repeat (first | apply Kd.R_alloc | apply Kd.R_drewN | apply Kd.R_drew)); exact HO_7.out)) k_ hk_.1)⟩)) (below_size (by repeat (first | (with_reducible first | exact HB.out | apply below_alloc | apply pw_below_drewN | apply below_drew1) | exact HB.out)))); have n3_ := Aside0.mk (Kd.R_lower (Kd.R_new' (Kd.R_mono (ok' := fun k_ => True) ho1 (fun _ hk_ => trivial)) (Kd.R_lt (by (with_reducible repeat (first | apply Kd.R_alloc | apply Kd.R_drewN | apply Kd.R_drew)); exact HO_7.out))) (below_size (by repeat (first | (with_reducible first | exact HB.out | apply below_alloc | apply pw_below_drewN | apply below_drew1) | exact HB.out)))); have n4_ := Aside0.mk (below_step (by repeat (first | (with_reducible first | exact HB.out | apply below_alloc | apply pw_below_drewN | apply below_drew1) | exact HB.out)) hb); clear HO_7; clear HO_9; clear HB; have HO_7 := n0_; have HO_9 := n1_; have HO270 := n2_; have HO273 := n3_; have HB := n4_; clear n0_ n1_ n2_ n3_ n4_; (try clear hb); (try clear hb2); (try clear hk); (try clear hi); (try clear ho0); (try clear ho1)))
                          go_roundg k4
                          case measure => have := HJ3.out; have := HK2.out; have := HK3.out; have := HK4.out; omega
                          case rel => exact ⟨(t271), (t268), (wrap64 (x11_4 + 1)), (by first | rfl | (simp; done) | (simp [*]; done)), H', ⟨by have := HJ3.out; have := HK2.out; have := HK3.out; have := HK4.out; omega⟩, ⟨by (with_reducible repeat (first | apply Kd.R_alloc | apply Kd.R_drewN | apply Kd.R_drew)); exact Kd.R_mono HO273.out (fun _ hk => trivial)⟩, ⟨by (with_reducible repeat (first | apply Kd.V_alloc | apply Kd.V_drewN | apply Kd.V_drew)); first | exact HO270.out | exact Kd.V_mono HO270.out (fun _ hk => hk.1)⟩, ⟨by repeat (first | (with_reducible first | exact HB.out | apply below_alloc | apply pw_below_drewN | apply below_drew1) | exact HB.out)⟩⟩
                        · rw [if_neg c25] at H
                          have c25b0 : decide (x11_4 < a1) = false := decide_eq_false c25
                          clear c25
                          have H' := Aside0.mk H
                          clear H
                          go_wp2
                          go_loopg [9, 12] k4 (fun kq v9 v12 w' => ∃ (x9_5 : List (S49)) (x12_5 : Int), v12 = .int .i64 x12_5 ∧ Aside0 (vmfleetlaw14_TlbRecent.l3 kq a0 a1 x9_5 x12_5 = some r) ∧ Aside0 (kq ≤ k4) ∧ Aside0 (Kd.V k49 49 w' w.heap.size (fun _ => True) v9 x9_5) ∧ Aside0 (Below w.heap.size w w'))
                          case atStart => exact ⟨(x9_4), (0), (by first | rfl | (simp; done) | (simp [*]; done)), H', ⟨Nat.le_refl _⟩, ⟨by (with_reducible repeat (first | apply Kd.V_alloc | apply Kd.V_drewN | apply Kd.V_drew)); exact Kd.V_mono HO_9.out (fun _ hk => trivial)⟩, ⟨by repeat (first | (with_reducible first | exact HB.out | apply below_alloc | apply pw_below_drewN | apply below_drew1) | exact HB.out)⟩⟩
                          case round =>
                            clear H'
                            try clear c1
                            try clear p1
                            try clear q1
                            try clear hx1
                            try clear c2
                            try clear p2
                            try clear q2
                            try clear hx2
                            try clear c4
                            try clear c5
                            try clear c5b0
                            try clear c6
                            try clear c6b0
                            try clear p6
                            try clear c7
                            try clear c12
                            try clear c12b0
                            try clear c13
                            try clear c13b0
                            try clear c14
                            try clear c14b0
                            try clear c15
                            try clear p15
                            try clear q15
                            try clear hx15
                            try clear hf15
                            try clear c16
                            try clear c18
                            try clear c18b0
                            try clear c19
                            try clear c19b0
                            try clear c25
                            try clear c25b0
                            try clear p25
                            try clear q25
                            try clear hx25
                            try clear hx15_0
                            try clear hx254_0
                            try clear p1
                            try clear p15
                            try clear p2
                            try clear p254
                            try clear p6
                            try clear q1
                            try clear q15
                            try clear q2
                            try clear q254
                            obtain ⟨x9_5, x12_5, rfl, HA, HK5, HO_9, HB⟩ := hrel
                            cases gk with
                            | zero => exact absurd HA.out (by simp [vmfleetlaw14_TlbRecent.l3])
                            | succ k5 =>
                              have H := HA.out
                              clear HA
                              simp only [vmfleetlaw14_TlbRecent.l3] at H
                              try simp only [Hand.mod32] at H
                              by_cases c30 : x12_5 < a1
                              · rw [if_pos c30] at H
                                have c30b0 : decide (x12_5 < a1) = true := decide_eq_true c30
                                clear c30
                                replace H := Option.bind_eq_some_iff.mp H
                                obtain ⟨⟨t274, t275, t276⟩, A310, H⟩ := H
                                replace H : (if t276 = true then (if t274 = 1 then (vmfleetlaw14_TlbRecent.l3 k5 a0 a1 t275 (wrap64 (x12_5 + 1))) else (some false)) else (some false)) = some r := H
                                have A31 := Aside0.mk A310
                                clear A310
                                by_cases c32 : t276 = true
                                · subst c32
                                  have H1 : (if t274 = 1 then (vmfleetlaw14_TlbRecent.l3 k5 a0 a1 t275 (wrap64 (x12_5 + 1))) else (some false)) = some r := by rw [if_pos rfl] at H; exact H
                                  clear H
                                  have H := H1
                                  clear H1
                                  by_cases c33 : t274 = 1
                                  · rw [if_pos c33] at H
                                    have c33b0 : (t274 == 1) = true := beq_iff_eq.mpr c33
                                    have c33b1 : (t274 != 1) = false := bne_eq_false_iff_eq.mpr c33
                                    clear c33
                                    have H' := Aside0.mk H
                                    clear H
                                    obtain ⟨Ao34, co34, eo34⟩ := Kd.V_slice HO_9.out
                                    subst eo34
                                    go_wp2_with (first | (go_at_call 9; (with_reducible refine (tlb_Lookup.calls k5 _ _ x9_5 ((a0 + x12_5) % 32) 2 t274 t275 true _ ?side1 ?side2 A31.out).mono ?_); (case side1 => repeat (first | exact (Kd.V_reads' HO_9.out).2.2 | (with_reducible refine Kd.C_alloc ?_ _) | (with_reducible refine Kd.C_drewN ?_ _) | (with_reducible refine Kd.C_drew ?_))); (case side2 => exact (Kd.V_reads' HO_9.out).2.1); rintro e w35 ⟨v277, rfl, ho0, hb⟩; have n0_ := Aside0.mk (Kd.V_elder' (by (with_reducible repeat (first | apply Kd.V_alloc | apply Kd.V_drewN | apply Kd.V_drew)); exact HO_9.out) (Kd.R_base ho0) hb); have n1_ := Aside0.mk (Kd.R_lower ho0 (below_size (by repeat (first | (with_reducible first | exact HB.out | apply below_alloc | apply pw_below_drewN | apply below_drew1) | exact HB.out)))); have n2_ := Aside0.mk (below_step (by repeat (first | (with_reducible first | exact HB.out | apply below_alloc | apply pw_below_drewN | apply below_drew1) | exact HB.out)) hb); clear HO_9; clear HB; have HO_9 := n0_; have HO278 := n1_; have HB := n2_; clear n0_ n1_ n2_; (try clear hb); (try clear hb2); (try clear hk); (try clear hi); (try clear ho0)))
                                    go_roundg k5
                                    case measure => have := HJ3.out; have := HK2.out; have := HK3.out; have := HK4.out; have := HK5.out; omega
                                    case rel => exact ⟨(t275), (wrap64 (x12_5 + 1)), (by first | rfl | (simp; done) | (simp [*]; done)), H', ⟨by have := HJ3.out; have := HK2.out; have := HK3.out; have := HK4.out; have := HK5.out; omega⟩, ⟨Kd.R_V (by (with_reducible repeat (first | apply Kd.R_alloc | apply Kd.R_drewN | apply Kd.R_drew)); exact HO278.out)⟩, ⟨by repeat (first | (with_reducible first | exact HB.out | apply below_alloc | apply pw_below_drewN | apply below_drew1) | exact HB.out)⟩⟩
                                  · rw [if_neg c33] at H
                                    have c33b0 : (t274 == 1) = false := beq_eq_false_iff_ne.mpr c33
                                    have c33b1 : (t274 != 1) = true := bne_iff_ne.mpr c33
                                    obtain rfl := Option.some.inj H
                                    obtain ⟨Ao36, co36, eo36⟩ := Kd.V_slice HO_9.out
                                    subst eo36
                                    go_wp2_with (first | (go_at_call 9; (with_reducible refine (tlb_Lookup.calls k5 _ _ x9_5 ((a0 + x12_5) % 32) 2 t274 t275 true _ ?side1 ?side2 A31.out).mono ?_); (case side1 => repeat (first | exact (Kd.V_reads' HO_9.out).2.2 | (with_reducible refine Kd.C_alloc ?_ _) | (with_reducible refine Kd.C_drewN ?_ _) | (with_reducible refine Kd.C_drew ?_))); (case side2 => exact (Kd.V_reads' HO_9.out).2.1); rintro e w37 ⟨v277, rfl, ho0, hb⟩; have n0_ := Aside0.mk (Kd.V_elder' (by (with_reducible repeat (first | apply Kd.V_alloc | apply Kd.V_drewN | apply Kd.V_drew)); exact HO_9.out) (Kd.R_base ho0) hb); have n1_ := Aside0.mk (Kd.R_lower ho0 (below_size (by repeat (first | (with_reducible first | exact HB.out | apply below_alloc | apply pw_below_drewN | apply below_drew1) | exact HB.out)))); have n2_ := Aside0.mk (below_step (by repeat (first | (with_reducible first | exact HB.out | apply below_alloc | apply pw_below_drewN | apply below_drew1) | exact HB.out)) hb); clear HO_9; clear HB; have HO_9 := n0_; have HO278 := n1_; have HB := n2_; clear n0_ n1_ n2_; (try clear hb); (try clear hb2); (try clear hk); (try clear hi); (try clear ho0)))
                                    go_ret
                                    exact ⟨by first | rfl | (simp [errW_none, errW_some] <;> rfl) | (simp [*, errW_none, errW_some] <;> rfl), by repeat (first | (with_reducible first | exact HB.out | apply below_alloc | apply pw_below_drewN | apply below_drew1) | exact HB.out)⟩
                                · replace c32 := Bool.eq_false_iff.mpr c32
                                  subst c32
                                  have H1 : (some false) = some r := by rw [if_neg (show ¬ (false = true) by decide)] at H; exact H
                                  clear H
                                  have H := H1
                                  clear H1
                                  obtain rfl := Option.some.inj H
                                  obtain ⟨Ao38, co38, eo38⟩ := Kd.V_slice HO_9.out
                                  subst eo38
                                  go_wp2_with (first | (go_at_call 9; (with_reducible refine (tlb_Lookup.calls k5 _ _ x9_5 ((a0 + x12_5) % 32) 2 t274 t275 false _ ?side1 ?side2 A31.out).mono ?_); (case side1 => repeat (first | exact (Kd.V_reads' HO_9.out).2.2 | (with_reducible refine Kd.C_alloc ?_ _) | (with_reducible refine Kd.C_drewN ?_ _) | (with_reducible refine Kd.C_drew ?_))); (case side2 => exact (Kd.V_reads' HO_9.out).2.1); rintro e w39 ⟨v277, rfl, ho0, hb⟩; have n0_ := Aside0.mk (Kd.V_elder' (by (with_reducible repeat (first | apply Kd.V_alloc | apply Kd.V_drewN | apply Kd.V_drew)); exact HO_9.out) (Kd.R_base ho0) hb); have n1_ := Aside0.mk (Kd.R_lower ho0 (below_size (by repeat (first | (with_reducible first | exact HB.out | apply below_alloc | apply pw_below_drewN | apply below_drew1) | exact HB.out)))); have n2_ := Aside0.mk (below_step (by repeat (first | (with_reducible first | exact HB.out | apply below_alloc | apply pw_below_drewN | apply below_drew1) | exact HB.out)) hb); clear HO_9; clear HB; have HO_9 := n0_; have HO278 := n1_; have HB := n2_; clear n0_ n1_ n2_; (try clear hb); (try clear hb2); (try clear hk); (try clear hi); (try clear ho0)))
                                  go_ret
                                  exact ⟨by first | rfl | (simp [errW_none, errW_some] <;> rfl) | (simp [*, errW_none, errW_some] <;> rfl), by repeat (first | (with_reducible first | exact HB.out | apply below_alloc | apply pw_below_drewN | apply below_drew1) | exact HB.out)⟩
                              · rw [if_neg c30] at H
                                have c30b0 : decide (x12_5 < a1) = false := decide_eq_false c30
                                clear c30
                                replace H := Option.bind_eq_some_iff.mp H
                                obtain ⟨t279, A400, H⟩ := H
                                replace H : (some t279) = some r := H
                                have A40 := Aside0.mk A400
                                clear A400
                                obtain rfl := Option.some.inj H
                                go_wp2_with (first | ((with_reducible refine gate_callee (f := 5) rfl ?_); refine goesL_ (some 96) rfl rfl Try.func5 (by kernel_rfl) rfl #[] rfl (by (try simp only [List.map_toArray, List.map_cons, List.map_nil]); first | done | rfl | (simp only [List.length_drop, List.length_take]; rfl)) ?_; (with_reducible refine (vmfleetlaw14_awake.calls k5  t279 _ A40.out).mono ?_); rintro e w41 ⟨rfl, hb⟩; refine ⟨_, rfl, ?_⟩; have n0_ := Aside0.mk (Kd.V_below (by (with_reducible repeat (first | apply Kd.V_alloc | apply Kd.V_drewN | apply Kd.V_drew)); exact HO_9.out) hb); have n1_ := Aside0.mk (below_step (by repeat (first | (with_reducible first | exact HB.out | apply below_alloc | apply pw_below_drewN | apply below_drew1) | exact HB.out)) hb); clear HO_9; clear HB; have HO_9 := n0_; have HB := n1_; clear n0_ n1_; (try clear hb); (try clear hb2); (try clear hk); (try clear hi)))
                                go_ret
                                exact ⟨by first | rfl | (simp [errW_none, errW_some] <;> rfl) | (simp [*, errW_none, errW_some] <;> rfl), by repeat (first | (with_reducible first | exact HB.out | apply below_alloc | apply pw_below_drewN | apply below_drew1) | exact HB.out)⟩

/-- THE ONE PURE STATEMENT of vmfleetlaw14_TlbRecent: yours. -/
def vmfleetlaw14_TlbRecent.Pure : Prop := ∀ (a0 : Int) (a1 : Int) (l2 : List Int), (Lit.int .u32 a0).wf = true → (Lit.int .i64 a1).wf = true → l2.length ≤ maxLen → l2.length * 8 ≤ 140737488351232 → (∀ x ∈ l2, (Lit.int .i64 x).wf = true) → ∃ k, vmfleetlaw14_TlbRecent.f k a0 a1 l2 = some true
theorem vmfleetlaw14_TlbRecent.walk (P : vmfleetlaw14_TlbRecent.Pure) (a0 : Int) (a1 : Int) (a2 : Option Addr) (len2 cap2 : Nat) (z2 : List Int) (w : World) (w0 : (Lit.int .u32 a0).wf = true) (w1 : (Lit.int .i64 a1).wf = true) (w2 : (a2 = none ∧ len2 = 0 ∧ cap2 = 0 ∧ z2 = []) ∨ ∃ x, a2 = some x ∧ len2 ≤ cap2 ∧ cap2 ≤ maxLen ∧ z2.length = cap2 ∧ (∀ i, i < z2.length → w.cell? (x.add i) = some (.int .i64 (z2.getD i 0))) ∧ ∀ n ∈ z2, (Lit.int .i64 n).wf = true) (y2 : len2 * 8 ≤ 140737488351232) :
    Calls Try.prog 4 #[.int .u32 a0, .int .i64 a1, .slice a2 len2 cap2] w fun e w' => e = .returned (.bool true) ∧ Below w.heap.size w w' := by
  obtain ⟨l2, rfl, hr2, hm2, hw2, hc2⟩ := ReadsInt.ofRowC w2
  obtain ⟨k, h⟩ := P a0 a1 l2 w0 w1 hm2 y2 hw2
  refine (vmfleetlaw14_TlbRecent.calls k a0 a1 _ _ l2 true w (Kd.C_of_reads (d := (0 : Int)) (h1 := fun _ => rfl) hr2) hc2 h).mono ?_
  rintro e w' ⟨rfl, hd⟩
  exact ⟨rfl, hd⟩

end Go.Proofs.Ytnammilbfbaieaa.HTlbRecent
