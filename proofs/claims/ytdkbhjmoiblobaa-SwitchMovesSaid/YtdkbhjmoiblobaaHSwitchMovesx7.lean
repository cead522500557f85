-- Written for this claim by wip/hook.py, by means of the kit's print and of hand-proved contracts.
import Derived.Test.YtdkbhjmoiblobaaHSwitchMovesx0
import Derived.Test.YtdkbhjmoiblobaaHSwitchMovesx1
import Derived.Test.YtdkbhjmoiblobaaHSwitchMovesx4
import Derived.Test.YtdkbhjmoiblobaaHSwitchMovesx5
import Derived.Test.YtdkbhjmoiblobaaHSwitchMovesx6
namespace Go.Proofs.Ytdkbhjmoiblobaa.HSwitchMoves
open Go.RowKit Go.Proofs.YtdkbhjmoiblobaaW.PrintWords Go.Proofs.YtdkbhjmoiblobaaW.PrintLast Go.Proofs.YtdkbhjmoiblobaaW.PrintMore
attribute [local go_sem] max2_int min2_int max_two min_two max_three min_three max_four min_four   -- for this text's walks alone
attribute [local go_sem] Instr.field asAgg
set_option linter.unusedVariables false
set_option linter.unusedSimpArgs false

/-! ### vmfleetlaw33_SwitchMoves: function 4 -/
mutual
def vmfleetlaw33_SwitchMoves.j0 : Nat → List Int → List Int → Int → Int → List Int → Bool → Option (Bool)
  | 0, _, _, _, _, _, _ => none
  | k + 1, x0, x1, x2, x3, x4, x40 => if x40 = true then ((vmfleetlaw33_awake.f k).bind fun t212 => (some t212)) else ((network_New.f 8).bind fun bt213 => (if bt213.2.2 = true then (vmfleetlaw33_SwitchMoves.l0 k x0 x1 x2 x3 x4 0 bt213.1 bt213.2.1) else (some false)))
def vmfleetlaw33_SwitchMoves.l0 : Nat → List Int → List Int → Int → Int → List Int → Int → Int → List (S35) → Option (Bool)
  | 0, _, _, _, _, _, _, _, _ => none
  | k + 1, x0, x1, x2, x3, x4, x13, x219000, x219001 => if x13 < (x0.length : Int) then (if 0 ≤ x13 then ((vmfleetlaw33_frame.f k (rd x0 x13)).bind fun bt220 => (if x13 < (x1.length : Int) then ((vmfleetmake_Round.f (rd x1 x13) 8).bind fun t224 => ((network_Forward.f k x219000 x219001 t224 bt220.1).bind fun bt225 => (vmfleetlaw33_SwitchMoves.l0 k x0 x1 x2 x3 x4 (wrap64 (x13 + 1)) bt225.1 bt225.2.1))) else (none))) else (none)) else ((vmfleetmake_Round.f x2 8).bind fun t232 => ((network_Announce.f 200).bind fun t233 => ((network_Forward.f k x219000 x219001 t232 t233).bind fun bt234 => (if (bt234.2.2.length : Int) = 7 then (vmfleetlaw33_SwitchMoves.l1 k x3 x4 t232 0 bt234.1 bt234.2.1) else (some false)))))
def vmfleetlaw33_SwitchMoves.l1 : Nat → Int → List Int → Int → Int → Int → List (S35) → Option (Bool)
  | 0, _, _, _, _, _, _ => none
  | k + 1, x3, x4, x17, x19, x219000, x219001 => if x19 < (x4.length : Int) then (if 0 ≤ x19 then ((vmfleetlaw33_frame.f k (rd x4 x19)).bind fun bt242 => ((vmfleetmake_Round.f (rd x4 x19) 8).bind fun t246 => ((network_Forward.f k x219000 x219001 t246 bt242.1).bind fun bt247 => (vmfleetlaw33_SwitchMoves.l1 k x3 x4 x17 (wrap64 (x19 + 1)) bt247.1 bt247.2.1)))) else (none)) else ((vmfleetmake_Round.f x3 8).bind fun t254 => ((network_Forward.f k x219000 x219001 t254 (strOfNums (([200, 3] : List Int)))).bind fun bt258 => (if t254 = x17 then (if (bt258.2.2.length : Int) = 0 then ((vmfleetlaw33_awake.f k).bind fun t266 => (some t266)) else (some false)) else (if (bt258.2.2.length : Int) = 1 then (if 0 < (bt258.2.2.length : Int) then (if (rd bt258.2.2 0) = x17 then ((vmfleetlaw33_awake.f k).bind fun t268 => (some t268)) else (some false)) else (none)) else (some false)))))
end
def vmfleetlaw33_SwitchMoves.f (k : Nat) (l0 : List Int) (l1 : List Int) (a2 : Int) (a3 : Int) (l4 : List Int) : Option (Bool) := if (l0.length : Int) > 40 then (vmfleetlaw33_SwitchMoves.j0 k l0 l1 a2 a3 l4 true) else (if (l1.length : Int) < (l0.length : Int) then (vmfleetlaw33_SwitchMoves.j0 k l0 l1 a2 a3 l4 true) else (vmfleetlaw33_SwitchMoves.j0 k l0 l1 a2 a3 l4 (decide ((l4.length : Int) > 10))))
theorem vmfleetlaw33_SwitchMoves.mono_l : ∀ k, (∀ y0 y1 y2 y3 y4 y5, LeO (vmfleetlaw33_SwitchMoves.j0 k y0 y1 y2 y3 y4 y5) (vmfleetlaw33_SwitchMoves.j0 (k + 1) y0 y1 y2 y3 y4 y5)) ∧ (∀ y0 y1 y2 y3 y4 y5 y6 y7, LeO (vmfleetlaw33_SwitchMoves.l0 k y0 y1 y2 y3 y4 y5 y6 y7) (vmfleetlaw33_SwitchMoves.l0 (k + 1) y0 y1 y2 y3 y4 y5 y6 y7)) ∧ (∀ y0 y1 y2 y3 y4 y5, LeO (vmfleetlaw33_SwitchMoves.l1 k y0 y1 y2 y3 y4 y5) (vmfleetlaw33_SwitchMoves.l1 (k + 1) y0 y1 y2 y3 y4 y5))
  | 0 => ⟨fun _ _ _ _ _ _ r h => by simp [vmfleetlaw33_SwitchMoves.j0] at h, fun _ _ _ _ _ _ _ _ r h => by simp [vmfleetlaw33_SwitchMoves.l0] at h, fun _ _ _ _ _ _ r h => by simp [vmfleetlaw33_SwitchMoves.l1] at h⟩
  | k + 1 => by
    obtain ⟨ih0, ih1, ih2⟩ := vmfleetlaw33_SwitchMoves.mono_l k
    refine ⟨?_, ?_, ?_⟩
    · intro y0 y1 y2 y3 y4 y5
      unfold vmfleetlaw33_SwitchMoves.j0
      repeat' first
      | (with_reducible exact ih0 _ _ _ _ _ _)
      | (with_reducible exact ih1 _ _ _ _ _ _ _ _)
      | (with_reducible exact ih2 _ _ _ _ _ _)
      | (with_reducible exact network_Forward.mono _ _ _ _ _)
      | (with_reducible exact vmfleetlaw33_awake.mono _)
      | (with_reducible exact vmfleetlaw33_frame.mono _ _)
      | (with_reducible exact LeO.refl _)
      | (with_reducible exact LeO.none _)
      | (with_reducible refine LeO.ite ?_ ?_)
      | (with_reducible refine LeO.bind ?_ (fun _ => ?_))
      | exact ih0 _ _ _ _ _ _
      | exact ih1 _ _ _ _ _ _ _ _
      | exact ih2 _ _ _ _ _ _
      | exact network_Forward.mono _ _ _ _ _
      | exact vmfleetlaw33_awake.mono _
      | exact vmfleetlaw33_frame.mono _ _
      | exact LeO.none _
      | refine LeO.ite ?_ ?_
      | refine LeO.bind ?_ (fun _ => ?_)
    · intro y0 y1 y2 y3 y4 y5 y6 y7
      unfold vmfleetlaw33_SwitchMoves.l0
      repeat' first
      | (with_reducible exact ih0 _ _ _ _ _ _)
      | (with_reducible exact ih1 _ _ _ _ _ _ _ _)
      | (with_reducible exact ih2 _ _ _ _ _ _)
      | (with_reducible exact network_Forward.mono _ _ _ _ _)
      | (with_reducible exact vmfleetlaw33_awake.mono _)
      | (with_reducible exact vmfleetlaw33_frame.mono _ _)
      | (with_reducible exact LeO.refl _)
      | (with_reducible exact LeO.none _)
      | (with_reducible refine LeO.ite ?_ ?_)
      | (with_reducible refine LeO.bind ?_ (fun _ => ?_))
      | exact ih0 _ _ _ _ _ _
      | exact ih1 _ _ _ _ _ _ _ _
      | exact ih2 _ _ _ _ _ _
      | exact network_Forward.mono _ _ _ _ _
      | exact vmfleetlaw33_awake.mono _
      | exact vmfleetlaw33_frame.mono _ _
      | exact LeO.none _
      | refine LeO.ite ?_ ?_
      | refine LeO.bind ?_ (fun _ => ?_)
    · intro y0 y1 y2 y3 y4 y5
      unfold vmfleetlaw33_SwitchMoves.l1
      repeat' first
      | (with_reducible exact ih0 _ _ _ _ _ _)
      | (with_reducible exact ih1 _ _ _ _ _ _ _ _)
      | (with_reducible exact ih2 _ _ _ _ _ _)
      | (with_reducible exact network_Forward.mono _ _ _ _ _)
      | (with_reducible exact vmfleetlaw33_awake.mono _)
      | (with_reducible exact vmfleetlaw33_frame.mono _ _)
      | (with_reducible exact LeO.refl _)
      | (with_reducible exact LeO.none _)
      | (with_reducible refine LeO.ite ?_ ?_)
      | (with_reducible refine LeO.bind ?_ (fun _ => ?_))
      | exact ih0 _ _ _ _ _ _
      | exact ih1 _ _ _ _ _ _ _ _
      | exact ih2 _ _ _ _ _ _
      | exact network_Forward.mono _ _ _ _ _
      | exact vmfleetlaw33_awake.mono _
      | exact vmfleetlaw33_frame.mono _ _
      | exact LeO.none _
      | refine LeO.ite ?_ ?_
      | refine LeO.bind ?_ (fun _ => ?_)
theorem vmfleetlaw33_SwitchMoves.mono : ∀ a0 a1 a2 a3 a4 k, LeO (vmfleetlaw33_SwitchMoves.f k a0 a1 a2 a3 a4) (vmfleetlaw33_SwitchMoves.f (k + 1) a0 a1 a2 a3 a4) := by
  intro a0 a1 a2 a3 a4 k
  obtain ⟨ih0, ih1, ih2⟩ := vmfleetlaw33_SwitchMoves.mono_l k
  unfold vmfleetlaw33_SwitchMoves.f
  repeat' first
      | (with_reducible exact ih0 _ _ _ _ _ _)
      | (with_reducible exact ih1 _ _ _ _ _ _ _ _)
      | (with_reducible exact ih2 _ _ _ _ _ _)
      | (with_reducible exact network_Forward.mono _ _ _ _ _)
      | (with_reducible exact vmfleetlaw33_awake.mono _)
      | (with_reducible exact vmfleetlaw33_frame.mono _ _)
      | (with_reducible exact LeO.refl _)
      | (with_reducible exact LeO.none _)
      | (with_reducible refine LeO.ite ?_ ?_)
      | (with_reducible refine LeO.bind ?_ (fun _ => ?_))
      | exact ih0 _ _ _ _ _ _
      | exact ih1 _ _ _ _ _ _ _ _
      | exact ih2 _ _ _ _ _ _
      | exact network_Forward.mono _ _ _ _ _
      | exact vmfleetlaw33_awake.mono _
      | exact vmfleetlaw33_frame.mono _ _
      | exact LeO.none _
      | refine LeO.ite ?_ ?_
      | refine LeO.bind ?_ (fun _ => ?_)
def vmfleetlaw33_SwitchMoves.T10 : Bool × List (List Nat × List Nat) := (true, [([], []), ([], []), ([], []), ([1, 2], [1, 2]), ([3], [3]), ([4], [4]), ([], []), ([0, 5, 6, 5], [0, 5, 6]), ([7], [7]), ([8], [8]), ([8], [8]), ([9, 7, 0, 1, 2, 3, 4, 5, 6, 7, 8, 9], [9])])
def vmfleetlaw33_SwitchMoves.B10 : List Nat := [0, 0, 0, 6, 14, 30, 0, 127, 255, 511, 511, 1023]
theorem vmfleetlaw33_SwitchMoves.tab10 : rtab .any (opsOf Try.f4 10) = vmfleetlaw33_SwitchMoves.T10 := by kernel_rfl
theorem vmfleetlaw33_SwitchMoves.bits10 : waitsOk vmfleetlaw33_SwitchMoves.T10.2 vmfleetlaw33_SwitchMoves.B10 = true := by kernel_rfl
def vmfleetlaw33_SwitchMoves.T12 : Bool × List (List Nat × List Nat) := (true, [([], []), ([], []), ([], []), ([0, 1, 2, 2], [0, 1, 2]), ([3], [3]), ([4], [4]), ([4], [4]), ([5, 3, 0, 1, 2, 3, 4, 5], [5]), ([6, 7, 0, 1, 2, 3, 4, 5, 6, 7], [6])])
def vmfleetlaw33_SwitchMoves.B12 : List Nat := [0, 0, 0, 7, 15, 31, 31, 63, 255]
theorem vmfleetlaw33_SwitchMoves.tab12 : rtab .any (opsOf Try.f4 12) = vmfleetlaw33_SwitchMoves.T12 := by kernel_rfl
theorem vmfleetlaw33_SwitchMoves.bits12 : waitsOk vmfleetlaw33_SwitchMoves.T12.2 vmfleetlaw33_SwitchMoves.B12 = true := by kernel_rfl
def vmfleetlaw33_SwitchMoves.T19 : Bool × List (List Nat × List Nat) := (true, [([], []), ([], []), ([], []), ([1, 2], [1, 2]), ([3], [3]), ([4], [4]), ([], []), ([0, 5, 6, 5], [0, 5, 6]), ([7], [7]), ([8], [8]), ([8], [8]), ([9, 7, 0, 1, 2, 3, 4, 5, 6, 7, 8, 9], [9])])
def vmfleetlaw33_SwitchMoves.B19 : List Nat := [0, 0, 0, 6, 14, 30, 0, 127, 255, 511, 511, 1023]
theorem vmfleetlaw33_SwitchMoves.tab19 : rtab .any (opsOf Try.f4 19) = vmfleetlaw33_SwitchMoves.T19 := by kernel_rfl
theorem vmfleetlaw33_SwitchMoves.bits19 : waitsOk vmfleetlaw33_SwitchMoves.T19.2 vmfleetlaw33_SwitchMoves.B19 = true := by kernel_rfl
set_option maxHeartbeats 8000000 in
set_option maxRecDepth 100000 in
theorem vmfleetlaw33_SwitchMoves.calls (k : Nat) (A0 : Option Addr) (c0 : Nat) (l0 : List Int) (A1 : Option Addr) (c1 : Nat) (l1 : List Int) (a2 : Int) (a3 : Int) (A4 : Option Addr) (c4 : Nat) (l4 : List Int) (r : Bool) (w : World) (hr0 : Kd.C (Kd.int .i64) w A0 l0.length l0) (hc0 : l0.length ≤ c0) (hr1 : Kd.C (Kd.int .i64) w A1 l1.length l1) (hc1 : l1.length ≤ c1) (hr4 : Kd.C (Kd.int .i64) w A4 l4.length l4) (hc4 : l4.length ≤ c4) (h : vmfleetlaw33_SwitchMoves.f k l0 l1 a2 a3 l4 = some r) :
    Calls Try.prog 4 #[.slice A0 l0.length c0, .slice A1 l1.length c1, .int .i64 a2, .int .i64 a3, .slice A4 l4.length c4] w fun e w' => e = .returned (.bool r) ∧ Below w.heap.size w w' := by
  have hu26 := Try.underlying26
  have HR0 := Aside0.mk hr0
  have HC0 := Aside0.mk hc0
  clear hr0 hc0
  have HR1 := Aside0.mk hr1
  have HC1 := Aside0.mk hc1
  clear hr1 hc1
  have HR4 := Aside0.mk hr4
  have HC4 := Aside0.mk hc4
  clear hr4 hc4
  have HB := Aside0.mk (Below.refl w.heap.size w)
  have H : (if (l0.length : Int) > 40 then (vmfleetlaw33_SwitchMoves.j0 k l0 l1 a2 a3 l4 true) else (if (l1.length : Int) < (l0.length : Int) then (vmfleetlaw33_SwitchMoves.j0 k l0 l1 a2 a3 l4 true) else (vmfleetlaw33_SwitchMoves.j0 k l0 l1 a2 a3 l4 (decide ((l4.length : Int) > 10))))) = some r := h
  clear h
  have HC6 := Aside0.mk H
  clear H
  go_enter Try.func4, Try.ntmps4
  go_upto_region 1 with (fail)
  go_cut [40] (fun v40 wc => ∃ (kq : Nat) (x40_5 : Bool), v40 = .bool x40_5 ∧ Aside0 (vmfleetlaw33_SwitchMoves.j0 kq l0 l1 a2 a3 l4 x40_5 = some r) ∧ Aside0 (kq ≤ k) ∧ Aside0 (Below w.heap.size w wc))
  case first =>
    have H := HC6.out
    clear HC6
    by_cases c7 : (l0.length : Int) > 40
    · rw [if_pos c7] at H
      have c7b0 : decide (40 < (l0.length : Int)) = true := decide_eq_true c7
      have c7b1 : decide (40 < l0.length) = true := decide_eq_true (by omega)
      clear c7
      (first | rw [c7b0] | (simp only [i64_w, i32_w]; rw [c7b0]) | skip)
      have H' := Aside0.mk H
      clear H
      go_wp2
      go_meet
      case rel => exact ⟨_, (true), (by first | rfl | (simp; done) | (simp [*]; done)), H', ⟨by first | omega | exact Nat.le_refl _⟩, ⟨by repeat (first | (with_reducible first | exact HB.out | apply below_alloc | apply pw_below_drewN | apply below_drew1) | exact HB.out)⟩⟩
    · rw [if_neg c7] at H
      have c7b0 : decide (40 < (l0.length : Int)) = false := decide_eq_false c7
      have c7b1 : decide (40 < l0.length) = false := decide_eq_false (by omega)
      clear c7
      (first | rw [c7b0] | (simp only [i64_w, i32_w]; rw [c7b0]) | skip)
      by_cases c8 : (l1.length : Int) < (l0.length : Int)
      · rw [if_pos c8] at H
        have c8b0 : decide ((l1.length : Int) < (l0.length : Int)) = true := decide_eq_true c8
        have c8b1 : decide (l1.length < l0.length) = true := decide_eq_true (Int.ofNat_lt.mp c8)
        clear c8
        have H' := Aside0.mk H
        clear H
        go_wp2
        go_meet
        case rel => exact ⟨_, (true), (by first | rfl | (simp; done) | (simp [*]; done)), H', ⟨by first | omega | exact Nat.le_refl _⟩, ⟨by repeat (first | (with_reducible first | exact HB.out | apply below_alloc | apply pw_below_drewN | apply below_drew1) | exact HB.out)⟩⟩
      · rw [if_neg c8] at H
        have c8b0 : decide ((l1.length : Int) < (l0.length : Int)) = false := decide_eq_false c8
        have c8b1 : decide (l1.length < l0.length) = false := decide_eq_false (fun h => c8 (Int.ofNat_lt.mpr h))
        clear c8
        have H' := Aside0.mk H
        clear H
        go_wp2
        go_meet
        case rel => exact ⟨_, (decide ((l4.length : Int) > 10)), (by first | rfl | (simp; done) | (simp [*]; done)), H', ⟨by first | omega | exact Nat.le_refl _⟩, ⟨by repeat (first | (with_reducible first | exact HB.out | apply below_alloc | apply pw_below_drewN | apply below_drew1) | exact HB.out)⟩⟩
  case rest =>
    clear HC6
    try clear c1
    try clear p2
    try clear c4
    try clear c7
    try clear c7b0
    try clear c7b1
    try clear c8
    try clear c8b0
    try clear c8b1
    obtain ⟨kq, x40_5, rfl, HA, HJ5, HB⟩ := hcut
    cases kq with
    | zero => exact absurd HA.out (by simp [vmfleetlaw33_SwitchMoves.j0])
    | succ kj5 =>
      have H := HA.out
      clear HA
      simp only [vmfleetlaw33_SwitchMoves.j0] at H
      by_cases c9 : x40_5 = true
      · subst c9
        have H1 : ((vmfleetlaw33_awake.f kj5).bind fun t212 => (some t212)) = some r := by rw [if_pos rfl] at H; exact H
        clear H
        have H := H1
        clear H1
        replace H := Option.bind_eq_some_iff.mp H
        obtain ⟨t212, A100, H⟩ := H
        replace H : (some t212) = some r := H
        have A10 := Aside0.mk A100
        clear A100
        obtain rfl := Option.some.inj H
        go_wp2_with (first | ((with_reducible refine gate_callee (f := 5) rfl ?_); refine goesL_ (some 41) rfl rfl Try.func5 (by kernel_rfl) rfl #[] rfl (by (try simp only [List.map_toArray, List.map_cons, List.map_nil]); first | done | rfl | (simp only [List.length_drop, List.length_take]; rfl)) ?_; (with_reducible refine (vmfleetlaw33_awake.calls kj5  t212 _ A10.out).mono ?_); rintro e w11 ⟨rfl, hb⟩; refine ⟨_, rfl, ?_⟩; have n0_ := Aside0.mk (below_step (by repeat (first | (with_reducible first | exact HB.out | apply below_alloc | apply pw_below_drewN | apply below_drew1) | exact HB.out)) hb); clear HB; have HB := n0_; clear n0_; (try clear hb); (try clear hb2); (try clear hk); (try clear hi)))
        go_ret
        exact ⟨by first | rfl | (simp [errW_none, errW_some] <;> rfl) | (simp [*, errW_none, errW_some] <;> rfl), by repeat (first | (with_reducible first | exact HB.out | apply below_alloc | apply pw_below_drewN | apply below_drew1) | exact HB.out)⟩
      · replace c9 := Bool.eq_false_iff.mpr c9
        subst c9
        have H1 : ((network_New.f 8).bind fun bt213 => (if bt213.2.2 = true then (vmfleetlaw33_SwitchMoves.l0 kj5 l0 l1 a2 a3 l4 0 bt213.1 bt213.2.1) else (some false))) = some r := by rw [if_neg (show ¬ (false = true) by decide)] at H; exact H
        clear H
        have H := H1
        clear H1
        replace H := Option.bind_eq_some_iff.mp H
        obtain ⟨⟨t213, t214, t217⟩, A120, H⟩ := H
        replace H : (if t217 = true then (vmfleetlaw33_SwitchMoves.l0 kj5 l0 l1 a2 a3 l4 0 t213 t214) else (some false)) = some r := H
        have A12 := Aside0.mk A120
        clear A120
        by_cases c13 : t217 = true
        · subst c13
          have H1 : (vmfleetlaw33_SwitchMoves.l0 kj5 l0 l1 a2 a3 l4 0 t213 t214) = some r := by rw [if_pos rfl] at H; exact H
          clear H
          have H := H1
          clear H1
          have H' := Aside0.mk H
          clear H
          go_wp2_with (first | ((with_reducible refine gate_callee (f := 6) rfl ?_); refine goesL_ (some 43) rfl rfl Try.func6 (by kernel_rfl) rfl #[.int .i64 8] rfl (by (try simp only [List.map_toArray, List.map_cons, List.map_nil]); first | done | rfl | (simp only [List.length_drop, List.length_take]; rfl)) ?_; (with_reducible refine (network_New.calls 8 t213 t214 true _ A12.out).mono ?_); rintro e w14 ⟨v215, rfl, ho0, hb⟩; refine ⟨_, rfl, ?_⟩; have n0_ := Aside0.mk (Kd.R_lower ho0 (below_size (by repeat (first | (with_reducible first | exact HB.out | apply below_alloc | apply pw_below_drewN | apply below_drew1) | exact HB.out)))); have n1_ := Aside0.mk (below_step (by repeat (first | (with_reducible first | exact HB.out | apply below_alloc | apply pw_below_drewN | apply below_drew1) | exact HB.out)) hb); clear HB; have HO216 := n0_; have HB := n1_; clear n0_ n1_; (try clear hb); (try clear hb2); (try clear hk); (try clear hi); (try clear ho0)) | ((with_reducible refine gate_dst (N := 11) rfl ?_); (try (refine gate_guard (by rfl) ?_; dsimp only)); refine box_event ?hg (N := 11) ?hd (cs := #[.int .i64 0, .slice none 0 0]) (t := 26) ?hr ?_; (case hd => rfl); (case hg => rfl); (case hr => first | (go_simp; done) | (go_simp; rfl)); intro gb218 hg w15 hbox hb; have n0_ := Aside0.mk (Kd.R_below (by (with_reducible repeat (first | apply Kd.R_alloc | apply Kd.R_drewN | apply Kd.R_drew)); exact HO216.out) hb); have n1_ := Aside0.mk (below_step (by repeat (first | (with_reducible first | exact HB.out | apply below_alloc | apply pw_below_drewN | apply below_drew1) | exact HB.out)) hb); have n2_ := Aside0.mk (hbox); have n3_ := Aside0.mk ((by rw [hg]; exact (below_size (by repeat (first | (with_reducible first | exact HB.out | apply below_alloc | apply pw_below_drewN | apply below_drew1) | exact HB.out))) : w.heap.size ≤ gb218)); have n4_ := Aside0.mk ((by rw [hg]; exact (below_size (by repeat (first | (with_reducible first | exact HB.out | apply below_alloc | apply pw_below_drewN | apply below_drew1) | exact HB.out))) : w.heap.size ≤ gb218)); clear HO216; clear HB; have HO216 := n0_; have HB := n1_; have BK218 := n2_; have GW218 := n3_; have GE218 := n4_; clear n0_ n1_ n2_ n3_ n4_; clear hb hbox hg; have hcz16_0 : w15.cell? ⟨gb218, 0, none⟩ = some (.int .i64 0) := (blk_cell BK218.out 0).trans rfl; have hcz16_1 : w15.cell? ⟨gb218, 1, none⟩ = some (.slice none 0 0) := (blk_cell BK218.out 1).trans rfl; have hfz16_0 := blk_frozen BK218.out 0; have hfz16_1 := blk_frozen BK218.out 1; obtain ⟨Ao17, co17, eo17⟩ := Kd.R_slice HO216.out; subst eo17))
          go_loopg [13] kj5 (fun kq v13 w' => ∃ (x13_2 : Int) (x219000_2 : Int) (x219001_2 : List (S35)) (u219001 : Value), v13 = .int .i64 x13_2 ∧ Aside0 (vmfleetlaw33_SwitchMoves.l0 kq l0 l1 a2 a3 l4 x13_2 x219000_2 x219001_2 = some r) ∧ Aside0 (kq ≤ kj5) ∧ Aside0 (Kd.R k35 35 w' w.heap.size (fun _ => True) u219001 x219001_2) ∧ Aside0 (w'.heap[gb218]? = some (.cells #[.int .i64 x219000_2, u219001] 26 (0, 0))) ∧ Aside0 (Below w.heap.size w w'))
          case atStart => exact ⟨(0), (t213), (t214), (.slice Ao17 t214.length co17), (by first | rfl | (simp; done) | (simp [*]; done)), H', ⟨Nat.le_refl _⟩, ⟨by (with_reducible repeat (first | apply Kd.R_alloc | apply Kd.R_drewN | apply Kd.R_drew)); exact Kd.R_mono (Kd.R_far (p := ⟨gb218, 1, none⟩) (Kd.R_far (p := ⟨gb218, 0, none⟩) (Kd.R_types HO216.out BK218.out (by decide)) (fun _ hk => hk.2) (.int .i64 t213)) (fun _ hk => hk.2) (.slice Ao17 t214.length co17)) (fun _ hk => trivial)⟩, ⟨by (with_reducible repeat (first | refine blk_drewN ?_ _ | refine blk_drew ?_ | refine blk_alloc ?_ _)); refine blk_put (cs := #[.int .i64 t213, .slice none 0 0]) ?_ 1 _ rfl; (with_reducible repeat (first | refine blk_drewN ?_ _ | refine blk_drew ?_ | refine blk_alloc ?_ _)); refine blk_put (cs := #[.int .i64 0, .slice none 0 0]) ?_ 0 _ rfl; (with_reducible repeat (first | refine blk_drewN ?_ _ | refine blk_drew ?_ | refine blk_alloc ?_ _)); exact BK218.out⟩, ⟨by repeat (first | (with_reducible first | exact HB.out | apply below_alloc | apply pw_below_drewN | apply below_drew1 | refine below_set ?_ GE218.out) | exact HB.out)⟩⟩
          case round =>
            clear H'
            try clear c1
            try clear p2
            try clear c4
            try clear c5
            try clear c6
            try clear c7
            try clear c7b0
            try clear c7b1
            try clear c8
            try clear c8b0
            try clear c8b1
            try clear c9
            try clear c13
            try clear hcz16_0
            try clear hcz16_1
            try clear hfz16_0
            try clear hfz16_1
            try clear p2
            obtain ⟨x13_2, x219000_2, x219001_2, u219001, rfl, HA, HK2, HO_219001, BK218, HB⟩ := hrel
            cases gk with
            | zero => exact absurd HA.out (by simp [vmfleetlaw33_SwitchMoves.l0])
            | succ k2 =>
              have H := HA.out
              clear HA
              simp only [vmfleetlaw33_SwitchMoves.l0] at H
              by_cases c18 : x13_2 < (l0.length : Int)
              · rw [if_pos c18] at H
                have c18b0 : decide (x13_2 < (l0.length : Int)) = true := decide_eq_true c18
                clear c18
                by_cases c19 : 0 ≤ x13_2
                · rw [if_pos c19] at H
                  have c19b0 : decide (0 ≤ x13_2) = true := decide_eq_true c19
                  clear c19
                  replace H := Option.bind_eq_some_iff.mp H
                  obtain ⟨⟨t220, t221, t222⟩, A200, H⟩ := H
                  replace H : (if x13_2 < (l1.length : Int) then ((vmfleetmake_Round.f (rd l1 x13_2) 8).bind fun t224 => ((network_Forward.f k2 x219000_2 x219001_2 t224 t220).bind fun bt225 => (vmfleetlaw33_SwitchMoves.l0 k2 l0 l1 a2 a3 l4 (wrap64 (x13_2 + 1)) bt225.1 bt225.2.1))) else (none)) = some r := H
                  have A20 := Aside0.mk A200
                  clear A200
                  by_cases c21 : x13_2 < (l1.length : Int)
                  · rw [if_pos c21] at H
                    have c21b0 : decide (x13_2 < (l1.length : Int)) = true := decide_eq_true c21
                    clear c21
                    replace H := Option.bind_eq_some_iff.mp H
                    obtain ⟨t224, A220, H⟩ := H
                    replace H : ((network_Forward.f k2 x219000_2 x219001_2 t224 t220).bind fun bt225 => (vmfleetlaw33_SwitchMoves.l0 k2 l0 l1 a2 a3 l4 (wrap64 (x13_2 + 1)) bt225.1 bt225.2.1)) = some r := H
                    have A22 := Aside0.mk A220
                    clear A220
                    replace H := Option.bind_eq_some_iff.mp H
                    obtain ⟨⟨t225, t226, t229⟩, A230, H⟩ := H
                    replace H : (vmfleetlaw33_SwitchMoves.l0 k2 l0 l1 a2 a3 l4 (wrap64 (x13_2 + 1)) t225 t226) = some r := H
                    have A23 := Aside0.mk A230
                    clear A230
                    have H' := Aside0.mk H
                    clear H
                    have p219 : 0 ≤ (x13_2 : Int) := of_decide_eq_true (by first | (with_reducible assumption) | assumption)
                    have q219 : x13_2 < (l0.length : Int) := of_decide_eq_true (by first | (with_reducible assumption) | assumption)
                    obtain ⟨ad219, e219, hx219_0⟩ := Kd.at_int HR0.out x13_2 p219 q219
                    cases e219
                    replace hx219_0 := (HB.out.cell (World.block_lt_of_cell? w _ hx219_0)).trans hx219_0
                    replace p219 := eq_true p219
                    replace q219 := eq_true q219
                    try go_wp2_with (first | ((with_reducible refine gate_callee (f := 7) rfl ?_); refine goesL_ (some 59) rfl rfl Try.func7 (by kernel_rfl) rfl #[.int .i64 (rd l0 x13_2)] rfl (by (try simp only [List.map_toArray, List.map_cons, List.map_nil]); first | done | rfl | (simp only [List.length_drop, List.length_take]; rfl)) ?_; (with_reducible refine (vmfleetlaw33_frame.calls k2 (rd l0 x13_2) t220 t221 t222 _ A20.out).mono ?_); rintro e w24 ⟨rfl, hb⟩; refine ⟨_, rfl, ?_⟩; have n0_ := Aside0.mk (Kd.R_below (by (with_reducible repeat (first | apply Kd.R_alloc | apply Kd.R_drewN | apply Kd.R_drew)); exact HO_219001.out) hb); have n1_ := Aside0.mk (blk_below (g := gb218) (o := .cells #[.int .i64 x219000_2, u219001] 26 (0, 0)) (by (with_reducible repeat (first | refine blk_drewN ?_ _ | refine blk_drew ?_ | refine blk_alloc ?_ _)); exact BK218.out) hb); have n2_ := Aside0.mk (below_step (by repeat (first | (with_reducible first | exact HB.out | apply below_alloc | apply pw_below_drewN | apply below_drew1 | refine below_set ?_ GE218.out) | exact HB.out)) hb); clear HO_219001; clear BK218; clear HB; have HO_219001 := n0_; have BK218 := n1_; have HB := n2_; clear n0_ n1_ n2_; (try clear hb); (try clear hb2); (try clear hk); (try clear hi)))
                    have n0_ := Aside0.mk (Kd.R_drew HO_219001.out)
                    have n1_ := Aside0.mk (blk_drew BK218.out)
                    have n2_ := Aside0.mk (below_drew1 HB.out)
                    clear HO_219001
                    clear BK218
                    clear HB
                    have HO_219001 := n0_
                    have BK218 := n1_
                    have HB := n2_
                    clear n0_ n1_ n2_
                    have p223 : 0 ≤ (x13_2 : Int) := of_decide_eq_true (by first | (with_reducible assumption) | assumption)
                    have q223 : x13_2 < (l1.length : Int) := of_decide_eq_true (by first | (with_reducible assumption) | assumption)
                    obtain ⟨ad223, e223, hx223_0⟩ := Kd.at_int HR1.out x13_2 p223 q223
                    have hw223_0 := hx223_0
                    cases e223
                    replace hx223_0 := (HB.out.cell (World.block_lt_of_cell? w _ hx223_0)).trans hx223_0
                    replace p223 := eq_true p223
                    replace q223 := eq_true q223
                    refine start_ (n := 12) (S := fun w' => w'.cell? ⟨gb218, 0, none⟩ = some (.int .i64 x219000_2) ∧ w'.cell? ⟨gb218, 1, none⟩ = some (u219001) ∧ w'.cell? (ad223.add (x13_2).toNat) = some (.int .i64 (rd l1 x13_2))) (ds := [11]) #[false, false, false, false, false, false, false, false, false, false, false, false] (by kernel_rfl) rfl rfl ⟨(blk_cell BK218.out 0).trans rfl, (blk_cell BK218.out 1).trans rfl, ((HB.out.cell (World.block_lt_of_cell? w _ hw223_0)).trans hw223_0)⟩ (fun hHeld => ?_); refine with_tabW vmfleetlaw33_SwitchMoves.tab10 vmfleetlaw33_SwitchMoves.bits10 (fun HT_ HW_ => ?_)
                    generalize w24.drew = w25 at HO_219001 BK218 HB hx223_0 hHeld ⊢
                    refine pure_ (i := 1) (N := some 65) (v := ?_) (a' := ?_) #[false, true, false, false, false, false, false, false, false, false, false, false] rfl rfl (any_of HT_.out (by kernel_rfl)) (fun _ _ _ h => h) (Or.inl ⟨by rfl, ?_⟩) ?_ ?_
                    rotate_left
                    · intro w'
                      go_simp
                      with_reducible rfl
                    rotate_left
                    · simp only [Act.put, List.setIfInBounds_toArray, List.set_cons_zero, List.set_cons_succ, i64_w, i32_w]
                      rfl
                    refine pure_ (i := 2) (N := some 66) (v := ?_) (a' := ?_) #[false, true, true, false, false, false, false, false, false, false, false, false] rfl rfl (any_of HT_.out (by kernel_rfl)) (fun _ _ _ h => h) (Or.inl ⟨by rfl, ?_⟩) ?_ ?_
                    rotate_left
                    · intro w'
                      go_simp
                      with_reducible rfl
                    rotate_left
                    · simp only [Act.put, List.setIfInBounds_toArray, List.set_cons_zero, List.set_cons_succ, i64_w, i32_w]
                      rfl
                    refine pure_ (i := 3) (N := some 67) (v := ?_) (a' := ?_) #[false, true, true, true, false, false, false, false, false, false, false, false] rfl rfl (any_of HT_.out (by kernel_rfl)) (fun _ _ _ h => h) (Or.inl ⟨by rfl, ?_⟩) ?_ ?_
                    rotate_left
                    · intro w'
                      go_simp
                      with_reducible rfl
                    rotate_left
                    · simp only [Act.put, List.setIfInBounds_toArray, List.set_cons_zero, List.set_cons_succ, i64_w, i32_w]
                      rfl
                    refine pure_ (i := 6) (N := some 70) (v := ?_) (a' := ?_) #[false, true, true, true, false, false, true, false, false, false, false, false] rfl rfl (any_of HT_.out (by kernel_rfl)) (fun _ _ _ h => h) (Or.inl ⟨by rfl, ?_⟩) ?_ ?_
                    rotate_left
                    · intro w'
                      go_simp
                      with_reducible rfl
                    rotate_left
                    · simp only [Act.put, List.setIfInBounds_toArray, List.set_cons_zero, List.set_cons_succ, i64_w, i32_w]
                      rfl
                    refine take_ (i := 0) (N := some 64) (v := ?_) (a' := ?_) #[true, true, true, true, false, false, true, false, false, false, false, false] rfl rfl (take_ofW HT_.out HW_.out (by kernel_rfl)) (fun _ _ _ h => h) (Or.inl ⟨by rfl, ?_⟩) hHeld ?_ ?_
                    rotate_left
                    · rintro w' ⟨s0, s1, s2⟩
                      go_simp
                      with_reducible rfl
                    rotate_left
                    · simp only [Act.put, List.setIfInBounds_toArray, List.set_cons_zero, List.set_cons_succ, i64_w, i32_w]
                      rfl
                    refine take_ (i := 4) (N := some 68) (v := ?_) (a' := ?_) #[true, true, true, true, true, false, true, false, false, false, false, false] rfl rfl (take_ofW HT_.out HW_.out (by kernel_rfl)) (fun _ _ _ h => h) (Or.inl ⟨by rfl, ?_⟩) hHeld ?_ ?_
                    rotate_left
                    · rintro w' ⟨s0, s1, s2⟩
                      go_simp
                      with_reducible rfl
                    rotate_left
                    · simp only [Act.put, List.setIfInBounds_toArray, List.set_cons_zero, List.set_cons_succ, i64_w, i32_w]
                      rfl
                    refine one_ (i := 5) (N := some 69) #[true, true, true, true, true, true, true, false, false, false, false, false] rfl rfl (one_of HT_.out (by kernel_rfl)) (by decide) (fun K hK => ?_)
                    refine goes_ Try.func8 (by kernel_rfl) rfl #[.int .i64 (rd l1 x13_2), .int .i64 8] (by rfl) rfl rfl (by (try simp only [List.map_toArray, List.map_cons, List.map_nil]); first | done | rfl | (simp only [List.length_drop, List.length_take]; rfl)) ?_
                    with_reducible refine (vmfleetmake_Round.calls (rd l1 x13_2) 8 t224 _ A22.out).mono ?_
                    rintro e w' ⟨rfl, ⟨nd, rfl⟩⟩
                    refine ⟨_, rfl, ?_⟩
                    obtain ⟨Ao26, co26, eo26⟩ := Kd.R_slice HO_219001.out
                    (first | subst eo26 | (injection eo26 with f1_ f2_ f3_; have f4_ := f1_.symm; have f5_ := f3_.symm; clear f1_ f2_ f3_; subst f4_; subst f5_))
                    refine hK.out _ _ ⟨(blk_cell BK218.out 0).trans rfl, (blk_cell BK218.out 1).trans rfl, ((HB.out.cell (World.block_lt_of_cell? w _ hw223_0)).trans hw223_0)⟩ (fun hHeld => ?_)
                    clear hK K
                    refine norm_ (a' := ?_) ?_ ?_
                    rotate_left
                    · show Act.put _ (some 69) _ = _
                      simp only [Act.put, List.setIfInBounds_toArray, List.set_cons_zero, List.set_cons_succ, i64_w, i32_w]
                      rfl
                    refine one_ (i := 7) (N := some 71) #[true, true, true, true, true, true, true, true, false, false, false, false] rfl rfl (one_of HT_.out (by kernel_rfl)) (by decide) (fun K hK => ?_)
                    refine goes_ Try.func9 (by kernel_rfl) rfl #[.agg #[.int .i64 x219000_2, .slice Ao26 x219001_2.length co26], .int .i64 t224, .string t220] (by rfl) rfl rfl (by (try simp only [List.map_toArray, List.map_cons, List.map_nil]); first | done | rfl | (simp only [List.length_drop, List.length_take]; rfl)) ?_
                    with_reducible refine (network_Forward.calls k2 x219000_2 _ _ x219001_2 t224 t220 t225 t226 t229 _ ?side1 ?side2 A23.out).mono ?_
                    (case side1 => repeat (first | exact (Kd.R_reads' HO_219001.out).2.2 | (with_reducible refine Kd.C_alloc ?_ _) | (with_reducible refine Kd.C_drewN ?_ _) | (with_reducible refine Kd.C_drew ?_)))
                    (case side2 => exact (Kd.R_reads' HO_219001.out).2.1)
                    rintro e w27 ⟨v227, v230, rfl, ho0, ho1, hb⟩
                    refine ⟨_, rfl, ?_⟩
                    have n0_ := Aside0.mk (Kd.R_elder' (by (with_reducible repeat (first | apply Kd.R_alloc | apply Kd.R_drewN | apply Kd.R_drew)); exact HO_219001.out) (Kd.R_base ho0) hb)
                    have n1_ := Aside0.mk (Kd.R_lower (Kd.R_new' ho0 (Kd.R_lt (by (with_reducible repeat (first | apply Kd.R_alloc | apply Kd.R_drewN | apply Kd.R_drew)); exact HO_219001.out))) (below_size (by repeat (first | (with_reducible first | exact HB.out | apply below_alloc | apply pw_below_drewN | apply below_drew1 | refine below_set ?_ GE218.out) | exact HB.out))))
                    have n2_ := Aside0.mk (Kd.R_lower ho1 (below_size (by repeat (first | (with_reducible first | exact HB.out | apply below_alloc | apply pw_below_drewN | apply below_drew1 | refine below_set ?_ GE218.out) | exact HB.out))))
                    have n3_ := Aside0.mk (blk_below (g := gb218) (o := .cells #[.int .i64 x219000_2, .slice Ao26 x219001_2.length co26] 26 (0, 0)) (by (with_reducible repeat (first | refine blk_drewN ?_ _ | refine blk_drew ?_ | refine blk_alloc ?_ _)); exact BK218.out) hb)
                    have n4_ := Aside0.mk (below_step (by repeat (first | (with_reducible first | exact HB.out | apply below_alloc | apply pw_below_drewN | apply below_drew1 | refine below_set ?_ GE218.out) | exact HB.out)) hb)
                    clear HO_219001
                    clear BK218
                    clear HB
                    have HO_219001 := n0_
                    have HO228 := n1_
                    have HO231 := n2_
                    have BK218 := n3_
                    have HB := n4_
                    clear n0_ n1_ n2_ n3_ n4_
                    (try clear hb)
                    (try clear hb2)
                    (try clear hk)
                    (try clear hi)
                    (try clear ho0)
                    (try clear ho1)
                    obtain ⟨Ao29, co29, eo29⟩ := Kd.R_slice HO228.out
                    (first | subst eo29 | (injection eo29 with f1_ f2_ f3_; have f4_ := f1_.symm; have f5_ := f3_.symm; clear f1_ f2_ f3_; subst f4_; subst f5_))
                    refine hK.out _ _ ⟨(blk_cell BK218.out 0).trans rfl, (blk_cell BK218.out 1).trans rfl, ((HB.out.cell (World.block_lt_of_cell? w _ hw223_0)).trans hw223_0)⟩ (fun hHeld => ?_)
                    clear hK K
                    refine norm_ (a' := ?_) ?_ ?_
                    rotate_left
                    · show Act.put _ (some 71) _ = _
                      simp only [Act.put, List.setIfInBounds_toArray, List.set_cons_zero, List.set_cons_succ, i64_w, i32_w]
                      rfl
                    refine pure_ (i := 8) (N := some 63) (v := ?_) (a' := ?_) #[true, true, true, true, true, true, true, true, true, false, false, false] rfl rfl (any_of HT_.out (by kernel_rfl)) (fun _ _ _ h => h) (Or.inl ⟨by rfl, ?_⟩) ?_ ?_
                    rotate_left
                    · intro w'
                      go_simp
                      with_reducible rfl
                    rotate_left
                    · simp only [Act.put, List.setIfInBounds_toArray, List.set_cons_zero, List.set_cons_succ, i64_w, i32_w]
                      rfl
                    refine pure_ (i := 9) (N := some 72) (v := ?_) (a' := ?_) #[true, true, true, true, true, true, true, true, true, true, false, false] rfl rfl (any_of HT_.out (by kernel_rfl)) (fun _ _ _ h => h) (Or.inl ⟨by rfl, ?_⟩) ?_ ?_
                    rotate_left
                    · intro w'
                      go_simp
                      with_reducible rfl
                    rotate_left
                    · simp only [Act.put, List.setIfInBounds_toArray, List.set_cons_zero, List.set_cons_succ, i64_w, i32_w]
                      rfl
                    refine pure_ (i := 10) (N := some 73) (v := ?_) (a' := ?_) #[true, true, true, true, true, true, true, true, true, true, true, false] rfl rfl (any_of HT_.out (by kernel_rfl)) (fun _ _ _ h => h) (Or.inl ⟨by rfl, ?_⟩) ?_ ?_
                    rotate_left
                    · intro w'
                      go_simp
                      with_reducible rfl
                    rotate_left
                    · simp only [Act.put, List.setIfInBounds_toArray, List.set_cons_zero, List.set_cons_succ, i64_w, i32_w]
                      rfl
                    refine last_ (i := 11) (N := none) #[true, true, true, true, true, true, true, true, true, true, true, true] rfl rfl (one_of HT_.out (by kernel_rfl)) (by decide) (fun K hK => ?_)
                    have hs28 : w27.cell? ⟨gb218, 0, none⟩ = some (.int .i64 x219000_2) := (blk_cell BK218.out 0).trans rfl
                    have hfs28 := blk_frozen BK218.out 0
                    have hs30 : w27.cell? ⟨gb218, 1, none⟩ = some (.slice Ao26 x219001_2.length co26) := (blk_cell BK218.out 1).trans rfl
                    have hfs30 := blk_frozen BK218.out 1
                    refine skip_ (w1 := ?_) (by rfl) rfl ?_ ?_
                    rotate_left
                    · go_simp
                      rfl
                    refine hK.out _ _ ?_
                    clear hK K
                    refine done_ (done_of HT_.out (by kernel_rfl)) ?_
                    try go_wp2
                    go_roundg k2
                    case measure => have := HJ5.out; have := HK2.out; omega
                    case rel => exact ⟨(wrap64 (x13_2 + 1)), (t225), (t226), (.slice Ao29 t226.length co29), (by first | rfl | (simp; done) | (simp [*]; done)), H', ⟨by have := HJ5.out; have := HK2.out; omega⟩, ⟨by (with_reducible repeat (first | apply Kd.R_alloc | apply Kd.R_drewN | apply Kd.R_drew)); exact Kd.R_mono (Kd.R_far (p := ⟨gb218, 1, none⟩) (Kd.R_far (p := ⟨gb218, 0, none⟩) (Kd.R_types HO228.out BK218.out (by decide)) (fun _ hk => hk.2) (.int .i64 t225)) (fun _ hk => hk.2) (.slice Ao29 t226.length co29)) (fun _ hk => trivial)⟩, ⟨by (with_reducible repeat (first | refine blk_drewN ?_ _ | refine blk_drew ?_ | refine blk_alloc ?_ _)); refine blk_put (cs := #[.int .i64 t225, .slice Ao26 x219001_2.length co26]) ?_ 1 _ rfl; (with_reducible repeat (first | refine blk_drewN ?_ _ | refine blk_drew ?_ | refine blk_alloc ?_ _)); refine blk_put (cs := #[.int .i64 x219000_2, .slice Ao26 x219001_2.length co26]) ?_ 0 _ rfl; (with_reducible repeat (first | refine blk_drewN ?_ _ | refine blk_drew ?_ | refine blk_alloc ?_ _)); exact BK218.out⟩, ⟨by repeat (first | (with_reducible first | exact HB.out | apply below_alloc | apply pw_below_drewN | apply below_drew1 | refine below_set ?_ GE218.out) | exact HB.out)⟩⟩
                  · rw [if_neg c21] at H
                    exact absurd H (by simp)
                · rw [if_neg c19] at H
                  exact absurd H (by simp)
              · rw [if_neg c18] at H
                have c18b0 : decide (x13_2 < (l0.length : Int)) = false := decide_eq_false c18
                clear c18
                replace H := Option.bind_eq_some_iff.mp H
                obtain ⟨t232, A310, H⟩ := H
                replace H : ((network_Announce.f 200).bind fun t233 => ((network_Forward.f k2 x219000_2 x219001_2 t232 t233).bind fun bt234 => (if (bt234.2.2.length : Int) = 7 then (vmfleetlaw33_SwitchMoves.l1 k2 a3 l4 t232 0 bt234.1 bt234.2.1) else (some false)))) = some r := H
                have A31 := Aside0.mk A310
                clear A310
                replace H := Option.bind_eq_some_iff.mp H
                obtain ⟨t233, A320, H⟩ := H
                replace H : ((network_Forward.f k2 x219000_2 x219001_2 t232 t233).bind fun bt234 => (if (bt234.2.2.length : Int) = 7 then (vmfleetlaw33_SwitchMoves.l1 k2 a3 l4 t232 0 bt234.1 bt234.2.1) else (some false))) = some r := H
                have A32 := Aside0.mk A320
                clear A320
                replace H := Option.bind_eq_some_iff.mp H
                obtain ⟨⟨t234, t235, t238⟩, A330, H⟩ := H
                replace H : (if (t238.length : Int) = 7 then (vmfleetlaw33_SwitchMoves.l1 k2 a3 l4 t232 0 t234 t235) else (some false)) = some r := H
                have A33 := Aside0.mk A330
                clear A330
                by_cases c34 : (t238.length : Int) = 7
                · rw [if_pos c34] at H
                  have c34b0 : ((t238.length : Int) == 7) = true := beq_iff_eq.mpr c34
                  have c34b1 : ((t238.length : Int) != 7) = false := bne_eq_false_iff_eq.mpr c34
                  clear c34
                  have H' := Aside0.mk H
                  clear H
                  try go_wp2_with (first | ((with_reducible refine gate_callee (f := 8) rfl ?_); refine goesL_ (some 75) rfl rfl Try.func8 (by kernel_rfl) rfl #[.int .i64 a2, .int .i64 8] rfl (by (try simp only [List.map_toArray, List.map_cons, List.map_nil]); first | done | rfl | (simp only [List.length_drop, List.length_take]; rfl)) ?_; (with_reducible refine (vmfleetmake_Round.calls a2 8 t232 _ A31.out).mono ?_); rintro e w' ⟨rfl, ⟨nd, rfl⟩⟩; refine ⟨_, rfl, ?_⟩; (try (rw [drewN_self wr]; generalize hq_ : World.drewN wr _ = wr; have n0_ : Aside0 (Kd.R k35 35 wr w.heap.size (fun _ => True) u219001 x219001_2) := ⟨by rw [← hq_]; exact (by (with_reducible repeat (first | apply Kd.R_alloc | apply Kd.R_drewN | apply Kd.R_drew)); exact HO_219001.out)⟩; have n1_ : Aside0 (wr.heap[gb218]? = some (.cells #[.int .i64 x219000_2, u219001] 26 (0, 0))) := ⟨by rw [← hq_]; exact (by (with_reducible repeat (first | refine blk_drewN ?_ _ | refine blk_drew ?_ | refine blk_alloc ?_ _)); exact BK218.out)⟩; have n2_ : Aside0 (Below w.heap.size w wr) := ⟨by rw [← hq_]; exact (by repeat (first | (with_reducible first | exact HB.out | apply below_alloc | apply pw_below_drewN | apply below_drew1 | refine below_set ?_ GE218.out) | exact HB.out))⟩; clear HO_219001 BK218 HB hq_; have HO_219001 := n0_; have BK218 := n1_; have HB := n2_; clear n0_ n1_ n2_))))
                  have n0_ := Aside0.mk (Kd.R_drew HO_219001.out)
                  have n1_ := Aside0.mk (blk_drew BK218.out)
                  have n2_ := Aside0.mk (below_drew1 HB.out)
                  clear HO_219001
                  clear BK218
                  clear HB
                  have HO_219001 := n0_
                  have BK218 := n1_
                  have HB := n2_
                  clear n0_ n1_ n2_
                  refine start_ (n := 9) (S := fun w' => w'.cell? ⟨gb218, 0, none⟩ = some (.int .i64 x219000_2) ∧ w'.cell? ⟨gb218, 1, none⟩ = some (u219001)) (ds := [7]) #[false, false, false, false, false, false, false, false, false] (by kernel_rfl) rfl rfl ⟨(blk_cell BK218.out 0).trans rfl, (blk_cell BK218.out 1).trans rfl⟩ (fun hHeld => ?_); refine with_tabW vmfleetlaw33_SwitchMoves.tab12 vmfleetlaw33_SwitchMoves.bits12 (fun HT_ HW_ => ?_)
                  generalize wr.drew = w35 at HO_219001 BK218 HB hHeld ⊢
                  refine pure_ (i := 1) (N := some 78) (v := ?_) (a' := ?_) #[false, true, false, false, false, false, false, false, false] rfl rfl (any_of HT_.out (by kernel_rfl)) (fun _ _ _ h => h) (Or.inl ⟨by rfl, ?_⟩) ?_ ?_
                  rotate_left
                  · intro w'
                    go_simp
                    with_reducible rfl
                  rotate_left
                  · simp only [Act.put, List.setIfInBounds_toArray, List.set_cons_zero, List.set_cons_succ, i64_w, i32_w]
                    rfl
                  refine take_ (i := 0) (N := some 77) (v := ?_) (a' := ?_) #[true, true, false, false, false, false, false, false, false] rfl rfl (take_ofW HT_.out HW_.out (by kernel_rfl)) (fun _ _ _ h => h) (Or.inl ⟨by rfl, ?_⟩) hHeld ?_ ?_
                  rotate_left
                  · rintro w' ⟨s0, s1⟩
                    go_simp
                    with_reducible rfl
                  rotate_left
                  · simp only [Act.put, List.setIfInBounds_toArray, List.set_cons_zero, List.set_cons_succ, i64_w, i32_w]
                    rfl
                  refine one_ (i := 2) (N := some 79) #[true, true, true, false, false, false, false, false, false] rfl rfl (one_of HT_.out (by kernel_rfl)) (by decide) (fun K hK => ?_)
                  refine goes_ Try.func11 (by kernel_rfl) rfl #[.int .u8 200] (by rfl) rfl rfl (by (try simp only [List.map_toArray, List.map_cons, List.map_nil]); first | done | rfl | (simp only [List.length_drop, List.length_take]; rfl)) ?_
                  with_reducible refine (network_Announce.calls 200 t233 _ A32.out).mono ?_
                  rintro e w36 ⟨rfl, hb⟩
                  refine ⟨_, rfl, ?_⟩
                  have n0_ := Aside0.mk (Kd.R_below (by (with_reducible repeat (first | apply Kd.R_alloc | apply Kd.R_drewN | apply Kd.R_drew)); exact HO_219001.out) hb)
                  have n1_ := Aside0.mk (blk_below (g := gb218) (o := .cells #[.int .i64 x219000_2, u219001] 26 (0, 0)) (by (with_reducible repeat (first | refine blk_drewN ?_ _ | refine blk_drew ?_ | refine blk_alloc ?_ _)); exact BK218.out) hb)
                  have n2_ := Aside0.mk (below_step (by repeat (first | (with_reducible first | exact HB.out | apply below_alloc | apply pw_below_drewN | apply below_drew1 | refine below_set ?_ GE218.out) | exact HB.out)) hb)
                  clear HO_219001
                  clear BK218
                  clear HB
                  have HO_219001 := n0_
                  have BK218 := n1_
                  have HB := n2_
                  clear n0_ n1_ n2_
                  (try clear hb)
                  (try clear hb2)
                  (try clear hk)
                  (try clear hi)
                  obtain ⟨Ao37, co37, eo37⟩ := Kd.R_slice HO_219001.out
                  (first | subst eo37 | (injection eo37 with f1_ f2_ f3_; have f4_ := f1_.symm; have f5_ := f3_.symm; clear f1_ f2_ f3_; subst f4_; subst f5_))
                  refine hK.out _ _ ⟨(blk_cell BK218.out 0).trans rfl, (blk_cell BK218.out 1).trans rfl⟩ (fun hHeld => ?_)
                  clear hK K
                  refine norm_ (a' := ?_) ?_ ?_
                  rotate_left
                  · show Act.put _ (some 79) _ = _
                    simp only [Act.put, List.setIfInBounds_toArray, List.set_cons_zero, List.set_cons_succ, i64_w, i32_w]
                    rfl
                  refine one_ (i := 3) (N := some 80) #[true, true, true, true, false, false, false, false, false] rfl rfl (one_of HT_.out (by kernel_rfl)) (by decide) (fun K hK => ?_)
                  refine goes_ Try.func9 (by kernel_rfl) rfl #[.agg #[.int .i64 x219000_2, .slice Ao37 x219001_2.length co37], .int .i64 t232, .string t233] (by rfl) rfl rfl (by (try simp only [List.map_toArray, List.map_cons, List.map_nil]); first | done | rfl | (simp only [List.length_drop, List.length_take]; rfl)) ?_
                  with_reducible refine (network_Forward.calls k2 x219000_2 _ _ x219001_2 t232 t233 t234 t235 t238 _ ?side1 ?side2 A33.out).mono ?_
                  (case side1 => repeat (first | exact (Kd.R_reads' HO_219001.out).2.2 | (with_reducible refine Kd.C_alloc ?_ _) | (with_reducible refine Kd.C_drewN ?_ _) | (with_reducible refine Kd.C_drew ?_)))
                  (case side2 => exact (Kd.R_reads' HO_219001.out).2.1)
                  rintro e w38 ⟨v236, v239, rfl, ho0, ho1, hb⟩
                  refine ⟨_, rfl, ?_⟩
                  have n0_ := Aside0.mk (Kd.R_elder' (by (with_reducible repeat (first | apply Kd.R_alloc | apply Kd.R_drewN | apply Kd.R_drew)); exact HO_219001.out) (Kd.R_base ho0) hb)
                  have n1_ := Aside0.mk (Kd.R_lower (Kd.R_new' ho0 (Kd.R_lt (by (with_reducible repeat (first | apply Kd.R_alloc | apply Kd.R_drewN | apply Kd.R_drew)); exact HO_219001.out))) (below_size (by repeat (first | (with_reducible first | exact HB.out | apply below_alloc | apply pw_below_drewN | apply below_drew1 | refine below_set ?_ GE218.out) | exact HB.out))))
                  have n2_ := Aside0.mk (Kd.R_lower ho1 (below_size (by repeat (first | (with_reducible first | exact HB.out | apply below_alloc | apply pw_below_drewN | apply below_drew1 | refine below_set ?_ GE218.out) | exact HB.out))))
                  have n3_ := Aside0.mk (blk_below (g := gb218) (o := .cells #[.int .i64 x219000_2, .slice Ao37 x219001_2.length co37] 26 (0, 0)) (by (with_reducible repeat (first | refine blk_drewN ?_ _ | refine blk_drew ?_ | refine blk_alloc ?_ _)); exact BK218.out) hb)
                  have n4_ := Aside0.mk (below_step (by repeat (first | (with_reducible first | exact HB.out | apply below_alloc | apply pw_below_drewN | apply below_drew1 | refine below_set ?_ GE218.out) | exact HB.out)) hb)
                  clear HO_219001
                  clear BK218
                  clear HB
                  have HO_219001 := n0_
                  have HO237 := n1_
                  have HO240 := n2_
                  have BK218 := n3_
                  have HB := n4_
                  clear n0_ n1_ n2_ n3_ n4_
                  (try clear hb)
                  (try clear hb2)
                  (try clear hk)
                  (try clear hi)
                  (try clear ho0)
                  (try clear ho1)
                  obtain ⟨Ao40, co40, eo40⟩ := Kd.R_slice HO237.out
                  (first | subst eo40 | (injection eo40 with f1_ f2_ f3_; have f4_ := f1_.symm; have f5_ := f3_.symm; clear f1_ f2_ f3_; subst f4_; subst f5_))
                  refine hK.out _ _ ⟨(blk_cell BK218.out 0).trans rfl, (blk_cell BK218.out 1).trans rfl⟩ (fun hHeld => ?_)
                  clear hK K
                  refine norm_ (a' := ?_) ?_ ?_
                  rotate_left
                  · show Act.put _ (some 80) _ = _
                    simp only [Act.put, List.setIfInBounds_toArray, List.set_cons_zero, List.set_cons_succ, i64_w, i32_w]
                    rfl
                  refine pure_ (i := 4) (N := some 76) (v := ?_) (a' := ?_) #[true, true, true, true, true, false, false, false, false] rfl rfl (any_of HT_.out (by kernel_rfl)) (fun _ _ _ h => h) (Or.inl ⟨by rfl, ?_⟩) ?_ ?_
                  rotate_left
                  · intro w'
                    go_simp
                    with_reducible rfl
                  rotate_left
                  · simp only [Act.put, List.setIfInBounds_toArray, List.set_cons_zero, List.set_cons_succ, i64_w, i32_w]
                    rfl
                  refine pure_ (i := 5) (N := some 81) (v := ?_) (a' := ?_) #[true, true, true, true, true, true, false, false, false] rfl rfl (any_of HT_.out (by kernel_rfl)) (fun _ _ _ h => h) (Or.inl ⟨by rfl, ?_⟩) ?_ ?_
                  rotate_left
                  · intro w'
                    go_simp
                    with_reducible rfl
                  rotate_left
                  · simp only [Act.put, List.setIfInBounds_toArray, List.set_cons_zero, List.set_cons_succ, i64_w, i32_w]
                    rfl
                  refine pure_ (i := 6) (N := some 82) (v := ?_) (a' := ?_) #[true, true, true, true, true, true, true, false, false] rfl rfl (any_of HT_.out (by kernel_rfl)) (fun _ _ _ h => h) (Or.inl ⟨by rfl, ?_⟩) ?_ ?_
                  rotate_left
                  · intro w'
                    go_simp
                    with_reducible rfl
                  rotate_left
                  · simp only [Act.put, List.setIfInBounds_toArray, List.set_cons_zero, List.set_cons_succ, i64_w, i32_w]
                    rfl
                  refine last_ (i := 7) (N := none) #[true, true, true, true, true, true, true, true, false] rfl rfl (one_of HT_.out (by kernel_rfl)) (by decide) (fun K hK => ?_)
                  have hs39 : w38.cell? ⟨gb218, 0, none⟩ = some (.int .i64 x219000_2) := (blk_cell BK218.out 0).trans rfl
                  have hfs39 := blk_frozen BK218.out 0
                  have hs41 : w38.cell? ⟨gb218, 1, none⟩ = some (.slice Ao37 x219001_2.length co37) := (blk_cell BK218.out 1).trans rfl
                  have hfs41 := blk_frozen BK218.out 1
                  refine skip_ (w1 := ?_) (by rfl) rfl ?_ ?_
                  rotate_left
                  · go_simp
                    rfl
                  refine hK.out _ _ ?_
                  clear hK K
                  refine pure_ (i := 8) (N := some 18) (v := ?_) (a' := ?_) #[true, true, true, true, true, true, true, true, true] rfl rfl (any_of HT_.out (by kernel_rfl)) (fun _ _ _ h => h) (Or.inl ⟨by rfl, ?_⟩) ?_ ?_
                  rotate_left
                  · intro w'
                    go_simp
                    with_reducible rfl
                  rotate_left
                  · simp only [Act.put, List.setIfInBounds_toArray, List.set_cons_zero, List.set_cons_succ, i64_w, i32_w]
                    rfl
                  refine done_ (done_of HT_.out (by kernel_rfl)) ?_
                  obtain ⟨Ao42, co42, eo42⟩ := Kd.R_slice HO240.out
                  subst eo42
                  try go_wp2
                  go_loopg [19] k2 (fun kq v19 w' => ∃ (x19_3 : Int) (x219000_3 : Int) (x219001_3 : List (S35)) (u219001 : Value), v19 = .int .i64 x19_3 ∧ Aside0 (vmfleetlaw33_SwitchMoves.l1 kq a3 l4 t232 x19_3 x219000_3 x219001_3 = some r) ∧ Aside0 (kq ≤ k2) ∧ Aside0 (Kd.R k35 35 w' w.heap.size (fun _ => True) u219001 x219001_3) ∧ Aside0 (w'.heap[gb218]? = some (.cells #[.int .i64 x219000_3, u219001] 26 (0, 0))) ∧ Aside0 (Below w.heap.size w w'))
                  case atStart => exact ⟨(0), (t234), (t235), (.slice Ao40 t235.length co40), (by first | rfl | (simp; done) | (simp [*]; done)), H', ⟨Nat.le_refl _⟩, ⟨by (with_reducible repeat (first | apply Kd.R_alloc | apply Kd.R_drewN | apply Kd.R_drew)); exact Kd.R_mono (Kd.R_far (p := ⟨gb218, 1, none⟩) (Kd.R_far (p := ⟨gb218, 0, none⟩) (Kd.R_types HO237.out BK218.out (by decide)) (fun _ hk => hk.2) (.int .i64 t234)) (fun _ hk => hk.2) (.slice Ao40 t235.length co40)) (fun _ hk => trivial)⟩, ⟨by (with_reducible repeat (first | refine blk_drewN ?_ _ | refine blk_drew ?_ | refine blk_alloc ?_ _)); refine blk_put (cs := #[.int .i64 t234, .slice Ao37 x219001_2.length co37]) ?_ 1 _ rfl; (with_reducible repeat (first | refine blk_drewN ?_ _ | refine blk_drew ?_ | refine blk_alloc ?_ _)); refine blk_put (cs := #[.int .i64 x219000_2, .slice Ao37 x219001_2.length co37]) ?_ 0 _ rfl; (with_reducible repeat (first | refine blk_drewN ?_ _ | refine blk_drew ?_ | refine blk_alloc ?_ _)); exact BK218.out⟩, ⟨by repeat (first | (with_reducible first | exact HB.out | apply below_alloc | apply pw_below_drewN | apply below_drew1 | refine below_set ?_ GE218.out) | exact HB.out)⟩⟩
                  case round =>
                    clear H'
                    try clear c1
                    try clear c2
                    try clear p2
                    try clear q2
                    try clear hx2
                    try clear c3
                    try clear c4
                    try clear c5
                    try clear c6
                    try clear p6
                    try clear c7
                    try clear c7b0
                    try clear c7b1
                    try clear c8
                    try clear c8b0
                    try clear c8b1
                    try clear c9
                    try clear c11
                    try clear c13
                    try clear c18
                    try clear c18b0
                    try clear c19
                    try clear c19b0
                    try clear c21
                    try clear c21b0
                    try clear p21
                    try clear q21
                    try clear hx21
                    try clear p22
                    try clear q22
                    try clear hx22
                    try clear c34
                    try clear c34b0
                    try clear c34b1
                    try clear hcz16_0
                    try clear hcz16_1
                    try clear hfz16_0
                    try clear hfz16_1
                    try clear hx219_0
                    try clear hx223_0
                    try clear p2
                    try clear p219
                    try clear p223
                    try clear q219
                    try clear q223
                    obtain ⟨x19_3, x219000_3, x219001_3, u219001, rfl, HA, HK3, HO_219001, BK218, HB⟩ := hrel
                    cases gk with
                    | zero => exact absurd HA.out (by simp [vmfleetlaw33_SwitchMoves.l1])
                    | succ k3 =>
                      have H := HA.out
                      clear HA
                      simp only [vmfleetlaw33_SwitchMoves.l1] at H
                      by_cases c43 : x19_3 < (l4.length : Int)
                      · rw [if_pos c43] at H
                        have c43b0 : decide (x19_3 < (l4.length : Int)) = true := decide_eq_true c43
                        clear c43
                        by_cases c44 : 0 ≤ x19_3
                        · rw [if_pos c44] at H
                          have c44b0 : decide (0 ≤ x19_3) = true := decide_eq_true c44
                          clear c44
                          replace H := Option.bind_eq_some_iff.mp H
                          obtain ⟨⟨t242, t243, t244⟩, A450, H⟩ := H
                          replace H : ((vmfleetmake_Round.f (rd l4 x19_3) 8).bind fun t246 => ((network_Forward.f k3 x219000_3 x219001_3 t246 t242).bind fun bt247 => (vmfleetlaw33_SwitchMoves.l1 k3 a3 l4 t232 (wrap64 (x19_3 + 1)) bt247.1 bt247.2.1))) = some r := H
                          have A45 := Aside0.mk A450
                          clear A450
                          replace H := Option.bind_eq_some_iff.mp H
                          obtain ⟨t246, A460, H⟩ := H
                          replace H : ((network_Forward.f k3 x219000_3 x219001_3 t246 t242).bind fun bt247 => (vmfleetlaw33_SwitchMoves.l1 k3 a3 l4 t232 (wrap64 (x19_3 + 1)) bt247.1 bt247.2.1)) = some r := H
                          have A46 := Aside0.mk A460
                          clear A460
                          replace H := Option.bind_eq_some_iff.mp H
                          obtain ⟨⟨t247, t248, t251⟩, A470, H⟩ := H
                          replace H : (vmfleetlaw33_SwitchMoves.l1 k3 a3 l4 t232 (wrap64 (x19_3 + 1)) t247 t248) = some r := H
                          have A47 := Aside0.mk A470
                          clear A470
                          have H' := Aside0.mk H
                          clear H
                          have p241 : 0 ≤ (x19_3 : Int) := of_decide_eq_true (by first | (with_reducible assumption) | assumption)
                          have q241 : x19_3 < (l4.length : Int) := of_decide_eq_true (by first | (with_reducible assumption) | assumption)
                          obtain ⟨ad241, e241, hx241_0⟩ := Kd.at_int HR4.out x19_3 p241 q241
                          cases e241
                          replace hx241_0 := (HB.out.cell (World.block_lt_of_cell? w _ hx241_0)).trans hx241_0
                          replace p241 := eq_true p241
                          replace q241 := eq_true q241
                          try go_wp2_with (first | ((with_reducible refine gate_callee (f := 7) rfl ?_); refine goesL_ (some 97) rfl rfl Try.func7 (by kernel_rfl) rfl #[.int .i64 (rd l4 x19_3)] rfl (by (try simp only [List.map_toArray, List.map_cons, List.map_nil]); first | done | rfl | (simp only [List.length_drop, List.length_take]; rfl)) ?_; (with_reducible refine (vmfleetlaw33_frame.calls k3 (rd l4 x19_3) t242 t243 t244 _ A45.out).mono ?_); rintro e w48 ⟨rfl, hb⟩; refine ⟨_, rfl, ?_⟩; have n0_ := Aside0.mk (Kd.R_below (by (with_reducible repeat (first | apply Kd.R_alloc | apply Kd.R_drewN | apply Kd.R_drew)); exact HO_219001.out) hb); have n1_ := Aside0.mk (blk_below (g := gb218) (o := .cells #[.int .i64 x219000_3, u219001] 26 (0, 0)) (by (with_reducible repeat (first | refine blk_drewN ?_ _ | refine blk_drew ?_ | refine blk_alloc ?_ _)); exact BK218.out) hb); have n2_ := Aside0.mk (below_step (by repeat (first | (with_reducible first | exact HB.out | apply below_alloc | apply pw_below_drewN | apply below_drew1 | refine below_set ?_ GE218.out) | exact HB.out)) hb); clear HO_219001; clear BK218; clear HB; have HO_219001 := n0_; have BK218 := n1_; have HB := n2_; clear n0_ n1_ n2_; (try clear hb); (try clear hb2); (try clear hk); (try clear hi)))
                          have n0_ := Aside0.mk (Kd.R_drew HO_219001.out)
                          have n1_ := Aside0.mk (blk_drew BK218.out)
                          have n2_ := Aside0.mk (below_drew1 HB.out)
                          clear HO_219001
                          clear BK218
                          clear HB
                          have HO_219001 := n0_
                          have BK218 := n1_
                          have HB := n2_
                          clear n0_ n1_ n2_
                          have p245 : 0 ≤ (x19_3 : Int) := of_decide_eq_true (by first | (with_reducible assumption) | assumption)
                          have q245 : x19_3 < (l4.length : Int) := of_decide_eq_true (by first | (with_reducible assumption) | assumption)
                          obtain ⟨ad245, e245, hx245_0⟩ := Kd.at_int HR4.out x19_3 p245 q245
                          have hw245_0 := hx245_0
                          obtain rfl : ad241 = ad245 := (by injection e245)
                          replace hx245_0 := (HB.out.cell (World.block_lt_of_cell? w _ hx245_0)).trans hx245_0
                          replace p245 := eq_true p245
                          replace q245 := eq_true q245
                          refine start_ (n := 12) (S := fun w' => w'.cell? ⟨gb218, 0, none⟩ = some (.int .i64 x219000_3) ∧ w'.cell? ⟨gb218, 1, none⟩ = some (u219001) ∧ w'.cell? (ad241.add (x19_3).toNat) = some (.int .i64 (rd l4 x19_3))) (ds := [11]) #[false, false, false, false, false, false, false, false, false, false, false, false] (by kernel_rfl) rfl rfl ⟨(blk_cell BK218.out 0).trans rfl, (blk_cell BK218.out 1).trans rfl, ((HB.out.cell (World.block_lt_of_cell? w _ hw245_0)).trans hw245_0)⟩ (fun hHeld => ?_); refine with_tabW vmfleetlaw33_SwitchMoves.tab19 vmfleetlaw33_SwitchMoves.bits19 (fun HT_ HW_ => ?_)
                          generalize w48.drew = w49 at HO_219001 BK218 HB hx245_0 hHeld ⊢
                          refine pure_ (i := 1) (N := some 103) (v := ?_) (a' := ?_) #[false, true, false, false, false, false, false, false, false, false, false, false] rfl rfl (any_of HT_.out (by kernel_rfl)) (fun _ _ _ h => h) (Or.inl ⟨by rfl, ?_⟩) ?_ ?_
                          rotate_left
                          · intro w'
                            go_simp
                            with_reducible rfl
                          rotate_left
                          · simp only [Act.put, List.setIfInBounds_toArray, List.set_cons_zero, List.set_cons_succ, i64_w, i32_w]
                            rfl
                          refine pure_ (i := 2) (N := some 104) (v := ?_) (a' := ?_) #[false, true, true, false, false, false, false, false, false, false, false, false] rfl rfl (any_of HT_.out (by kernel_rfl)) (fun _ _ _ h => h) (Or.inl ⟨by rfl, ?_⟩) ?_ ?_
                          rotate_left
                          · intro w'
                            go_simp
                            with_reducible rfl
                          rotate_left
                          · simp only [Act.put, List.setIfInBounds_toArray, List.set_cons_zero, List.set_cons_succ, i64_w, i32_w]
                            rfl
                          refine pure_ (i := 3) (N := some 105) (v := ?_) (a' := ?_) #[false, true, true, true, false, false, false, false, false, false, false, false] rfl rfl (any_of HT_.out (by kernel_rfl)) (fun _ _ _ h => h) (Or.inl ⟨by rfl, ?_⟩) ?_ ?_
                          rotate_left
                          · intro w'
                            go_simp
                            with_reducible rfl
                          rotate_left
                          · simp only [Act.put, List.setIfInBounds_toArray, List.set_cons_zero, List.set_cons_succ, i64_w, i32_w]
                            rfl
                          refine pure_ (i := 6) (N := some 108) (v := ?_) (a' := ?_) #[false, true, true, true, false, false, true, false, false, false, false, false] rfl rfl (any_of HT_.out (by kernel_rfl)) (fun _ _ _ h => h) (Or.inl ⟨by rfl, ?_⟩) ?_ ?_
                          rotate_left
                          · intro w'
                            go_simp
                            with_reducible rfl
                          rotate_left
                          · simp only [Act.put, List.setIfInBounds_toArray, List.set_cons_zero, List.set_cons_succ, i64_w, i32_w]
                            rfl
                          refine take_ (i := 0) (N := some 102) (v := ?_) (a' := ?_) #[true, true, true, true, false, false, true, false, false, false, false, false] rfl rfl (take_ofW HT_.out HW_.out (by kernel_rfl)) (fun _ _ _ h => h) (Or.inl ⟨by rfl, ?_⟩) hHeld ?_ ?_
                          rotate_left
                          · rintro w' ⟨s0, s1, s2⟩
                            go_simp
                            with_reducible rfl
                          rotate_left
                          · simp only [Act.put, List.setIfInBounds_toArray, List.set_cons_zero, List.set_cons_succ, i64_w, i32_w]
                            rfl
                          refine take_ (i := 4) (N := some 106) (v := ?_) (a' := ?_) #[true, true, true, true, true, false, true, false, false, false, false, false] rfl rfl (take_ofW HT_.out HW_.out (by kernel_rfl)) (fun _ _ _ h => h) (Or.inl ⟨by rfl, ?_⟩) hHeld ?_ ?_
                          rotate_left
                          · rintro w' ⟨s0, s1, s2⟩
                            go_simp
                            with_reducible rfl
                          rotate_left
                          · simp only [Act.put, List.setIfInBounds_toArray, List.set_cons_zero, List.set_cons_succ, i64_w, i32_w]
                            rfl
                          refine one_ (i := 5) (N := some 107) #[true, true, true, true, true, true, true, false, false, false, false, false] rfl rfl (one_of HT_.out (by kernel_rfl)) (by decide) (fun K hK => ?_)
                          refine goes_ Try.func8 (by kernel_rfl) rfl #[.int .i64 (rd l4 x19_3), .int .i64 8] (by rfl) rfl rfl (by (try simp only [List.map_toArray, List.map_cons, List.map_nil]); first | done | rfl | (simp only [List.length_drop, List.length_take]; rfl)) ?_
                          with_reducible refine (vmfleetmake_Round.calls (rd l4 x19_3) 8 t246 _ A46.out).mono ?_
                          rintro e w' ⟨rfl, ⟨nd, rfl⟩⟩
                          refine ⟨_, rfl, ?_⟩
                          obtain ⟨Ao50, co50, eo50⟩ := Kd.R_slice HO_219001.out
                          (first | subst eo50 | (injection eo50 with f1_ f2_ f3_; have f4_ := f1_.symm; have f5_ := f3_.symm; clear f1_ f2_ f3_; subst f4_; subst f5_))
                          refine hK.out _ _ ⟨(blk_cell BK218.out 0).trans rfl, (blk_cell BK218.out 1).trans rfl, ((HB.out.cell (World.block_lt_of_cell? w _ hw245_0)).trans hw245_0)⟩ (fun hHeld => ?_)
                          clear hK K
                          refine norm_ (a' := ?_) ?_ ?_
                          rotate_left
                          · show Act.put _ (some 107) _ = _
                            simp only [Act.put, List.setIfInBounds_toArray, List.set_cons_zero, List.set_cons_succ, i64_w, i32_w]
                            rfl
                          refine one_ (i := 7) (N := some 109) #[true, true, true, true, true, true, true, true, false, false, false, false] rfl rfl (one_of HT_.out (by kernel_rfl)) (by decide) (fun K hK => ?_)
                          refine goes_ Try.func9 (by kernel_rfl) rfl #[.agg #[.int .i64 x219000_3, .slice Ao50 x219001_3.length co50], .int .i64 t246, .string t242] (by rfl) rfl rfl (by (try simp only [List.map_toArray, List.map_cons, List.map_nil]); first | done | rfl | (simp only [List.length_drop, List.length_take]; rfl)) ?_
                          with_reducible refine (network_Forward.calls k3 x219000_3 _ _ x219001_3 t246 t242 t247 t248 t251 _ ?side1 ?side2 A47.out).mono ?_
                          (case side1 => repeat (first | exact (Kd.R_reads' HO_219001.out).2.2 | (with_reducible refine Kd.C_alloc ?_ _) | (with_reducible refine Kd.C_drewN ?_ _) | (with_reducible refine Kd.C_drew ?_)))
                          (case side2 => exact (Kd.R_reads' HO_219001.out).2.1)
                          rintro e w51 ⟨v249, v252, rfl, ho0, ho1, hb⟩
                          refine ⟨_, rfl, ?_⟩
                          have n0_ := Aside0.mk (Kd.R_elder' (by (with_reducible repeat (first | apply Kd.R_alloc | apply Kd.R_drewN | apply Kd.R_drew)); exact HO_219001.out) (Kd.R_base ho0) hb)
                          have n1_ := Aside0.mk (Kd.R_lower (Kd.R_new' ho0 (Kd.R_lt (by (with_reducible repeat (first | apply Kd.R_alloc | apply Kd.R_drewN | apply Kd.R_drew)); exact HO_219001.out))) (below_size (by repeat (first | (with_reducible first | exact HB.out | apply below_alloc | apply pw_below_drewN | apply below_drew1 | refine below_set ?_ GE218.out) | exact HB.out))))
                          have n2_ := Aside0.mk (Kd.R_lower ho1 (below_size (by repeat (first | (with_reducible first | exact HB.out | apply below_alloc | apply pw_below_drewN | apply below_drew1 | refine below_set ?_ GE218.out) | exact HB.out))))
                          have n3_ := Aside0.mk (blk_below (g := gb218) (o := .cells #[.int .i64 x219000_3, .slice Ao50 x219001_3.length co50] 26 (0, 0)) (by (with_reducible repeat (first | refine blk_drewN ?_ _ | refine blk_drew ?_ | refine blk_alloc ?_ _)); exact BK218.out) hb)
                          have n4_ := Aside0.mk (below_step (by repeat (first | (with_reducible first | exact HB.out | apply below_alloc | apply pw_below_drewN | apply below_drew1 | refine below_set ?_ GE218.out) | exact HB.out)) hb)
                          clear HO_219001
                          clear BK218
                          clear HB
                          have HO_219001 := n0_
                          have HO250 := n1_
                          have HO253 := n2_
                          have BK218 := n3_
                          have HB := n4_
                          clear n0_ n1_ n2_ n3_ n4_
                          (try clear hb)
                          (try clear hb2)
                          (try clear hk)
                          (try clear hi)
                          (try clear ho0)
                          (try clear ho1)
                          obtain ⟨Ao53, co53, eo53⟩ := Kd.R_slice HO250.out
                          (first | subst eo53 | (injection eo53 with f1_ f2_ f3_; have f4_ := f1_.symm; have f5_ := f3_.symm; clear f1_ f2_ f3_; subst f4_; subst f5_))
                          refine hK.out _ _ ⟨(blk_cell BK218.out 0).trans rfl, (blk_cell BK218.out 1).trans rfl, ((HB.out.cell (World.block_lt_of_cell? w _ hw245_0)).trans hw245_0)⟩ (fun hHeld => ?_)
                          clear hK K
                          refine norm_ (a' := ?_) ?_ ?_
                          rotate_left
                          · show Act.put _ (some 109) _ = _
                            simp only [Act.put, List.setIfInBounds_toArray, List.set_cons_zero, List.set_cons_succ, i64_w, i32_w]
                            rfl
                          refine pure_ (i := 8) (N := some 101) (v := ?_) (a' := ?_) #[true, true, true, true, true, true, true, true, true, false, false, false] rfl rfl (any_of HT_.out (by kernel_rfl)) (fun _ _ _ h => h) (Or.inl ⟨by rfl, ?_⟩) ?_ ?_
                          rotate_left
                          · intro w'
                            go_simp
                            with_reducible rfl
                          rotate_left
                          · simp only [Act.put, List.setIfInBounds_toArray, List.set_cons_zero, List.set_cons_succ, i64_w, i32_w]
                            rfl
                          refine pure_ (i := 9) (N := some 110) (v := ?_) (a' := ?_) #[true, true, true, true, true, true, true, true, true, true, false, false] rfl rfl (any_of HT_.out (by kernel_rfl)) (fun _ _ _ h => h) (Or.inl ⟨by rfl, ?_⟩) ?_ ?_
                          rotate_left
                          · intro w'
                            go_simp
                            with_reducible rfl
                          rotate_left
                          · simp only [Act.put, List.setIfInBounds_toArray, List.set_cons_zero, List.set_cons_succ, i64_w, i32_w]
                            rfl
                          refine pure_ (i := 10) (N := some 111) (v := ?_) (a' := ?_) #[true, true, true, true, true, true, true, true, true, true, true, false] rfl rfl (any_of HT_.out (by kernel_rfl)) (fun _ _ _ h => h) (Or.inl ⟨by rfl, ?_⟩) ?_ ?_
                          rotate_left
                          · intro w'
                            go_simp
                            with_reducible rfl
                          rotate_left
                          · simp only [Act.put, List.setIfInBounds_toArray, List.set_cons_zero, List.set_cons_succ, i64_w, i32_w]
                            rfl
                          refine last_ (i := 11) (N := none) #[true, true, true, true, true, true, true, true, true, true, true, true] rfl rfl (one_of HT_.out (by kernel_rfl)) (by decide) (fun K hK => ?_)
                          have hs52 : w51.cell? ⟨gb218, 0, none⟩ = some (.int .i64 x219000_3) := (blk_cell BK218.out 0).trans rfl
                          have hfs52 := blk_frozen BK218.out 0
                          have hs54 : w51.cell? ⟨gb218, 1, none⟩ = some (.slice Ao50 x219001_3.length co50) := (blk_cell BK218.out 1).trans rfl
                          have hfs54 := blk_frozen BK218.out 1
                          refine skip_ (w1 := ?_) (by rfl) rfl ?_ ?_
                          rotate_left
                          · go_simp
                            rfl
                          refine hK.out _ _ ?_
                          clear hK K
                          refine done_ (done_of HT_.out (by kernel_rfl)) ?_
                          try go_wp2
                          go_roundg k3
                          case measure => have := HJ5.out; have := HK2.out; have := HK3.out; omega
                          case rel => exact ⟨(wrap64 (x19_3 + 1)), (t247), (t248), (.slice Ao53 t248.length co53), (by first | rfl | (simp; done) | (simp [*]; done)), H', ⟨by have := HJ5.out; have := HK2.out; have := HK3.out; omega⟩, ⟨by (with_reducible repeat (first | apply Kd.R_alloc | apply Kd.R_drewN | apply Kd.R_drew)); exact Kd.R_mono (Kd.R_far (p := ⟨gb218, 1, none⟩) (Kd.R_far (p := ⟨gb218, 0, none⟩) (Kd.R_types HO250.out BK218.out (by decide)) (fun _ hk => hk.2) (.int .i64 t247)) (fun _ hk => hk.2) (.slice Ao53 t248.length co53)) (fun _ hk => trivial)⟩, ⟨by (with_reducible repeat (first | refine blk_drewN ?_ _ | refine blk_drew ?_ | refine blk_alloc ?_ _)); refine blk_put (cs := #[.int .i64 t247, .slice Ao50 x219001_3.length co50]) ?_ 1 _ rfl; (with_reducible repeat (first | refine blk_drewN ?_ _ | refine blk_drew ?_ | refine blk_alloc ?_ _)); refine blk_put (cs := #[.int .i64 x219000_3, .slice Ao50 x219001_3.length co50]) ?_ 0 _ rfl; (with_reducible repeat (first | refine blk_drewN ?_ _ | refine blk_drew ?_ | refine blk_alloc ?_ _)); exact BK218.out⟩, ⟨by repeat (first | (with_reducible first | exact HB.out | apply below_alloc | apply pw_below_drewN | apply below_drew1 | refine below_set ?_ GE218.out) | exact HB.out)⟩⟩
                        · rw [if_neg c44] at H
                          exact absurd H (by simp)
                      · rw [if_neg c43] at H
                        have c43b0 : decide (x19_3 < (l4.length : Int)) = false := decide_eq_false c43
                        clear c43
                        replace H := Option.bind_eq_some_iff.mp H
                        obtain ⟨t254, A550, H⟩ := H
                        replace H : ((network_Forward.f k3 x219000_3 x219001_3 t254 (strOfNums (([200, 3] : List Int)))).bind fun bt258 => (if t254 = t232 then (if (bt258.2.2.length : Int) = 0 then ((vmfleetlaw33_awake.f k3).bind fun t266 => (some t266)) else (some false)) else (if (bt258.2.2.length : Int) = 1 then (if 0 < (bt258.2.2.length : Int) then (if (rd bt258.2.2 0) = t232 then ((vmfleetlaw33_awake.f k3).bind fun t268 => (some t268)) else (some false)) else (none)) else (some false)))) = some r := H
                        have A55 := Aside0.mk A550
                        clear A550
                        obtain ⟨y255, hy255⟩ : ∃ y_ : List Int, y_ = (([200, 3] : List Int)) := ⟨_, rfl⟩
                        replace H : ((network_Forward.f k3 x219000_3 x219001_3 t254 (strOfNums y255)).bind fun bt258 => (if t254 = t232 then (if (bt258.2.2.length : Int) = 0 then ((vmfleetlaw33_awake.f k3).bind fun t266 => (some t266)) else (some false)) else (if (bt258.2.2.length : Int) = 1 then (if 0 < (bt258.2.2.length : Int) then (if (rd bt258.2.2 0) = t232 then ((vmfleetlaw33_awake.f k3).bind fun t268 => (some t268)) else (some false)) else (none)) else (some false)))) = some r := by first | (rw [hy255]; with_reducible exact H) | (have H2_ := (Option.bind_some _ _).symm.trans H; rw [hy255]; with_reducible exact H2_) | (have H2_ := (Option.bind_some _ _).symm.trans H; with_reducible exact H2_) | with_reducible exact H | (rw [hy255]; exact H) | exact H
                        have Ny255 := Aside0.mk hy255
                        clear hy255
                        replace H := Option.bind_eq_some_iff.mp H
                        obtain ⟨⟨t258, t259, t262⟩, A560, H⟩ := H
                        replace H : (if t254 = t232 then (if (t262.length : Int) = 0 then ((vmfleetlaw33_awake.f k3).bind fun t266 => (some t266)) else (some false)) else (if (t262.length : Int) = 1 then (if 0 < (t262.length : Int) then (if (rd t262 0) = t232 then ((vmfleetlaw33_awake.f k3).bind fun t268 => (some t268)) else (some false)) else (none)) else (some false))) = some r := H
                        have A56 := Aside0.mk A560
                        clear A560
                        by_cases c57 : t254 = t232
                        · rw [if_pos c57] at H
                          have c57b0 : (t254 == t232) = true := beq_iff_eq.mpr c57
                          have c57b1 : (t254 != t232) = false := bne_eq_false_iff_eq.mpr c57
                          clear c57
                          by_cases c58 : (t262.length : Int) = 0
                          · rw [if_pos c58] at H
                            have c58b0 : ((t262.length : Int) == 0) = true := beq_iff_eq.mpr c58
                            have c58b1 : ((t262.length : Int) != 0) = false := bne_eq_false_iff_eq.mpr c58
                            clear c58
                            replace H := Option.bind_eq_some_iff.mp H
                            obtain ⟨t266, A590, H⟩ := H
                            replace H : (some t266) = some r := H
                            have A59 := Aside0.mk A590
                            clear A590
                            obtain rfl := Option.some.inj H
                            go_wp2_with (first | ((with_reducible refine gate_callee (f := 8) rfl ?_); refine goesL_ (some 113) rfl rfl Try.func8 (by kernel_rfl) rfl #[.int .i64 a3, .int .i64 8] rfl (by (try simp only [List.map_toArray, List.map_cons, List.map_nil]); first | done | rfl | (simp only [List.length_drop, List.length_take]; rfl)) ?_; (with_reducible refine (vmfleetmake_Round.calls a3 8 t254 _ A55.out).mono ?_); rintro e w' ⟨rfl, ⟨nd, rfl⟩⟩; refine ⟨_, rfl, ?_⟩; (try (rw [drewN_self wr]; generalize hq_ : World.drewN wr _ = wr; have n0_ : Aside0 (Kd.R k35 35 wr w.heap.size (fun _ => True) u219001 x219001_3) := ⟨by rw [← hq_]; exact (by (with_reducible repeat (first | apply Kd.R_alloc | apply Kd.R_drewN | apply Kd.R_drew)); exact HO_219001.out)⟩; have n1_ : Aside0 (wr.heap[gb218]? = some (.cells #[.int .i64 x219000_3, u219001] 26 (0, 0))) := ⟨by rw [← hq_]; exact (by (with_reducible repeat (first | refine blk_drewN ?_ _ | refine blk_drew ?_ | refine blk_alloc ?_ _)); exact BK218.out)⟩; have n2_ : Aside0 (Below w.heap.size w wr) := ⟨by rw [← hq_]; exact (by repeat (first | (with_reducible first | exact HB.out | apply below_alloc | apply pw_below_drewN | apply below_drew1 | refine below_set ?_ GE218.out) | exact HB.out))⟩; clear HO_219001 BK218 HB hq_; have HO_219001 := n0_; have BK218 := n1_; have HB := n2_; clear n0_ n1_ n2_)); have hcz60_0 : wr.cell? ⟨gb218, 0, none⟩ = some (.int .i64 x219000_3) := (blk_cell BK218.out 0).trans rfl; have hcz60_1 : wr.cell? ⟨gb218, 1, none⟩ = some (u219001) := (blk_cell BK218.out 1).trans rfl; have hfz60_0 := blk_frozen BK218.out 0; have hfz60_1 := blk_frozen BK218.out 1) | ((with_reducible refine gate_dst (N := 117) rfl ?_); (try (refine gate_guard (by rfl) ?_; dsimp only)); refine Kd.R_lit (Kd.int .u8) _ 5 ?hg (N := 117) ?hd (xs := ([200, 3] : List Int)) (inner := [.int .u8 200, .int .u8 3]) (ok := fun _ => True) (okp := fun _ => True) ?hr ?hp (fun _ hk => hk) trivial (Below.refl _ _) (Nat.le_refl _) (by simp) ?_; (case hd => rfl); (case hg => rfl); (case hr => first | (go_simp; done) | (go_simp; rfl)); (case hp => exact (Reps.one (show Kd.M (Kd.int .u8) _ _ _ 200 [.int .u8 200] from rfl) (Reps.one (show Kd.M (Kd.int .u8) _ _ _ 3 [.int .u8 3] from rfl) (Reps.none _ _)))); intro v256 w61 ho62 hb hg_ hnew_; clear hg_ hnew_; (first | rw [← Ny255.out] at ho62 | (simp only [Int.reduceToNat] at ho62; rw [← Ny255.out] at ho62)); have n0_ := Aside0.mk (Kd.R_below (by (with_reducible repeat (first | apply Kd.R_alloc | apply Kd.R_drewN | apply Kd.R_drew)); exact HO_219001.out) hb); have n1_ := Aside0.mk (Kd.R_lower ho62 (below_size (by repeat (first | (with_reducible first | exact HB.out | apply below_alloc | apply pw_below_drewN | apply below_drew1 | refine below_set ?_ GE218.out) | exact HB.out)))); have n2_ := Aside0.mk (blk_below (g := gb218) (o := .cells #[.int .i64 x219000_3, u219001] 26 (0, 0)) (by (with_reducible repeat (first | refine blk_drewN ?_ _ | refine blk_drew ?_ | refine blk_alloc ?_ _)); exact BK218.out) hb); have n3_ := Aside0.mk (below_step (by repeat (first | (with_reducible first | exact HB.out | apply below_alloc | apply pw_below_drewN | apply below_drew1 | refine below_set ?_ GE218.out) | exact HB.out)) hb); clear HO_219001; clear BK218; clear HB; have HO_219001 := n0_; have HO257 := n1_; have BK218 := n2_; have HB := n3_; clear n0_ n1_ n2_ n3_; clear hb ho62; have hcv63 := own_string (P := Try.prog) Try.underlying39 Try.underlying5 Try.underlying9 (Kd.own_of_R HO257.out); obtain ⟨Ao64, co64, eo64⟩ := Kd.R_slice HO_219001.out; subst eo64) | ((with_reducible refine gate_callee (f := 9) rfl ?_); refine goesL_ (some 119) rfl rfl Try.func9 (by kernel_rfl) rfl #[.agg #[.int .i64 x219000_3, .slice Ao64 x219001_3.length co64], .int .i64 t254, .string (strOfNums y255)] rfl (by (try simp only [List.map_toArray, List.map_cons, List.map_nil]); first | done | rfl | (simp only [List.length_drop, List.length_take]; rfl)) ?_; (with_reducible refine (network_Forward.calls k3 x219000_3 _ _ x219001_3 t254 (strOfNums y255) t258 t259 t262 _ ?side1 ?side2 A56.out).mono ?_); (case side1 => repeat (first | exact (Kd.R_reads' HO_219001.out).2.2 | (with_reducible refine Kd.C_alloc ?_ _) | (with_reducible refine Kd.C_drewN ?_ _) | (with_reducible refine Kd.C_drew ?_))); (case side2 => exact (Kd.R_reads' HO_219001.out).2.1); rintro e w65 ⟨v260, v263, rfl, ho0, ho1, hb⟩; refine ⟨_, rfl, ?_⟩; have n0_ := Aside0.mk (Kd.R_elder' (by (with_reducible repeat (first | apply Kd.R_alloc | apply Kd.R_drewN | apply Kd.R_drew)); exact HO_219001.out) (Kd.R_base ho0) hb); have n1_ := Aside0.mk (Kd.R_below (by (with_reducible repeat (first | apply Kd.R_alloc | apply Kd.R_drewN | apply Kd.R_drew)); exact HO257.out) hb); have n2_ := Aside0.mk (Kd.R_lower (Kd.R_new' ho0 (Kd.R_lt (by (with_reducible repeat (first | apply Kd.R_alloc | apply Kd.R_drewN | apply Kd.R_drew)); exact HO_219001.out))) (below_size (by repeat (first | (with_reducible first | exact HB.out | apply below_alloc | apply pw_below_drewN | apply below_drew1 | refine below_set ?_ GE218.out) | exact HB.out)))); have n3_ := Aside0.mk (Kd.R_lower ho1 (below_size (by repeat (first | (with_reducible first | exact HB.out | apply below_alloc | apply pw_below_drewN | apply below_drew1 | refine below_set ?_ GE218.out) | exact HB.out)))); have n4_ := Aside0.mk (blk_below (g := gb218) (o := .cells #[.int .i64 x219000_3, .slice Ao64 x219001_3.length co64] 26 (0, 0)) (by (with_reducible repeat (first | refine blk_drewN ?_ _ | refine blk_drew ?_ | refine blk_alloc ?_ _)); exact BK218.out) hb); have n5_ := Aside0.mk (below_step (by repeat (first | (with_reducible first | exact HB.out | apply below_alloc | apply pw_below_drewN | apply below_drew1 | refine below_set ?_ GE218.out) | exact HB.out)) hb); clear HO_219001; clear HO257; clear BK218; clear HB; have HO_219001 := n0_; have HO257 := n1_; have HO261 := n2_; have HO264 := n3_; have BK218 := n4_; have HB := n5_; clear n0_ n1_ n2_ n3_ n4_ n5_; (try clear hb); (try clear hb2); (try clear hk); (try clear hi); (try clear ho0); (try clear ho1)) | ((with_reducible refine gate_dst (N := 24) rfl ?_); (try (refine gate_guard (by rfl) ?_; dsimp only)); refine box_event ?hg (N := 24) ?hd (cs := #[.int .i64 0, .slice none 0 0]) (t := 26) ?hr ?_; (case hd => rfl); (case hg => rfl); (case hr => first | (go_simp; done) | (go_simp; rfl)); intro gb265 hg w66 hbox hb; have n0_ := Aside0.mk (Kd.R_below (by (with_reducible repeat (first | apply Kd.R_alloc | apply Kd.R_drewN | apply Kd.R_drew)); exact HO_219001.out) hb); have n1_ := Aside0.mk (Kd.R_below (by (with_reducible repeat (first | apply Kd.R_alloc | apply Kd.R_drewN | apply Kd.R_drew)); exact HO257.out) hb); have n2_ := Aside0.mk (Kd.R_below (by (with_reducible repeat (first | apply Kd.R_alloc | apply Kd.R_drewN | apply Kd.R_drew)); exact HO261.out) hb); have n3_ := Aside0.mk (Kd.R_below (by (with_reducible repeat (first | apply Kd.R_alloc | apply Kd.R_drewN | apply Kd.R_drew)); exact HO264.out) hb); have n4_ := Aside0.mk (blk_below (g := gb218) (o := .cells #[.int .i64 x219000_3, .slice Ao64 x219001_3.length co64] 26 (0, 0)) (by (with_reducible repeat (first | refine blk_drewN ?_ _ | refine blk_drew ?_ | refine blk_alloc ?_ _)); exact BK218.out) hb); have n5_ := Aside0.mk (below_step (by repeat (first | (with_reducible first | exact HB.out | apply below_alloc | apply pw_below_drewN | apply below_drew1 | refine below_set ?_ GE218.out) | exact HB.out)) hb); have n6_ := Aside0.mk (hbox); have n7_ := Aside0.mk ((by rw [hg]; exact (below_size (by repeat (first | (with_reducible first | exact HB.out | apply below_alloc | apply pw_below_drewN | apply below_drew1 | refine below_set ?_ GE218.out) | exact HB.out))) : w.heap.size ≤ gb265)); have n8_ := Aside0.mk ((by rw [hg]; exact (below_size (by repeat (first | (with_reducible first | exact HB.out | apply below_alloc | apply pw_below_drewN | apply below_drew1 | refine below_set ?_ GE218.out) | exact HB.out))) : w.heap.size ≤ gb265)); have n9_ := Aside0.mk ((by rw [hg]; exact Nat.ne_of_lt (blk_lt (g := gb218) (o := .cells #[.int .i64 x219000_3, .slice Ao64 x219001_3.length co64] 26 (0, 0)) (by (with_reducible repeat (first | refine blk_drewN ?_ _ | refine blk_drew ?_ | refine blk_alloc ?_ _)); exact BK218.out)) : gb218 ≠ gb265)); have n10_ := Aside0.mk ((by rw [hg]; exact Nat.ne_of_gt (blk_lt (g := gb218) (o := .cells #[.int .i64 x219000_3, .slice Ao64 x219001_3.length co64] 26 (0, 0)) (by (with_reducible repeat (first | refine blk_drewN ?_ _ | refine blk_drew ?_ | refine blk_alloc ?_ _)); exact BK218.out)) : gb265 ≠ gb218)); clear HO_219001; clear HO257; clear HO261; clear HO264; clear BK218; clear HB; have HO_219001 := n0_; have HO257 := n1_; have HO261 := n2_; have HO264 := n3_; have BK218 := n4_; have HB := n5_; have BK265 := n6_; have GW265 := n7_; have GE265 := n8_; have NB218_265 := n9_; have NB265_218 := n10_; clear n0_ n1_ n2_ n3_ n4_ n5_ n6_ n7_ n8_ n9_ n10_; clear hb hbox hg; have hnb67 := NB265_218.out; have hnc67 := NB218_265.out; have hcz68_0 : w66.cell? ⟨gb265, 0, none⟩ = some (.int .i64 0) := (blk_cell BK265.out 0).trans rfl; have hcz68_1 : w66.cell? ⟨gb265, 1, none⟩ = some (.slice none 0 0) := (blk_cell BK265.out 1).trans rfl; have hfz68_0 := blk_frozen BK265.out 0; have hfz68_1 := blk_frozen BK265.out 1; obtain ⟨Ao69, co69, eo69⟩ := Kd.R_slice HO261.out; subst eo69; obtain ⟨Ao70, co70, eo70⟩ := Kd.R_slice HO264.out; subst eo70) | (go_at_call 5; (with_reducible refine (vmfleetlaw33_awake.calls k3  t266 _ A59.out).mono ?_); rintro e w71 ⟨rfl, hb⟩; have n0_ := Aside0.mk (Kd.R_below (by (with_reducible repeat (first | apply Kd.R_alloc | apply Kd.R_drewN | apply Kd.R_drew)); exact (Kd.R_mono (Kd.R_far (p := ⟨gb265, 1, none⟩) (Kd.R_far (p := ⟨gb265, 0, none⟩) (Kd.R_types HO_219001.out BK265.out (by decide)) (fun _ hk => hk.2) (.int .i64 t258)) (fun _ hk => hk.2) (.slice Ao69 t259.length co69)) (fun _ h_ => h_.1))) hb); have n1_ := Aside0.mk (Kd.R_below (by (with_reducible repeat (first | apply Kd.R_alloc | apply Kd.R_drewN | apply Kd.R_drew)); exact (Kd.R_mono (Kd.R_far (p := ⟨gb265, 1, none⟩) (Kd.R_far (p := ⟨gb265, 0, none⟩) (Kd.R_types HO257.out BK265.out (by decide)) (fun _ hk => hk.2) (.int .i64 t258)) (fun _ hk => hk.2) (.slice Ao69 t259.length co69)) (fun _ h_ => h_.1))) hb); have n2_ := Aside0.mk (Kd.R_below (by (with_reducible repeat (first | apply Kd.R_alloc | apply Kd.R_drewN | apply Kd.R_drew)); exact (Kd.R_mono (Kd.R_far (p := ⟨gb265, 1, none⟩) (Kd.R_far (p := ⟨gb265, 0, none⟩) (Kd.R_types HO261.out BK265.out (by decide)) (fun _ hk => hk.2) (.int .i64 t258)) (fun _ hk => hk.2) (.slice Ao69 t259.length co69)) (fun _ h_ => h_.1))) hb); have n3_ := Aside0.mk (Kd.R_below (by (with_reducible repeat (first | apply Kd.R_alloc | apply Kd.R_drewN | apply Kd.R_drew)); exact (Kd.R_mono (Kd.R_far (p := ⟨gb265, 1, none⟩) (Kd.R_far (p := ⟨gb265, 0, none⟩) (Kd.R_types HO264.out BK265.out (by decide)) (fun _ hk => hk.2) (.int .i64 t258)) (fun _ hk => hk.2) (.slice Ao69 t259.length co69)) (fun _ h_ => h_.1))) hb); have n4_ := Aside0.mk (blk_below (g := gb218) (o := .cells #[.int .i64 x219000_3, .slice Ao64 x219001_3.length co64] 26 (0, 0)) (by (with_reducible repeat (first | refine blk_drewN ?_ _ | refine blk_drew ?_ | refine blk_alloc ?_ _)); refine blk_far ?_ NB218_265.out _; (with_reducible repeat (first | refine blk_drewN ?_ _ | refine blk_drew ?_ | refine blk_alloc ?_ _)); refine blk_far ?_ NB218_265.out _; (with_reducible repeat (first | refine blk_drewN ?_ _ | refine blk_drew ?_ | refine blk_alloc ?_ _)); exact BK218.out) hb); have n5_ := Aside0.mk (blk_below (g := gb265) (o := .cells #[.int .i64 t258, .slice Ao69 t259.length co69] 26 (0, 0)) (by (with_reducible repeat (first | refine blk_drewN ?_ _ | refine blk_drew ?_ | refine blk_alloc ?_ _)); refine blk_put (cs := #[.int .i64 t258, .slice none 0 0]) ?_ 1 _ rfl; (with_reducible repeat (first | refine blk_drewN ?_ _ | refine blk_drew ?_ | refine blk_alloc ?_ _)); refine blk_put (cs := #[.int .i64 0, .slice none 0 0]) ?_ 0 _ rfl; (with_reducible repeat (first | refine blk_drewN ?_ _ | refine blk_drew ?_ | refine blk_alloc ?_ _)); exact BK265.out) hb); have n6_ := Aside0.mk (below_step (by repeat (first | (with_reducible first | exact HB.out | apply below_alloc | apply pw_below_drewN | apply below_drew1 | refine below_set ?_ GE218.out | refine below_set ?_ GE265.out) | exact HB.out)) hb); clear HO_219001; clear HO257; clear HO261; clear HO264; clear BK218; clear BK265; clear HB; have HO_219001 := n0_; have HO257 := n1_; have HO261 := n2_; have HO264 := n3_; have BK218 := n4_; have BK265 := n5_; have HB := n6_; clear n0_ n1_ n2_ n3_ n4_ n5_ n6_; (try clear hb); (try clear hb2); (try clear hk); (try clear hi)))
                            go_ret
                            exact ⟨by first | rfl | (simp [errW_none, errW_some] <;> rfl) | (simp [*, errW_none, errW_some] <;> rfl), by repeat (first | (with_reducible first | exact HB.out | apply below_alloc | apply pw_below_drewN | apply below_drew1 | refine below_set ?_ GE218.out | refine below_set ?_ GE265.out) | exact HB.out)⟩
                          · rw [if_neg c58] at H
                            have c58b0 : ((t262.length : Int) == 0) = false := beq_eq_false_iff_ne.mpr c58
                            have c58b1 : ((t262.length : Int) != 0) = true := bne_iff_ne.mpr c58
                            have c58b2 : ¬ (t262 = []) := fun h_ => c58 (by rw [h_]; rfl)
                            obtain rfl := Option.some.inj H
                            go_wp2_with (first | ((with_reducible refine gate_callee (f := 8) rfl ?_); refine goesL_ (some 113) rfl rfl Try.func8 (by kernel_rfl) rfl #[.int .i64 a3, .int .i64 8] rfl (by (try simp only [List.map_toArray, List.map_cons, List.map_nil]); first | done | rfl | (simp only [List.length_drop, List.length_take]; rfl)) ?_; (with_reducible refine (vmfleetmake_Round.calls a3 8 t254 _ A55.out).mono ?_); rintro e w' ⟨rfl, ⟨nd, rfl⟩⟩; refine ⟨_, rfl, ?_⟩; (try (rw [drewN_self wr]; generalize hq_ : World.drewN wr _ = wr; have n0_ : Aside0 (Kd.R k35 35 wr w.heap.size (fun _ => True) u219001 x219001_3) := ⟨by rw [← hq_]; exact (by (with_reducible repeat (first | apply Kd.R_alloc | apply Kd.R_drewN | apply Kd.R_drew)); exact HO_219001.out)⟩; have n1_ : Aside0 (wr.heap[gb218]? = some (.cells #[.int .i64 x219000_3, u219001] 26 (0, 0))) := ⟨by rw [← hq_]; exact (by (with_reducible repeat (first | refine blk_drewN ?_ _ | refine blk_drew ?_ | refine blk_alloc ?_ _)); exact BK218.out)⟩; have n2_ : Aside0 (Below w.heap.size w wr) := ⟨by rw [← hq_]; exact (by repeat (first | (with_reducible first | exact HB.out | apply below_alloc | apply pw_below_drewN | apply below_drew1 | refine below_set ?_ GE218.out) | exact HB.out))⟩; clear HO_219001 BK218 HB hq_; have HO_219001 := n0_; have BK218 := n1_; have HB := n2_; clear n0_ n1_ n2_)); have hcz72_0 : wr.cell? ⟨gb218, 0, none⟩ = some (.int .i64 x219000_3) := (blk_cell BK218.out 0).trans rfl; have hcz72_1 : wr.cell? ⟨gb218, 1, none⟩ = some (u219001) := (blk_cell BK218.out 1).trans rfl; have hfz72_0 := blk_frozen BK218.out 0; have hfz72_1 := blk_frozen BK218.out 1) | ((with_reducible refine gate_dst (N := 117) rfl ?_); (try (refine gate_guard (by rfl) ?_; dsimp only)); refine Kd.R_lit (Kd.int .u8) _ 5 ?hg (N := 117) ?hd (xs := ([200, 3] : List Int)) (inner := [.int .u8 200, .int .u8 3]) (ok := fun _ => True) (okp := fun _ => True) ?hr ?hp (fun _ hk => hk) trivial (Below.refl _ _) (Nat.le_refl _) (by simp) ?_; (case hd => rfl); (case hg => rfl); (case hr => first | (go_simp; done) | (go_simp; rfl)); (case hp => exact (Reps.one (show Kd.M (Kd.int .u8) _ _ _ 200 [.int .u8 200] from rfl) (Reps.one (show Kd.M (Kd.int .u8) _ _ _ 3 [.int .u8 3] from rfl) (Reps.none _ _)))); intro v256 w73 ho74 hb hg_ hnew_; clear hg_ hnew_; (first | rw [← Ny255.out] at ho74 | (simp only [Int.reduceToNat] at ho74; rw [← Ny255.out] at ho74)); have n0_ := Aside0.mk (Kd.R_below (by (with_reducible repeat (first | apply Kd.R_alloc | apply Kd.R_drewN | apply Kd.R_drew)); exact HO_219001.out) hb); have n1_ := Aside0.mk (Kd.R_lower ho74 (below_size (by repeat (first | (with_reducible first | exact HB.out | apply below_alloc | apply pw_below_drewN | apply below_drew1 | refine below_set ?_ GE218.out) | exact HB.out)))); have n2_ := Aside0.mk (blk_below (g := gb218) (o := .cells #[.int .i64 x219000_3, u219001] 26 (0, 0)) (by (with_reducible repeat (first | refine blk_drewN ?_ _ | refine blk_drew ?_ | refine blk_alloc ?_ _)); exact BK218.out) hb); have n3_ := Aside0.mk (below_step (by repeat (first | (with_reducible first | exact HB.out | apply below_alloc | apply pw_below_drewN | apply below_drew1 | refine below_set ?_ GE218.out) | exact HB.out)) hb); clear HO_219001; clear BK218; clear HB; have HO_219001 := n0_; have HO257 := n1_; have BK218 := n2_; have HB := n3_; clear n0_ n1_ n2_ n3_; clear hb ho74; have hcv75 := own_string (P := Try.prog) Try.underlying39 Try.underlying5 Try.underlying9 (Kd.own_of_R HO257.out); obtain ⟨Ao76, co76, eo76⟩ := Kd.R_slice HO_219001.out; subst eo76) | ((with_reducible refine gate_callee (f := 9) rfl ?_); refine goesL_ (some 119) rfl rfl Try.func9 (by kernel_rfl) rfl #[.agg #[.int .i64 x219000_3, .slice Ao76 x219001_3.length co76], .int .i64 t254, .string (strOfNums y255)] rfl (by (try simp only [List.map_toArray, List.map_cons, List.map_nil]); first | done | rfl | (simp only [List.length_drop, List.length_take]; rfl)) ?_; (with_reducible refine (network_Forward.calls k3 x219000_3 _ _ x219001_3 t254 (strOfNums y255) t258 t259 t262 _ ?side1 ?side2 A56.out).mono ?_); (case side1 => repeat (first | exact (Kd.R_reads' HO_219001.out).2.2 | (with_reducible refine Kd.C_alloc ?_ _) | (with_reducible refine Kd.C_drewN ?_ _) | (with_reducible refine Kd.C_drew ?_))); (case side2 => exact (Kd.R_reads' HO_219001.out).2.1); rintro e w77 ⟨v260, v263, rfl, ho0, ho1, hb⟩; refine ⟨_, rfl, ?_⟩; have n0_ := Aside0.mk (Kd.R_elder' (by (with_reducible repeat (first | apply Kd.R_alloc | apply Kd.R_drewN | apply Kd.R_drew)); exact HO_219001.out) (Kd.R_base ho0) hb); have n1_ := Aside0.mk (Kd.R_below (by (with_reducible repeat (first | apply Kd.R_alloc | apply Kd.R_drewN | apply Kd.R_drew)); exact HO257.out) hb); have n2_ := Aside0.mk (Kd.R_lower (Kd.R_new' ho0 (Kd.R_lt (by (with_reducible repeat (first | apply Kd.R_alloc | apply Kd.R_drewN | apply Kd.R_drew)); exact HO_219001.out))) (below_size (by repeat (first | (with_reducible first | exact HB.out | apply below_alloc | apply pw_below_drewN | apply below_drew1 | refine below_set ?_ GE218.out) | exact HB.out)))); have n3_ := Aside0.mk (Kd.R_lower ho1 (below_size (by repeat (first | (with_reducible first | exact HB.out | apply below_alloc | apply pw_below_drewN | apply below_drew1 | refine below_set ?_ GE218.out) | exact HB.out)))); have n4_ := Aside0.mk (blk_below (g := gb218) (o := .cells #[.int .i64 x219000_3, .slice Ao76 x219001_3.length co76] 26 (0, 0)) (by (with_reducible repeat (first | refine blk_drewN ?_ _ | refine blk_drew ?_ | refine blk_alloc ?_ _)); exact BK218.out) hb); have n5_ := Aside0.mk (below_step (by repeat (first | (with_reducible first | exact HB.out | apply below_alloc | apply pw_below_drewN | apply below_drew1 | refine below_set ?_ GE218.out) | exact HB.out)) hb); clear HO_219001; clear HO257; clear BK218; clear HB; have HO_219001 := n0_; have HO257 := n1_; have HO261 := n2_; have HO264 := n3_; have BK218 := n4_; have HB := n5_; clear n0_ n1_ n2_ n3_ n4_ n5_; (try clear hb); (try clear hb2); (try clear hk); (try clear hi); (try clear ho0); (try clear ho1)) | ((with_reducible refine gate_dst (N := 24) rfl ?_); (try (refine gate_guard (by rfl) ?_; dsimp only)); refine box_event ?hg (N := 24) ?hd (cs := #[.int .i64 0, .slice none 0 0]) (t := 26) ?hr ?_; (case hd => rfl); (case hg => rfl); (case hr => first | (go_simp; done) | (go_simp; rfl)); intro gb265 hg w78 hbox hb; have n0_ := Aside0.mk (Kd.R_below (by (with_reducible repeat (first | apply Kd.R_alloc | apply Kd.R_drewN | apply Kd.R_drew)); exact HO_219001.out) hb); have n1_ := Aside0.mk (Kd.R_below (by (with_reducible repeat (first | apply Kd.R_alloc | apply Kd.R_drewN | apply Kd.R_drew)); exact HO257.out) hb); have n2_ := Aside0.mk (Kd.R_below (by (with_reducible repeat (first | apply Kd.R_alloc | apply Kd.R_drewN | apply Kd.R_drew)); exact HO261.out) hb); have n3_ := Aside0.mk (Kd.R_below (by (with_reducible repeat (first | apply Kd.R_alloc | apply Kd.R_drewN | apply Kd.R_drew)); exact HO264.out) hb); have n4_ := Aside0.mk (blk_below (g := gb218) (o := .cells #[.int .i64 x219000_3, .slice Ao76 x219001_3.length co76] 26 (0, 0)) (by (with_reducible repeat (first | refine blk_drewN ?_ _ | refine blk_drew ?_ | refine blk_alloc ?_ _)); exact BK218.out) hb); have n5_ := Aside0.mk (below_step (by repeat (first | (with_reducible first | exact HB.out | apply below_alloc | apply pw_below_drewN | apply below_drew1 | refine below_set ?_ GE218.out) | exact HB.out)) hb); have n6_ := Aside0.mk (hbox); have n7_ := Aside0.mk ((by rw [hg]; exact (below_size (by repeat (first | (with_reducible first | exact HB.out | apply below_alloc | apply pw_below_drewN | apply below_drew1 | refine below_set ?_ GE218.out) | exact HB.out))) : w.heap.size ≤ gb265)); have n8_ := Aside0.mk ((by rw [hg]; exact (below_size (by repeat (first | (with_reducible first | exact HB.out | apply below_alloc | apply pw_below_drewN | apply below_drew1 | refine below_set ?_ GE218.out) | exact HB.out))) : w.heap.size ≤ gb265)); have n9_ := Aside0.mk ((by rw [hg]; exact Nat.ne_of_lt (blk_lt (g := gb218) (o := .cells #[.int .i64 x219000_3, .slice Ao76 x219001_3.length co76] 26 (0, 0)) (by (with_reducible repeat (first | refine blk_drewN ?_ _ | refine blk_drew ?_ | refine blk_alloc ?_ _)); exact BK218.out)) : gb218 ≠ gb265)); have n10_ := Aside0.mk ((by rw [hg]; exact Nat.ne_of_gt (blk_lt (g := gb218) (o := .cells #[.int .i64 x219000_3, .slice Ao76 x219001_3.length co76] 26 (0, 0)) (by (with_reducible repeat (first | refine blk_drewN ?_ _ | refine blk_drew ?_ | refine blk_alloc ?_ _)); exact BK218.out)) : gb265 ≠ gb218)); clear HO_219001; clear HO257; clear HO261; clear HO264; clear BK218; clear HB; have HO_219001 := n0_; have HO257 := n1_; have HO261 := n2_; have HO264 := n3_; have BK218 := n4_; have HB := n5_; have BK265 := n6_; have GW265 := n7_; have GE265 := n8_; have NB218_265 := n9_; have NB265_218 := n10_; clear n0_ n1_ n2_ n3_ n4_ n5_ n6_ n7_ n8_ n9_ n10_; clear hb hbox hg; have hnb79 := NB265_218.out; have hnc79 := NB218_265.out; have hcz80_0 : w78.cell? ⟨gb265, 0, none⟩ = some (.int .i64 0) := (blk_cell BK265.out 0).trans rfl; have hcz80_1 : w78.cell? ⟨gb265, 1, none⟩ = some (.slice none 0 0) := (blk_cell BK265.out 1).trans rfl; have hfz80_0 := blk_frozen BK265.out 0; have hfz80_1 := blk_frozen BK265.out 1; obtain ⟨Ao81, co81, eo81⟩ := Kd.R_slice HO261.out; subst eo81; obtain ⟨Ao82, co82, eo82⟩ := Kd.R_slice HO264.out; subst eo82))
                            go_ret
                            exact ⟨by first | rfl | (simp [errW_none, errW_some] <;> rfl) | (simp [*, errW_none, errW_some] <;> rfl), by repeat (first | (with_reducible first | exact HB.out | apply below_alloc | apply pw_below_drewN | apply below_drew1 | refine below_set ?_ GE218.out | refine below_set ?_ GE265.out) | exact HB.out)⟩
                        · rw [if_neg c57] at H
                          have c57b0 : (t254 == t232) = false := beq_eq_false_iff_ne.mpr c57
                          have c57b1 : (t254 != t232) = true := bne_iff_ne.mpr c57
                          by_cases c83 : (t262.length : Int) = 1
                          · rw [if_pos c83] at H
                            have c83b0 : ((t262.length : Int) == 1) = true := beq_iff_eq.mpr c83
                            have c83b1 : ((t262.length : Int) != 1) = false := bne_eq_false_iff_eq.mpr c83
                            clear c83
                            by_cases c84 : 0 < (t262.length : Int)
                            · rw [if_pos c84] at H
                              have c84b0 : decide (0 < (t262.length : Int)) = true := decide_eq_true c84
                              have c84b1 : decide (0 < t262.length) = true := decide_eq_true (by omega)
                              clear c84
                              by_cases c85 : (rd t262 0) = t232
                              · rw [if_pos c85] at H
                                have c85b0 : ((rd t262 0) == t232) = true := beq_iff_eq.mpr c85
                                have c85b1 : ((rd t262 0) != t232) = false := bne_eq_false_iff_eq.mpr c85
                                clear c85
                                replace H := Option.bind_eq_some_iff.mp H
                                obtain ⟨t268, A860, H⟩ := H
                                replace H : (some t268) = some r := H
                                have A86 := Aside0.mk A860
                                clear A860
                                obtain rfl := Option.some.inj H
                                go_wp2_with (first | ((with_reducible refine gate_callee (f := 8) rfl ?_); refine goesL_ (some 113) rfl rfl Try.func8 (by kernel_rfl) rfl #[.int .i64 a3, .int .i64 8] rfl (by (try simp only [List.map_toArray, List.map_cons, List.map_nil]); first | done | rfl | (simp only [List.length_drop, List.length_take]; rfl)) ?_; (with_reducible refine (vmfleetmake_Round.calls a3 8 t254 _ A55.out).mono ?_); rintro e w' ⟨rfl, ⟨nd, rfl⟩⟩; refine ⟨_, rfl, ?_⟩; (try (rw [drewN_self wr]; generalize hq_ : World.drewN wr _ = wr; have n0_ : Aside0 (Kd.R k35 35 wr w.heap.size (fun _ => True) u219001 x219001_3) := ⟨by rw [← hq_]; exact (by (with_reducible repeat (first | apply Kd.R_alloc | apply Kd.R_drewN | apply Kd.R_drew)); exact HO_219001.out)⟩; have n1_ : Aside0 (wr.heap[gb218]? = some (.cells #[.int .i64 x219000_3, u219001] 26 (0, 0))) := ⟨by rw [← hq_]; exact (by (with_reducible repeat (first | refine blk_drewN ?_ _ | refine blk_drew ?_ | refine blk_alloc ?_ _)); exact BK218.out)⟩; have n2_ : Aside0 (Below w.heap.size w wr) := ⟨by rw [← hq_]; exact (by repeat (first | (with_reducible first | exact HB.out | apply below_alloc | apply pw_below_drewN | apply below_drew1 | refine below_set ?_ GE218.out) | exact HB.out))⟩; clear HO_219001 BK218 HB hq_; have HO_219001 := n0_; have BK218 := n1_; have HB := n2_; clear n0_ n1_ n2_)); have hcz87_0 : wr.cell? ⟨gb218, 0, none⟩ = some (.int .i64 x219000_3) := (blk_cell BK218.out 0).trans rfl; have hcz87_1 : wr.cell? ⟨gb218, 1, none⟩ = some (u219001) := (blk_cell BK218.out 1).trans rfl; have hfz87_0 := blk_frozen BK218.out 0; have hfz87_1 := blk_frozen BK218.out 1) | ((with_reducible refine gate_dst (N := 117) rfl ?_); (try (refine gate_guard (by rfl) ?_; dsimp only)); refine Kd.R_lit (Kd.int .u8) _ 5 ?hg (N := 117) ?hd (xs := ([200, 3] : List Int)) (inner := [.int .u8 200, .int .u8 3]) (ok := fun _ => True) (okp := fun _ => True) ?hr ?hp (fun _ hk => hk) trivial (Below.refl _ _) (Nat.le_refl _) (by simp) ?_; (case hd => rfl); (case hg => rfl); (case hr => first | (go_simp; done) | (go_simp; rfl)); (case hp => exact (Reps.one (show Kd.M (Kd.int .u8) _ _ _ 200 [.int .u8 200] from rfl) (Reps.one (show Kd.M (Kd.int .u8) _ _ _ 3 [.int .u8 3] from rfl) (Reps.none _ _)))); intro v256 w88 ho89 hb hg_ hnew_; clear hg_ hnew_; (first | rw [← Ny255.out] at ho89 | (simp only [Int.reduceToNat] at ho89; rw [← Ny255.out] at ho89)); have n0_ := Aside0.mk (Kd.R_below (by (with_reducible repeat (first | apply Kd.R_alloc | apply Kd.R_drewN | apply Kd.R_drew)); exact HO_219001.out) hb); have n1_ := Aside0.mk (Kd.R_lower ho89 (below_size (by repeat (first | (with_reducible first | exact HB.out | apply below_alloc | apply pw_below_drewN | apply below_drew1 | refine below_set ?_ GE218.out) | exact HB.out)))); have n2_ := Aside0.mk (blk_below (g := gb218) (o := .cells #[.int .i64 x219000_3, u219001] 26 (0, 0)) (by (with_reducible repeat (first | refine blk_drewN ?_ _ | refine blk_drew ?_ | refine blk_alloc ?_ _)); exact BK218.out) hb); have n3_ := Aside0.mk (below_step (by repeat (first | (with_reducible first | exact HB.out | apply below_alloc | apply pw_below_drewN | apply below_drew1 | refine below_set ?_ GE218.out) | exact HB.out)) hb); clear HO_219001; clear BK218; clear HB; have HO_219001 := n0_; have HO257 := n1_; have BK218 := n2_; have HB := n3_; clear n0_ n1_ n2_ n3_; clear hb ho89; have hcv90 := own_string (P := Try.prog) Try.underlying39 Try.underlying5 Try.underlying9 (Kd.own_of_R HO257.out); obtain ⟨Ao91, co91, eo91⟩ := Kd.R_slice HO_219001.out; subst eo91) | ((with_reducible refine gate_callee (f := 9) rfl ?_); refine goesL_ (some 119) rfl rfl Try.func9 (by kernel_rfl) rfl #[.agg #[.int .i64 x219000_3, .slice Ao91 x219001_3.length co91], .int .i64 t254, .string (strOfNums y255)] rfl (by (try simp only [List.map_toArray, List.map_cons, List.map_nil]); first | done | rfl | (simp only [List.length_drop, List.length_take]; rfl)) ?_; (with_reducible refine (network_Forward.calls k3 x219000_3 _ _ x219001_3 t254 (strOfNums y255) t258 t259 t262 _ ?side1 ?side2 A56.out).mono ?_); (case side1 => repeat (first | exact (Kd.R_reads' HO_219001.out).2.2 | (with_reducible refine Kd.C_alloc ?_ _) | (with_reducible refine Kd.C_drewN ?_ _) | (with_reducible refine Kd.C_drew ?_))); (case side2 => exact (Kd.R_reads' HO_219001.out).2.1); rintro e w92 ⟨v260, v263, rfl, ho0, ho1, hb⟩; refine ⟨_, rfl, ?_⟩; have n0_ := Aside0.mk (Kd.R_elder' (by (with_reducible repeat (first | apply Kd.R_alloc | apply Kd.R_drewN | apply Kd.R_drew)); exact HO_219001.out) (Kd.R_base ho0) hb); have n1_ := Aside0.mk (Kd.R_below (by (with_reducible repeat (first | apply Kd.R_alloc | apply Kd.R_drewN | apply Kd.R_drew)); exact HO257.out) hb); have n2_ := Aside0.mk (Kd.R_lower (Kd.R_new' ho0 (Kd.R_lt (by (with_reducible repeat (first | apply Kd.R_alloc | apply Kd.R_drewN | apply Kd.R_drew)); exact HO_219001.out))) (below_size (by repeat (first | (with_reducible first | exact HB.out | apply below_alloc | apply pw_below_drewN | apply below_drew1 | refine below_set ?_ GE218.out) | exact HB.out)))); have n3_ := Aside0.mk (Kd.R_lower ho1 (below_size (by repeat (first | (with_reducible first | exact HB.out | apply below_alloc | apply pw_below_drewN | apply below_drew1 | refine below_set ?_ GE218.out) | exact HB.out)))); have n4_ := Aside0.mk (blk_below (g := gb218) (o := .cells #[.int .i64 x219000_3, .slice Ao91 x219001_3.length co91] 26 (0, 0)) (by (with_reducible repeat (first | refine blk_drewN ?_ _ | refine blk_drew ?_ | refine blk_alloc ?_ _)); exact BK218.out) hb); have n5_ := Aside0.mk (below_step (by repeat (first | (with_reducible first | exact HB.out | apply below_alloc | apply pw_below_drewN | apply below_drew1 | refine below_set ?_ GE218.out) | exact HB.out)) hb); clear HO_219001; clear HO257; clear BK218; clear HB; have HO_219001 := n0_; have HO257 := n1_; have HO261 := n2_; have HO264 := n3_; have BK218 := n4_; have HB := n5_; clear n0_ n1_ n2_ n3_ n4_ n5_; (try clear hb); (try clear hb2); (try clear hk); (try clear hi); (try clear ho0); (try clear ho1)) | ((with_reducible refine gate_dst (N := 24) rfl ?_); (try (refine gate_guard (by rfl) ?_; dsimp only)); refine box_event ?hg (N := 24) ?hd (cs := #[.int .i64 0, .slice none 0 0]) (t := 26) ?hr ?_; (case hd => rfl); (case hg => rfl); (case hr => first | (go_simp; done) | (go_simp; rfl)); intro gb265 hg w93 hbox hb; have n0_ := Aside0.mk (Kd.R_below (by (with_reducible repeat (first | apply Kd.R_alloc | apply Kd.R_drewN | apply Kd.R_drew)); exact HO_219001.out) hb); have n1_ := Aside0.mk (Kd.R_below (by (with_reducible repeat (first | apply Kd.R_alloc | apply Kd.R_drewN | apply Kd.R_drew)); exact HO257.out) hb); have n2_ := Aside0.mk (Kd.R_below (by (with_reducible repeat (first | apply Kd.R_alloc | apply Kd.R_drewN | apply Kd.R_drew)); exact HO261.out) hb); have n3_ := Aside0.mk (Kd.R_below (by (with_reducible repeat (first | apply Kd.R_alloc | apply Kd.R_drewN | apply Kd.R_drew)); exact HO264.out) hb); have n4_ := Aside0.mk (blk_below (g := gb218) (o := .cells #[.int .i64 x219000_3, .slice Ao91 x219001_3.length co91] 26 (0, 0)) (by (with_reducible repeat (first | refine blk_drewN ?_ _ | refine blk_drew ?_ | refine blk_alloc ?_ _)); exact BK218.out) hb); have n5_ := Aside0.mk (below_step (by repeat (first | (with_reducible first | exact HB.out | apply below_alloc | apply pw_below_drewN | apply below_drew1 | refine below_set ?_ GE218.out) | exact HB.out)) hb); have n6_ := Aside0.mk (hbox); have n7_ := Aside0.mk ((by rw [hg]; exact (below_size (by repeat (first | (with_reducible first | exact HB.out | apply below_alloc | apply pw_below_drewN | apply below_drew1 | refine below_set ?_ GE218.out) | exact HB.out))) : w.heap.size ≤ gb265)); have n8_ := Aside0.mk ((by rw [hg]; exact (below_size (by repeat (first | (with_reducible first | exact HB.out | apply below_alloc | apply pw_below_drewN | apply below_drew1 | refine below_set ?_ GE218.out) | exact HB.out))) : w.heap.size ≤ gb265)); have n9_ := Aside0.mk ((by rw [hg]; exact Nat.ne_of_lt (blk_lt (g := gb218) (o := .cells #[.int .i64 x219000_3, .slice Ao91 x219001_3.length co91] 26 (0, 0)) (by (with_reducible repeat (first | refine blk_drewN ?_ _ | refine blk_drew ?_ | refine blk_alloc ?_ _)); exact BK218.out)) : gb218 ≠ gb265)); have n10_ := Aside0.mk ((by rw [hg]; exact Nat.ne_of_gt (blk_lt (g := gb218) (o := .cells #[.int .i64 x219000_3, .slice Ao91 x219001_3.length co91] 26 (0, 0)) (by (with_reducible repeat (first | refine blk_drewN ?_ _ | refine blk_drew ?_ | refine blk_alloc ?_ _)); exact BK218.out)) : gb265 ≠ gb218)); clear HO_219001; clear HO257; clear HO261; clear HO264; clear BK218; clear HB; have HO_219001 := n0_; have HO257 := n1_; have HO261 := n2_; have HO264 := n3_; have BK218 := n4_; have HB := n5_; have BK265 := n6_; have GW265 := n7_; have GE265 := n8_; have NB218_265 := n9_; have NB265_218 := n10_; clear n0_ n1_ n2_ n3_ n4_ n5_ n6_ n7_ n8_ n9_ n10_; clear hb hbox hg; have hnb94 := NB265_218.out; have hnc94 := NB218_265.out; have hcz95_0 : w93.cell? ⟨gb265, 0, none⟩ = some (.int .i64 0) := (blk_cell BK265.out 0).trans rfl; have hcz95_1 : w93.cell? ⟨gb265, 1, none⟩ = some (.slice none 0 0) := (blk_cell BK265.out 1).trans rfl; have hfz95_0 := blk_frozen BK265.out 0; have hfz95_1 := blk_frozen BK265.out 1; obtain ⟨Ao96, co96, eo96⟩ := Kd.R_slice HO261.out; subst eo96; obtain ⟨Ao97, co97, eo97⟩ := Kd.R_slice HO264.out; subst eo97; have p267 : 0 ≤ (0 : Int) := (by omega); have q267 : 0 < (t262.length : Int) := of_decide_eq_true (by first | (with_reducible assumption) | assumption); obtain ⟨ad267, e267, hx267_0⟩ := Kd.at_int (Kd.R_reads' HO264.out).2.2 0 p267 q267; cases e267; have qi267 : (0 < t262.length) = True := eq_true (by omega); (try rw [show ((0 : Int)).toNat = 0 from rfl] at hx267_0); (try rw [Addr.add_zero'] at hx267_0); have hn267_0 : ad267.block ≠ gb265 := Kd.own_blk (Kd.R_ne HO264.out BK265.out (by decide)); have hn267_1 : ad267.block ≠ gb265 := Kd.own_blk (Kd.R_ne HO264.out BK265.out (by decide)); replace hx267_0 := (cell_far (p := ⟨gb265, 0, none⟩) (by first | (rw [add_block]; exact hn267_0) | (show (Addr.add _ _).block ≠ _; rw [add_block]; exact hn267_0) | exact hn267_0) (.int .i64 t258)).trans hx267_0; replace hx267_0 := (cell_far (p := ⟨gb265, 1, none⟩) (by first | (rw [add_block]; exact hn267_1) | (show (Addr.add _ _).block ≠ _; rw [add_block]; exact hn267_1) | exact hn267_1) (.slice Ao96 t259.length co96)).trans hx267_0; clear hn267_0; clear hn267_1; replace p267 := eq_true p267; replace q267 := eq_true q267) | (go_at_call 5; (with_reducible refine (vmfleetlaw33_awake.calls k3  t268 _ A86.out).mono ?_); rintro e w98 ⟨rfl, hb⟩; have n0_ := Aside0.mk (Kd.R_below (by (with_reducible repeat (first | apply Kd.R_alloc | apply Kd.R_drewN | apply Kd.R_drew)); exact (Kd.R_mono (Kd.R_far (p := ⟨gb265, 1, none⟩) (Kd.R_far (p := ⟨gb265, 0, none⟩) (Kd.R_types HO_219001.out BK265.out (by decide)) (fun _ hk => hk.2) (.int .i64 t258)) (fun _ hk => hk.2) (.slice Ao96 t259.length co96)) (fun _ h_ => h_.1))) hb); have n1_ := Aside0.mk (Kd.R_below (by (with_reducible repeat (first | apply Kd.R_alloc | apply Kd.R_drewN | apply Kd.R_drew)); exact (Kd.R_mono (Kd.R_far (p := ⟨gb265, 1, none⟩) (Kd.R_far (p := ⟨gb265, 0, none⟩) (Kd.R_types HO257.out BK265.out (by decide)) (fun _ hk => hk.2) (.int .i64 t258)) (fun _ hk => hk.2) (.slice Ao96 t259.length co96)) (fun _ h_ => h_.1))) hb); have n2_ := Aside0.mk (Kd.R_below (by (with_reducible repeat (first | apply Kd.R_alloc | apply Kd.R_drewN | apply Kd.R_drew)); exact (Kd.R_mono (Kd.R_far (p := ⟨gb265, 1, none⟩) (Kd.R_far (p := ⟨gb265, 0, none⟩) (Kd.R_types HO261.out BK265.out (by decide)) (fun _ hk => hk.2) (.int .i64 t258)) (fun _ hk => hk.2) (.slice Ao96 t259.length co96)) (fun _ h_ => h_.1))) hb); have n3_ := Aside0.mk (Kd.R_below (by (with_reducible repeat (first | apply Kd.R_alloc | apply Kd.R_drewN | apply Kd.R_drew)); exact (Kd.R_mono (Kd.R_far (p := ⟨gb265, 1, none⟩) (Kd.R_far (p := ⟨gb265, 0, none⟩) (Kd.R_types HO264.out BK265.out (by decide)) (fun _ hk => hk.2) (.int .i64 t258)) (fun _ hk => hk.2) (.slice Ao96 t259.length co96)) (fun _ h_ => h_.1))) hb); have n4_ := Aside0.mk (blk_below (g := gb218) (o := .cells #[.int .i64 x219000_3, .slice Ao91 x219001_3.length co91] 26 (0, 0)) (by (with_reducible repeat (first | refine blk_drewN ?_ _ | refine blk_drew ?_ | refine blk_alloc ?_ _)); refine blk_far ?_ NB218_265.out _; (with_reducible repeat (first | refine blk_drewN ?_ _ | refine blk_drew ?_ | refine blk_alloc ?_ _)); refine blk_far ?_ NB218_265.out _; (with_reducible repeat (first | refine blk_drewN ?_ _ | refine blk_drew ?_ | refine blk_alloc ?_ _)); exact BK218.out) hb); have n5_ := Aside0.mk (blk_below (g := gb265) (o := .cells #[.int .i64 t258, .slice Ao96 t259.length co96] 26 (0, 0)) (by (with_reducible repeat (first | refine blk_drewN ?_ _ | refine blk_drew ?_ | refine blk_alloc ?_ _)); refine blk_put (cs := #[.int .i64 t258, .slice none 0 0]) ?_ 1 _ rfl; (with_reducible repeat (first | refine blk_drewN ?_ _ | refine blk_drew ?_ | refine blk_alloc ?_ _)); refine blk_put (cs := #[.int .i64 0, .slice none 0 0]) ?_ 0 _ rfl; (with_reducible repeat (first | refine blk_drewN ?_ _ | refine blk_drew ?_ | refine blk_alloc ?_ _)); exact BK265.out) hb); have n6_ := Aside0.mk (below_step (by repeat (first | (with_reducible first | exact HB.out | apply below_alloc | apply pw_below_drewN | apply below_drew1 | refine below_set ?_ GE218.out | refine below_set ?_ GE265.out) | exact HB.out)) hb); clear HO_219001; clear HO257; clear HO261; clear HO264; clear BK218; clear BK265; clear HB; have HO_219001 := n0_; have HO257 := n1_; have HO261 := n2_; have HO264 := n3_; have BK218 := n4_; have BK265 := n5_; have HB := n6_; clear n0_ n1_ n2_ n3_ n4_ n5_ n6_; (try clear hb); (try clear hb2); (try clear hk); (try clear hi)))
                                go_ret
                                exact ⟨by first | rfl | (simp [errW_none, errW_some] <;> rfl) | (simp [*, errW_none, errW_some] <;> rfl), by repeat (first | (with_reducible first | exact HB.out | apply below_alloc | apply pw_below_drewN | apply below_drew1 | refine below_set ?_ GE218.out | refine below_set ?_ GE265.out) | exact HB.out)⟩
                              · rw [if_neg c85] at H
                                have c85b0 : ((rd t262 0) == t232) = false := beq_eq_false_iff_ne.mpr c85
                                have c85b1 : ((rd t262 0) != t232) = true := bne_iff_ne.mpr c85
                                obtain rfl := Option.some.inj H
                                go_wp2_with (first | ((with_reducible refine gate_callee (f := 8) rfl ?_); refine goesL_ (some 113) rfl rfl Try.func8 (by kernel_rfl) rfl #[.int .i64 a3, .int .i64 8] rfl (by (try simp only [List.map_toArray, List.map_cons, List.map_nil]); first | done | rfl | (simp only [List.length_drop, List.length_take]; rfl)) ?_; (with_reducible refine (vmfleetmake_Round.calls a3 8 t254 _ A55.out).mono ?_); rintro e w' ⟨rfl, ⟨nd, rfl⟩⟩; refine ⟨_, rfl, ?_⟩; (try (rw [drewN_self wr]; generalize hq_ : World.drewN wr _ = wr; have n0_ : Aside0 (Kd.R k35 35 wr w.heap.size (fun _ => True) u219001 x219001_3) := ⟨by rw [← hq_]; exact (by (with_reducible repeat (first | apply Kd.R_alloc | apply Kd.R_drewN | apply Kd.R_drew)); exact HO_219001.out)⟩; have n1_ : Aside0 (wr.heap[gb218]? = some (.cells #[.int .i64 x219000_3, u219001] 26 (0, 0))) := ⟨by rw [← hq_]; exact (by (with_reducible repeat (first | refine blk_drewN ?_ _ | refine blk_drew ?_ | refine blk_alloc ?_ _)); exact BK218.out)⟩; have n2_ : Aside0 (Below w.heap.size w wr) := ⟨by rw [← hq_]; exact (by repeat (first | (with_reducible first | exact HB.out | apply below_alloc | apply pw_below_drewN | apply below_drew1 | refine below_set ?_ GE218.out) | exact HB.out))⟩; clear HO_219001 BK218 HB hq_; have HO_219001 := n0_; have BK218 := n1_; have HB := n2_; clear n0_ n1_ n2_)); have hcz99_0 : wr.cell? ⟨gb218, 0, none⟩ = some (.int .i64 x219000_3) := (blk_cell BK218.out 0).trans rfl; have hcz99_1 : wr.cell? ⟨gb218, 1, none⟩ = some (u219001) := (blk_cell BK218.out 1).trans rfl; have hfz99_0 := blk_frozen BK218.out 0; have hfz99_1 := blk_frozen BK218.out 1) | ((with_reducible refine gate_dst (N := 117) rfl ?_); (try (refine gate_guard (by rfl) ?_; dsimp only)); refine Kd.R_lit (Kd.int .u8) _ 5 ?hg (N := 117) ?hd (xs := ([200, 3] : List Int)) (inner := [.int .u8 200, .int .u8 3]) (ok := fun _ => True) (okp := fun _ => True) ?hr ?hp (fun _ hk => hk) trivial (Below.refl _ _) (Nat.le_refl _) (by simp) ?_; (case hd => rfl); (case hg => rfl); (case hr => first | (go_simp; done) | (go_simp; rfl)); (case hp => exact (Reps.one (show Kd.M (Kd.int .u8) _ _ _ 200 [.int .u8 200] from rfl) (Reps.one (show Kd.M (Kd.int .u8) _ _ _ 3 [.int .u8 3] from rfl) (Reps.none _ _)))); intro v256 w100 ho101 hb hg_ hnew_; clear hg_ hnew_; (first | rw [← Ny255.out] at ho101 | (simp only [Int.reduceToNat] at ho101; rw [← Ny255.out] at ho101)); have n0_ := Aside0.mk (Kd.R_below (by (with_reducible repeat (first | apply Kd.R_alloc | apply Kd.R_drewN | apply Kd.R_drew)); exact HO_219001.out) hb); have n1_ := Aside0.mk (Kd.R_lower ho101 (below_size (by repeat (first | (with_reducible first | exact HB.out | apply below_alloc | apply pw_below_drewN | apply below_drew1 | refine below_set ?_ GE218.out) | exact HB.out)))); have n2_ := Aside0.mk (blk_below (g := gb218) (o := .cells #[.int .i64 x219000_3, u219001] 26 (0, 0)) (by (with_reducible repeat (first | refine blk_drewN ?_ _ | refine blk_drew ?_ | refine blk_alloc ?_ _)); exact BK218.out) hb); have n3_ := Aside0.mk (below_step (by repeat (first | (with_reducible first | exact HB.out | apply below_alloc | apply pw_below_drewN | apply below_drew1 | refine below_set ?_ GE218.out) | exact HB.out)) hb); clear HO_219001; clear BK218; clear HB; have HO_219001 := n0_; have HO257 := n1_; have BK218 := n2_; have HB := n3_; clear n0_ n1_ n2_ n3_; clear hb ho101; have hcv102 := own_string (P := Try.prog) Try.underlying39 Try.underlying5 Try.underlying9 (Kd.own_of_R HO257.out); obtain ⟨Ao103, co103, eo103⟩ := Kd.R_slice HO_219001.out; subst eo103) | ((with_reducible refine gate_callee (f := 9) rfl ?_); refine goesL_ (some 119) rfl rfl Try.func9 (by kernel_rfl) rfl #[.agg #[.int .i64 x219000_3, .slice Ao103 x219001_3.length co103], .int .i64 t254, .string (strOfNums y255)] rfl (by (try simp only [List.map_toArray, List.map_cons, List.map_nil]); first | done | rfl | (simp only [List.length_drop, List.length_take]; rfl)) ?_; (with_reducible refine (network_Forward.calls k3 x219000_3 _ _ x219001_3 t254 (strOfNums y255) t258 t259 t262 _ ?side1 ?side2 A56.out).mono ?_); (case side1 => repeat (first | exact (Kd.R_reads' HO_219001.out).2.2 | (with_reducible refine Kd.C_alloc ?_ _) | (with_reducible refine Kd.C_drewN ?_ _) | (with_reducible refine Kd.C_drew ?_))); (case side2 => exact (Kd.R_reads' HO_219001.out).2.1); rintro e w104 ⟨v260, v263, rfl, ho0, ho1, hb⟩; refine ⟨_, rfl, ?_⟩; have n0_ := Aside0.mk (Kd.R_elder' (by (with_reducible repeat (first | apply Kd.R_alloc | apply Kd.R_drewN | apply Kd.R_drew)); exact HO_219001.out) (Kd.R_base ho0) hb); have n1_ := Aside0.mk (Kd.R_below (by (with_reducible repeat (first | apply Kd.R_alloc | apply Kd.R_drewN | apply Kd.R_drew)); exact HO257.out) hb); have n2_ := Aside0.mk (Kd.R_lower (Kd.R_new' ho0 (Kd.R_lt (by (with_reducible repeat (first | apply Kd.R_alloc | apply Kd.R_drewN | apply Kd.R_drew)); exact HO_219001.out))) (below_size (by repeat (first | (with_reducible first | exact HB.out | apply below_alloc | apply pw_below_drewN | apply below_drew1 | refine below_set ?_ GE218.out) | exact HB.out)))); have n3_ := Aside0.mk (Kd.R_lower ho1 (below_size (by repeat (first | (with_reducible first | exact HB.out | apply below_alloc | apply pw_below_drewN | apply below_drew1 | refine below_set ?_ GE218.out) | exact HB.out)))); have n4_ := Aside0.mk (blk_below (g := gb218) (o := .cells #[.int .i64 x219000_3, .slice Ao103 x219001_3.length co103] 26 (0, 0)) (by (with_reducible repeat (first | refine blk_drewN ?_ _ | refine blk_drew ?_ | refine blk_alloc ?_ _)); exact BK218.out) hb); have n5_ := Aside0.mk (below_step (by repeat (first | (with_reducible first | exact HB.out | apply below_alloc | apply pw_below_drewN | apply below_drew1 | refine below_set ?_ GE218.out) | exact HB.out)) hb); clear HO_219001; clear HO257; clear BK218; clear HB; have HO_219001 := n0_; have HO257 := n1_; have HO261 := n2_; have HO264 := n3_; have BK218 := n4_; have HB := n5_; clear n0_ n1_ n2_ n3_ n4_ n5_; (try clear hb); (try clear hb2); (try clear hk); (try clear hi); (try clear ho0); (try clear ho1)) | ((with_reducible refine gate_dst (N := 24) rfl ?_); (try (refine gate_guard (by rfl) ?_; dsimp only)); refine box_event ?hg (N := 24) ?hd (cs := #[.int .i64 0, .slice none 0 0]) (t := 26) ?hr ?_; (case hd => rfl); (case hg => rfl); (case hr => first | (go_simp; done) | (go_simp; rfl)); intro gb265 hg w105 hbox hb; have n0_ := Aside0.mk (Kd.R_below (by (with_reducible repeat (first | apply Kd.R_alloc | apply Kd.R_drewN | apply Kd.R_drew)); exact HO_219001.out) hb); have n1_ := Aside0.mk (Kd.R_below (by (with_reducible repeat (first | apply Kd.R_alloc | apply Kd.R_drewN | apply Kd.R_drew)); exact HO257.out) hb); have n2_ := Aside0.mk (Kd.R_below (by (with_reducible repeat (first | apply Kd.R_alloc | apply Kd.R_drewN | apply Kd.R_drew)); exact HO261.out) hb); have n3_ := Aside0.mk (Kd.R_below (by (with_reducible repeat (first | apply Kd.R_alloc | apply Kd.R_drewN | apply Kd.R_drew)); exact HO264.out) hb); have n4_ := Aside0.mk (blk_below (g := gb218) (o := .cells #[.int .i64 x219000_3, .slice Ao103 x219001_3.length co103] 26 (0, 0)) (by (with_reducible repeat (first | refine blk_drewN ?_ _ | refine blk_drew ?_ | refine blk_alloc ?_ _)); exact BK218.out) hb); have n5_ := Aside0.mk (below_step (by repeat (first | (with_reducible first | exact HB.out | apply below_alloc | apply pw_below_drewN | apply below_drew1 | refine below_set ?_ GE218.out) | exact HB.out)) hb); have n6_ := Aside0.mk (hbox); have n7_ := Aside0.mk ((by rw [hg]; exact (below_size (by repeat (first | (with_reducible first | exact HB.out | apply below_alloc | apply pw_below_drewN | apply below_drew1 | refine below_set ?_ GE218.out) | exact HB.out))) : w.heap.size ≤ gb265)); have n8_ := Aside0.mk ((by rw [hg]; exact (below_size (by repeat (first | (with_reducible first | exact HB.out | apply below_alloc | apply pw_below_drewN | apply below_drew1 | refine below_set ?_ GE218.out) | exact HB.out))) : w.heap.size ≤ gb265)); have n9_ := Aside0.mk ((by rw [hg]; exact Nat.ne_of_lt (blk_lt (g := gb218) (o := .cells #[.int .i64 x219000_3, .slice Ao103 x219001_3.length co103] 26 (0, 0)) (by (with_reducible repeat (first | refine blk_drewN ?_ _ | refine blk_drew ?_ | refine blk_alloc ?_ _)); exact BK218.out)) : gb218 ≠ gb265)); have n10_ := Aside0.mk ((by rw [hg]; exact Nat.ne_of_gt (blk_lt (g := gb218) (o := .cells #[.int .i64 x219000_3, .slice Ao103 x219001_3.length co103] 26 (0, 0)) (by (with_reducible repeat (first | refine blk_drewN ?_ _ | refine blk_drew ?_ | refine blk_alloc ?_ _)); exact BK218.out)) : gb265 ≠ gb218)); clear HO_219001; clear HO257; clear HO261; clear HO264; clear BK218; clear HB; have HO_219001 := n0_; have HO257 := n1_; have HO261 := n2_; have HO264 := n3_; have BK218 := n4_; have HB := n5_; have BK265 := n6_; have GW265 := n7_; have GE265 := n8_; have NB218_265 := n9_; have NB265_218 := n10_; clear n0_ n1_ n2_ n3_ n4_ n5_ n6_ n7_ n8_ n9_ n10_; clear hb hbox hg; have hnb106 := NB265_218.out; have hnc106 := NB218_265.out; have hcz107_0 : w105.cell? ⟨gb265, 0, none⟩ = some (.int .i64 0) := (blk_cell BK265.out 0).trans rfl; have hcz107_1 : w105.cell? ⟨gb265, 1, none⟩ = some (.slice none 0 0) := (blk_cell BK265.out 1).trans rfl; have hfz107_0 := blk_frozen BK265.out 0; have hfz107_1 := blk_frozen BK265.out 1; obtain ⟨Ao108, co108, eo108⟩ := Kd.R_slice HO261.out; subst eo108; obtain ⟨Ao109, co109, eo109⟩ := Kd.R_slice HO264.out; subst eo109; have p267 : 0 ≤ (0 : Int) := (by omega); have q267 : 0 < (t262.length : Int) := of_decide_eq_true (by first | (with_reducible assumption) | assumption); obtain ⟨ad267, e267, hx267_0⟩ := Kd.at_int (Kd.R_reads' HO264.out).2.2 0 p267 q267; cases e267; have qi267 : (0 < t262.length) = True := eq_true (by omega); (try rw [show ((0 : Int)).toNat = 0 from rfl] at hx267_0); (try rw [Addr.add_zero'] at hx267_0); have hn267_0 : ad267.block ≠ gb265 := Kd.own_blk (Kd.R_ne HO264.out BK265.out (by decide)); have hn267_1 : ad267.block ≠ gb265 := Kd.own_blk (Kd.R_ne HO264.out BK265.out (by decide)); replace hx267_0 := (cell_far (p := ⟨gb265, 0, none⟩) (by first | (rw [add_block]; exact hn267_0) | (show (Addr.add _ _).block ≠ _; rw [add_block]; exact hn267_0) | exact hn267_0) (.int .i64 t258)).trans hx267_0; replace hx267_0 := (cell_far (p := ⟨gb265, 1, none⟩) (by first | (rw [add_block]; exact hn267_1) | (show (Addr.add _ _).block ≠ _; rw [add_block]; exact hn267_1) | exact hn267_1) (.slice Ao108 t259.length co108)).trans hx267_0; clear hn267_0; clear hn267_1; replace p267 := eq_true p267; replace q267 := eq_true q267))
                                go_ret
                                exact ⟨by first | rfl | (simp [errW_none, errW_some] <;> rfl) | (simp [*, errW_none, errW_some] <;> rfl), by repeat (first | (with_reducible first | exact HB.out | apply below_alloc | apply pw_below_drewN | apply below_drew1 | refine below_set ?_ GE218.out | refine below_set ?_ GE265.out) | exact HB.out)⟩
                            · rw [if_neg c84] at H
                              exact absurd H (by simp)
                          · rw [if_neg c83] at H
                            have c83b0 : ((t262.length : Int) == 1) = false := beq_eq_false_iff_ne.mpr c83
                            have c83b1 : ((t262.length : Int) != 1) = true := bne_iff_ne.mpr c83
                            obtain rfl := Option.some.inj H
                            go_wp2_with (first | ((with_reducible refine gate_callee (f := 8) rfl ?_); refine goesL_ (some 113) rfl rfl Try.func8 (by kernel_rfl) rfl #[.int .i64 a3, .int .i64 8] rfl (by (try simp only [List.map_toArray, List.map_cons, List.map_nil]); first | done | rfl | (simp only [List.length_drop, List.length_take]; rfl)) ?_; (with_reducible refine (vmfleetmake_Round.calls a3 8 t254 _ A55.out).mono ?_); rintro e w' ⟨rfl, ⟨nd, rfl⟩⟩; refine ⟨_, rfl, ?_⟩; (try (rw [drewN_self wr]; generalize hq_ : World.drewN wr _ = wr; have n0_ : Aside0 (Kd.R k35 35 wr w.heap.size (fun _ => True) u219001 x219001_3) := ⟨by rw [← hq_]; exact (by (with_reducible repeat (first | apply Kd.R_alloc | apply Kd.R_drewN | apply Kd.R_drew)); exact HO_219001.out)⟩; have n1_ : Aside0 (wr.heap[gb218]? = some (.cells #[.int .i64 x219000_3, u219001] 26 (0, 0))) := ⟨by rw [← hq_]; exact (by (with_reducible repeat (first | refine blk_drewN ?_ _ | refine blk_drew ?_ | refine blk_alloc ?_ _)); exact BK218.out)⟩; have n2_ : Aside0 (Below w.heap.size w wr) := ⟨by rw [← hq_]; exact (by repeat (first | (with_reducible first | exact HB.out | apply below_alloc | apply pw_below_drewN | apply below_drew1 | refine below_set ?_ GE218.out) | exact HB.out))⟩; clear HO_219001 BK218 HB hq_; have HO_219001 := n0_; have BK218 := n1_; have HB := n2_; clear n0_ n1_ n2_)); have hcz110_0 : wr.cell? ⟨gb218, 0, none⟩ = some (.int .i64 x219000_3) := (blk_cell BK218.out 0).trans rfl; have hcz110_1 : wr.cell? ⟨gb218, 1, none⟩ = some (u219001) := (blk_cell BK218.out 1).trans rfl; have hfz110_0 := blk_frozen BK218.out 0; have hfz110_1 := blk_frozen BK218.out 1) | ((with_reducible refine gate_dst (N := 117) rfl ?_); (try (refine gate_guard (by rfl) ?_; dsimp only)); refine Kd.R_lit (Kd.int .u8) _ 5 ?hg (N := 117) ?hd (xs := ([200, 3] : List Int)) (inner := [.int .u8 200, .int .u8 3]) (ok := fun _ => True) (okp := fun _ => True) ?hr ?hp (fun _ hk => hk) trivial (Below.refl _ _) (Nat.le_refl _) (by simp) ?_; (case hd => rfl); (case hg => rfl); (case hr => first | (go_simp; done) | (go_simp; rfl)); (case hp => exact (Reps.one (show Kd.M (Kd.int .u8) _ _ _ 200 [.int .u8 200] from rfl) (Reps.one (show Kd.M (Kd.int .u8) _ _ _ 3 [.int .u8 3] from rfl) (Reps.none _ _)))); intro v256 w111 ho112 hb hg_ hnew_; clear hg_ hnew_; (first | rw [← Ny255.out] at ho112 | (simp only [Int.reduceToNat] at ho112; rw [← Ny255.out] at ho112)); have n0_ := Aside0.mk (Kd.R_below (by (with_reducible repeat (first | apply Kd.R_alloc | apply Kd.R_drewN | apply Kd.R_drew)); exact HO_219001.out) hb); have n1_ := Aside0.mk (Kd.R_lower ho112 (below_size (by repeat (first | (with_reducible first | exact HB.out | apply below_alloc | apply pw_below_drewN | apply below_drew1 | refine below_set ?_ GE218.out) | exact HB.out)))); have n2_ := Aside0.mk (blk_below (g := gb218) (o := .cells #[.int .i64 x219000_3, u219001] 26 (0, 0)) (by (with_reducible repeat (first | refine blk_drewN ?_ _ | refine blk_drew ?_ | refine blk_alloc ?_ _)); exact BK218.out) hb); have n3_ := Aside0.mk (below_step (by repeat (first | (with_reducible first | exact HB.out | apply below_alloc | apply pw_below_drewN | apply below_drew1 | refine below_set ?_ GE218.out) | exact HB.out)) hb); clear HO_219001; clear BK218; clear HB; have HO_219001 := n0_; have HO257 := n1_; have BK218 := n2_; have HB := n3_; clear n0_ n1_ n2_ n3_; clear hb ho112; have hcv113 := own_string (P := Try.prog) Try.underlying39 Try.underlying5 Try.underlying9 (Kd.own_of_R HO257.out); obtain ⟨Ao114, co114, eo114⟩ := Kd.R_slice HO_219001.out; subst eo114) | ((with_reducible refine gate_callee (f := 9) rfl ?_); refine goesL_ (some 119) rfl rfl Try.func9 (by kernel_rfl) rfl #[.agg #[.int .i64 x219000_3, .slice Ao114 x219001_3.length co114], .int .i64 t254, .string (strOfNums y255)] rfl (by (try simp only [List.map_toArray, List.map_cons, List.map_nil]); first | done | rfl | (simp only [List.length_drop, List.length_take]; rfl)) ?_; (with_reducible refine (network_Forward.calls k3 x219000_3 _ _ x219001_3 t254 (strOfNums y255) t258 t259 t262 _ ?side1 ?side2 A56.out).mono ?_); (case side1 => repeat (first | exact (Kd.R_reads' HO_219001.out).2.2 | (with_reducible refine Kd.C_alloc ?_ _) | (with_reducible refine Kd.C_drewN ?_ _) | (with_reducible refine Kd.C_drew ?_))); (case side2 => exact (Kd.R_reads' HO_219001.out).2.1); rintro e w115 ⟨v260, v263, rfl, ho0, ho1, hb⟩; refine ⟨_, rfl, ?_⟩; have n0_ := Aside0.mk (Kd.R_elder' (by (with_reducible repeat (first | apply Kd.R_alloc | apply Kd.R_drewN | apply Kd.R_drew)); exact HO_219001.out) (Kd.R_base ho0) hb); have n1_ := Aside0.mk (Kd.R_below (by (with_reducible repeat (first | apply Kd.R_alloc | apply Kd.R_drewN | apply Kd.R_drew)); exact HO257.out) hb); have n2_ := Aside0.mk (Kd.R_lower (Kd.R_new' ho0 (Kd.R_lt (by (with_reducible repeat (first | apply Kd.R_alloc | apply Kd.R_drewN | apply Kd.R_drew)); exact HO_219001.out))) (below_size (by repeat (first | (with_reducible first | exact HB.out | apply below_alloc | apply pw_below_drewN | apply below_drew1 | refine below_set ?_ GE218.out) | exact HB.out)))); have n3_ := Aside0.mk (Kd.R_lower ho1 (below_size (by repeat (first | (with_reducible first | exact HB.out | apply below_alloc | apply pw_below_drewN | apply below_drew1 | refine below_set ?_ GE218.out) | exact HB.out)))); have n4_ := Aside0.mk (blk_below (g := gb218) (o := .cells #[.int .i64 x219000_3, .slice Ao114 x219001_3.length co114] 26 (0, 0)) (by (with_reducible repeat (first | refine blk_drewN ?_ _ | refine blk_drew ?_ | refine blk_alloc ?_ _)); exact BK218.out) hb); have n5_ := Aside0.mk (below_step (by repeat (first | (with_reducible first | exact HB.out | apply below_alloc | apply pw_below_drewN | apply below_drew1 | refine below_set ?_ GE218.out) | exact HB.out)) hb); clear HO_219001; clear HO257; clear BK218; clear HB; have HO_219001 := n0_; have HO257 := n1_; have HO261 := n2_; have HO264 := n3_; have BK218 := n4_; have HB := n5_; clear n0_ n1_ n2_ n3_ n4_ n5_; (try clear hb); (try clear hb2); (try clear hk); (try clear hi); (try clear ho0); (try clear ho1)) | ((with_reducible refine gate_dst (N := 24) rfl ?_); (try (refine gate_guard (by rfl) ?_; dsimp only)); refine box_event ?hg (N := 24) ?hd (cs := #[.int .i64 0, .slice none 0 0]) (t := 26) ?hr ?_; (case hd => rfl); (case hg => rfl); (case hr => first | (go_simp; done) | (go_simp; rfl)); intro gb265 hg w116 hbox hb; have n0_ := Aside0.mk (Kd.R_below (by (with_reducible repeat (first | apply Kd.R_alloc | apply Kd.R_drewN | apply Kd.R_drew)); exact HO_219001.out) hb); have n1_ := Aside0.mk (Kd.R_below (by (with_reducible repeat (first | apply Kd.R_alloc | apply Kd.R_drewN | apply Kd.R_drew)); exact HO257.out) hb); have n2_ := Aside0.mk (Kd.R_below (by (with_reducible repeat (first | apply Kd.R_alloc | apply Kd.R_drewN | apply Kd.R_drew)); exact HO261.out) hb); have n3_ := Aside0.mk (Kd.R_below (by (with_reducible repeat (first | apply Kd.R_alloc | apply Kd.R_drewN | apply Kd.R_drew)); exact HO264.out) hb); have n4_ := Aside0.mk (blk_below (g := gb218) (o := .cells #[.int .i64 x219000_3, .slice Ao114 x219001_3.length co114] 26 (0, 0)) (by (with_reducible repeat (first | refine blk_drewN ?_ _ | refine blk_drew ?_ | refine blk_alloc ?_ _)); exact BK218.out) hb); have n5_ := Aside0.mk (below_step (by repeat (first | (with_reducible first | exact HB.out | apply below_alloc | apply pw_below_drewN | apply below_drew1 | refine below_set ?_ GE218.out) | exact HB.out)) hb); have n6_ := Aside0.mk (hbox); have n7_ := Aside0.mk ((by rw [hg]; exact (below_size (by repeat (first | (with_reducible first | exact HB.out | apply below_alloc | apply pw_below_drewN | apply below_drew1 | refine below_set ?_ GE218.out) | exact HB.out))) : w.heap.size ≤ gb265)); have n8_ := Aside0.mk ((by rw [hg]; exact (below_size (by repeat (first | (with_reducible first | exact HB.out | apply below_alloc | apply pw_below_drewN | apply below_drew1 | refine below_set ?_ GE218.out) | exact HB.out))) : w.heap.size ≤ gb265)); have n9_ := Aside0.mk ((by rw [hg]; exact Nat.ne_of_lt (blk_lt (g := gb218) (o := .cells #[.int .i64 x219000_3, .slice Ao114 x219001_3.length co114] 26 (0, 0)) (by (with_reducible repeat (first | refine blk_drewN ?_ _ | refine blk_drew ?_ | refine blk_alloc ?_ _)); exact BK218.out)) : gb218 ≠ gb265)); have n10_ := Aside0.mk ((by rw [hg]; exact Nat.ne_of_gt (blk_lt (g := gb218) (o := .cells #[.int .i64 x219000_3, .slice Ao114 x219001_3.length co114] 26 (0, 0)) (by (with_reducible repeat (first | refine blk_drewN ?_ _ | refine blk_drew ?_ | refine blk_alloc ?_ _)); exact BK218.out)) : gb265 ≠ gb218)); clear HO_219001; clear HO257; clear HO261; clear HO264; clear BK218; clear HB; have HO_219001 := n0_; have HO257 := n1_; have HO261 := n2_; have HO264 := n3_; have BK218 := n4_; have HB := n5_; have BK265 := n6_; have GW265 := n7_; have GE265 := n8_; have NB218_265 := n9_; have NB265_218 := n10_; clear n0_ n1_ n2_ n3_ n4_ n5_ n6_ n7_ n8_ n9_ n10_; clear hb hbox hg; have hnb117 := NB265_218.out; have hnc117 := NB218_265.out; have hcz118_0 : w116.cell? ⟨gb265, 0, none⟩ = some (.int .i64 0) := (blk_cell BK265.out 0).trans rfl; have hcz118_1 : w116.cell? ⟨gb265, 1, none⟩ = some (.slice none 0 0) := (blk_cell BK265.out 1).trans rfl; have hfz118_0 := blk_frozen BK265.out 0; have hfz118_1 := blk_frozen BK265.out 1; obtain ⟨Ao119, co119, eo119⟩ := Kd.R_slice HO261.out; subst eo119; obtain ⟨Ao120, co120, eo120⟩ := Kd.R_slice HO264.out; subst eo120))
                            go_ret
                            exact ⟨by first | rfl | (simp [errW_none, errW_some] <;> rfl) | (simp [*, errW_none, errW_some] <;> rfl), by repeat (first | (with_reducible first | exact HB.out | apply below_alloc | apply pw_below_drewN | apply below_drew1 | refine below_set ?_ GE218.out | refine below_set ?_ GE265.out) | exact HB.out)⟩
                · rw [if_neg c34] at H
                  have c34b0 : ((t238.length : Int) == 7) = false := beq_eq_false_iff_ne.mpr c34
                  have c34b1 : ((t238.length : Int) != 7) = true := bne_iff_ne.mpr c34
                  obtain rfl := Option.some.inj H
                  try go_wp2_with (first | ((with_reducible refine gate_callee (f := 8) rfl ?_); refine goesL_ (some 75) rfl rfl Try.func8 (by kernel_rfl) rfl #[.int .i64 a2, .int .i64 8] rfl (by (try simp only [List.map_toArray, List.map_cons, List.map_nil]); first | done | rfl | (simp only [List.length_drop, List.length_take]; rfl)) ?_; (with_reducible refine (vmfleetmake_Round.calls a2 8 t232 _ A31.out).mono ?_); rintro e w' ⟨rfl, ⟨nd, rfl⟩⟩; refine ⟨_, rfl, ?_⟩; (try (rw [drewN_self wr]; generalize hq_ : World.drewN wr _ = wr; have n0_ : Aside0 (Kd.R k35 35 wr w.heap.size (fun _ => True) u219001 x219001_2) := ⟨by rw [← hq_]; exact (by (with_reducible repeat (first | apply Kd.R_alloc | apply Kd.R_drewN | apply Kd.R_drew)); exact HO_219001.out)⟩; have n1_ : Aside0 (wr.heap[gb218]? = some (.cells #[.int .i64 x219000_2, u219001] 26 (0, 0))) := ⟨by rw [← hq_]; exact (by (with_reducible repeat (first | refine blk_drewN ?_ _ | refine blk_drew ?_ | refine blk_alloc ?_ _)); exact BK218.out)⟩; have n2_ : Aside0 (Below w.heap.size w wr) := ⟨by rw [← hq_]; exact (by repeat (first | (with_reducible first | exact HB.out | apply below_alloc | apply pw_below_drewN | apply below_drew1 | refine below_set ?_ GE218.out) | exact HB.out))⟩; clear HO_219001 BK218 HB hq_; have HO_219001 := n0_; have BK218 := n1_; have HB := n2_; clear n0_ n1_ n2_))))
                  have n0_ := Aside0.mk (Kd.R_drew HO_219001.out)
                  have n1_ := Aside0.mk (blk_drew BK218.out)
                  have n2_ := Aside0.mk (below_drew1 HB.out)
                  clear HO_219001
                  clear BK218
                  clear HB
                  have HO_219001 := n0_
                  have BK218 := n1_
                  have HB := n2_
                  clear n0_ n1_ n2_
                  refine start_ (n := 9) (S := fun w' => w'.cell? ⟨gb218, 0, none⟩ = some (.int .i64 x219000_2) ∧ w'.cell? ⟨gb218, 1, none⟩ = some (u219001)) (ds := [7]) #[false, false, false, false, false, false, false, false, false] (by kernel_rfl) rfl rfl ⟨(blk_cell BK218.out 0).trans rfl, (blk_cell BK218.out 1).trans rfl⟩ (fun hHeld => ?_); refine with_tabW vmfleetlaw33_SwitchMoves.tab12 vmfleetlaw33_SwitchMoves.bits12 (fun HT_ HW_ => ?_)
                  generalize wr.drew = w121 at HO_219001 BK218 HB hHeld ⊢
                  refine pure_ (i := 1) (N := some 78) (v := ?_) (a' := ?_) #[false, true, false, false, false, false, false, false, false] rfl rfl (any_of HT_.out (by kernel_rfl)) (fun _ _ _ h => h) (Or.inl ⟨by rfl, ?_⟩) ?_ ?_
                  rotate_left
                  · intro w'
                    go_simp
                    with_reducible rfl
                  rotate_left
                  · simp only [Act.put, List.setIfInBounds_toArray, List.set_cons_zero, List.set_cons_succ, i64_w, i32_w]
                    rfl
                  refine take_ (i := 0) (N := some 77) (v := ?_) (a' := ?_) #[true, true, false, false, false, false, false, false, false] rfl rfl (take_ofW HT_.out HW_.out (by kernel_rfl)) (fun _ _ _ h => h) (Or.inl ⟨by rfl, ?_⟩) hHeld ?_ ?_
                  rotate_left
                  · rintro w' ⟨s0, s1⟩
                    go_simp
                    with_reducible rfl
                  rotate_left
                  · simp only [Act.put, List.setIfInBounds_toArray, List.set_cons_zero, List.set_cons_succ, i64_w, i32_w]
                    rfl
                  refine one_ (i := 2) (N := some 79) #[true, true, true, false, false, false, false, false, false] rfl rfl (one_of HT_.out (by kernel_rfl)) (by decide) (fun K hK => ?_)
                  refine goes_ Try.func11 (by kernel_rfl) rfl #[.int .u8 200] (by rfl) rfl rfl (by (try simp only [List.map_toArray, List.map_cons, List.map_nil]); first | done | rfl | (simp only [List.length_drop, List.length_take]; rfl)) ?_
                  with_reducible refine (network_Announce.calls 200 t233 _ A32.out).mono ?_
                  rintro e w122 ⟨rfl, hb⟩
                  refine ⟨_, rfl, ?_⟩
                  have n0_ := Aside0.mk (Kd.R_below (by (with_reducible repeat (first | apply Kd.R_alloc | apply Kd.R_drewN | apply Kd.R_drew)); exact HO_219001.out) hb)
                  have n1_ := Aside0.mk (blk_below (g := gb218) (o := .cells #[.int .i64 x219000_2, u219001] 26 (0, 0)) (by (with_reducible repeat (first | refine blk_drewN ?_ _ | refine blk_drew ?_ | refine blk_alloc ?_ _)); exact BK218.out) hb)
                  have n2_ := Aside0.mk (below_step (by repeat (first | (with_reducible first | exact HB.out | apply below_alloc | apply pw_below_drewN | apply below_drew1 | refine below_set ?_ GE218.out) | exact HB.out)) hb)
                  clear HO_219001
                  clear BK218
                  clear HB
                  have HO_219001 := n0_
                  have BK218 := n1_
                  have HB := n2_
                  clear n0_ n1_ n2_
                  (try clear hb)
                  (try clear hb2)
                  (try clear hk)
                  (try clear hi)
                  obtain ⟨Ao123, co123, eo123⟩ := Kd.R_slice HO_219001.out
                  (first | subst eo123 | (injection eo123 with f1_ f2_ f3_; have f4_ := f1_.symm; have f5_ := f3_.symm; clear f1_ f2_ f3_; subst f4_; subst f5_))
                  refine hK.out _ _ ⟨(blk_cell BK218.out 0).trans rfl, (blk_cell BK218.out 1).trans rfl⟩ (fun hHeld => ?_)
                  clear hK K
                  refine norm_ (a' := ?_) ?_ ?_
                  rotate_left
                  · show Act.put _ (some 79) _ = _
                    simp only [Act.put, List.setIfInBounds_toArray, List.set_cons_zero, List.set_cons_succ, i64_w, i32_w]
                    rfl
                  refine one_ (i := 3) (N := some 80) #[true, true, true, true, false, false, false, false, false] rfl rfl (one_of HT_.out (by kernel_rfl)) (by decide) (fun K hK => ?_)
                  refine goes_ Try.func9 (by kernel_rfl) rfl #[.agg #[.int .i64 x219000_2, .slice Ao123 x219001_2.length co123], .int .i64 t232, .string t233] (by rfl) rfl rfl (by (try simp only [List.map_toArray, List.map_cons, List.map_nil]); first | done | rfl | (simp only [List.length_drop, List.length_take]; rfl)) ?_
                  with_reducible refine (network_Forward.calls k2 x219000_2 _ _ x219001_2 t232 t233 t234 t235 t238 _ ?side1 ?side2 A33.out).mono ?_
                  (case side1 => repeat (first | exact (Kd.R_reads' HO_219001.out).2.2 | (with_reducible refine Kd.C_alloc ?_ _) | (with_reducible refine Kd.C_drewN ?_ _) | (with_reducible refine Kd.C_drew ?_)))
                  (case side2 => exact (Kd.R_reads' HO_219001.out).2.1)
                  rintro e w124 ⟨v236, v239, rfl, ho0, ho1, hb⟩
                  refine ⟨_, rfl, ?_⟩
                  have n0_ := Aside0.mk (Kd.R_elder' (by (with_reducible repeat (first | apply Kd.R_alloc | apply Kd.R_drewN | apply Kd.R_drew)); exact HO_219001.out) (Kd.R_base ho0) hb)
                  have n1_ := Aside0.mk (Kd.R_lower (Kd.R_new' ho0 (Kd.R_lt (by (with_reducible repeat (first | apply Kd.R_alloc | apply Kd.R_drewN | apply Kd.R_drew)); exact HO_219001.out))) (below_size (by repeat (first | (with_reducible first | exact HB.out | apply below_alloc | apply pw_below_drewN | apply below_drew1 | refine below_set ?_ GE218.out) | exact HB.out))))
                  have n2_ := Aside0.mk (Kd.R_lower ho1 (below_size (by repeat (first | (with_reducible first | exact HB.out | apply below_alloc | apply pw_below_drewN | apply below_drew1 | refine below_set ?_ GE218.out) | exact HB.out))))
                  have n3_ := Aside0.mk (blk_below (g := gb218) (o := .cells #[.int .i64 x219000_2, .slice Ao123 x219001_2.length co123] 26 (0, 0)) (by (with_reducible repeat (first | refine blk_drewN ?_ _ | refine blk_drew ?_ | refine blk_alloc ?_ _)); exact BK218.out) hb)
                  have n4_ := Aside0.mk (below_step (by repeat (first | (with_reducible first | exact HB.out | apply below_alloc | apply pw_below_drewN | apply below_drew1 | refine below_set ?_ GE218.out) | exact HB.out)) hb)
                  clear HO_219001
                  clear BK218
                  clear HB
                  have HO_219001 := n0_
                  have HO237 := n1_
                  have HO240 := n2_
                  have BK218 := n3_
                  have HB := n4_
                  clear n0_ n1_ n2_ n3_ n4_
                  (try clear hb)
                  (try clear hb2)
                  (try clear hk)
                  (try clear hi)
                  (try clear ho0)
                  (try clear ho1)
                  obtain ⟨Ao126, co126, eo126⟩ := Kd.R_slice HO237.out
                  (first | subst eo126 | (injection eo126 with f1_ f2_ f3_; have f4_ := f1_.symm; have f5_ := f3_.symm; clear f1_ f2_ f3_; subst f4_; subst f5_))
                  refine hK.out _ _ ⟨(blk_cell BK218.out 0).trans rfl, (blk_cell BK218.out 1).trans rfl⟩ (fun hHeld => ?_)
                  clear hK K
                  refine norm_ (a' := ?_) ?_ ?_
                  rotate_left
                  · show Act.put _ (some 80) _ = _
                    simp only [Act.put, List.setIfInBounds_toArray, List.set_cons_zero, List.set_cons_succ, i64_w, i32_w]
                    rfl
                  refine pure_ (i := 4) (N := some 76) (v := ?_) (a' := ?_) #[true, true, true, true, true, false, false, false, false] rfl rfl (any_of HT_.out (by kernel_rfl)) (fun _ _ _ h => h) (Or.inl ⟨by rfl, ?_⟩) ?_ ?_
                  rotate_left
                  · intro w'
                    go_simp
                    with_reducible rfl
                  rotate_left
                  · simp only [Act.put, List.setIfInBounds_toArray, List.set_cons_zero, List.set_cons_succ, i64_w, i32_w]
                    rfl
                  refine pure_ (i := 5) (N := some 81) (v := ?_) (a' := ?_) #[true, true, true, true, true, true, false, false, false] rfl rfl (any_of HT_.out (by kernel_rfl)) (fun _ _ _ h => h) (Or.inl ⟨by rfl, ?_⟩) ?_ ?_
                  rotate_left
                  · intro w'
                    go_simp
                    with_reducible rfl
                  rotate_left
                  · simp only [Act.put, List.setIfInBounds_toArray, List.set_cons_zero, List.set_cons_succ, i64_w, i32_w]
                    rfl
                  refine pure_ (i := 6) (N := some 82) (v := ?_) (a' := ?_) #[true, true, true, true, true, true, true, false, false] rfl rfl (any_of HT_.out (by kernel_rfl)) (fun _ _ _ h => h) (Or.inl ⟨by rfl, ?_⟩) ?_ ?_
                  rotate_left
                  · intro w'
                    go_simp
                    with_reducible rfl
                  rotate_left
                  · simp only [Act.put, List.setIfInBounds_toArray, List.set_cons_zero, List.set_cons_succ, i64_w, i32_w]
                    rfl
                  refine last_ (i := 7) (N := none) #[true, true, true, true, true, true, true, true, false] rfl rfl (one_of HT_.out (by kernel_rfl)) (by decide) (fun K hK => ?_)
                  have hs125 : w124.cell? ⟨gb218, 0, none⟩ = some (.int .i64 x219000_2) := (blk_cell BK218.out 0).trans rfl
                  have hfs125 := blk_frozen BK218.out 0
                  have hs127 : w124.cell? ⟨gb218, 1, none⟩ = some (.slice Ao123 x219001_2.length co123) := (blk_cell BK218.out 1).trans rfl
                  have hfs127 := blk_frozen BK218.out 1
                  refine skip_ (w1 := ?_) (by rfl) rfl ?_ ?_
                  rotate_left
                  · go_simp
                    rfl
                  refine hK.out _ _ ?_
                  clear hK K
                  refine pure_ (i := 8) (N := some 18) (v := ?_) (a' := ?_) #[true, true, true, true, true, true, true, true, true] rfl rfl (any_of HT_.out (by kernel_rfl)) (fun _ _ _ h => h) (Or.inl ⟨by rfl, ?_⟩) ?_ ?_
                  rotate_left
                  · intro w'
                    go_simp
                    with_reducible rfl
                  rotate_left
                  · simp only [Act.put, List.setIfInBounds_toArray, List.set_cons_zero, List.set_cons_succ, i64_w, i32_w]
                    rfl
                  refine done_ (done_of HT_.out (by kernel_rfl)) ?_
                  obtain ⟨Ao128, co128, eo128⟩ := Kd.R_slice HO240.out
                  subst eo128
                  try go_wp2
                  go_ret
                  exact ⟨by first | rfl | (simp [errW_none, errW_some] <;> rfl) | (simp [*, errW_none, errW_some] <;> rfl), by repeat (first | (with_reducible first | exact HB.out | apply below_alloc | apply pw_below_drewN | apply below_drew1 | refine below_set ?_ GE218.out) | exact HB.out)⟩
        · replace c13 := Bool.eq_false_iff.mpr c13
          subst c13
          have H1 : (some false) = some r := by rw [if_neg (show ¬ (false = true) by decide)] at H; exact H
          clear H
          have H := H1
          clear H1
          obtain rfl := Option.some.inj H
          go_wp2_with (first | ((with_reducible refine gate_callee (f := 6) rfl ?_); refine goesL_ (some 43) rfl rfl Try.func6 (by kernel_rfl) rfl #[.int .i64 8] rfl (by (try simp only [List.map_toArray, List.map_cons, List.map_nil]); first | done | rfl | (simp only [List.length_drop, List.length_take]; rfl)) ?_; (with_reducible refine (network_New.calls 8 t213 t214 false _ A12.out).mono ?_); rintro e w129 ⟨v215, rfl, ho0, hb⟩; refine ⟨_, rfl, ?_⟩; have n0_ := Aside0.mk (Kd.R_lower ho0 (below_size (by repeat (first | (with_reducible first | exact HB.out | apply below_alloc | apply pw_below_drewN | apply below_drew1) | exact HB.out)))); have n1_ := Aside0.mk (below_step (by repeat (first | (with_reducible first | exact HB.out | apply below_alloc | apply pw_below_drewN | apply below_drew1) | exact HB.out)) hb); clear HB; have HO216 := n0_; have HB := n1_; clear n0_ n1_; (try clear hb); (try clear hb2); (try clear hk); (try clear hi); (try clear ho0)) | ((with_reducible refine gate_dst (N := 11) rfl ?_); (try (refine gate_guard (by rfl) ?_; dsimp only)); refine box_event ?hg (N := 11) ?hd (cs := #[.int .i64 0, .slice none 0 0]) (t := 26) ?hr ?_; (case hd => rfl); (case hg => rfl); (case hr => first | (go_simp; done) | (go_simp; rfl)); intro gb218 hg w130 hbox hb; have n0_ := Aside0.mk (Kd.R_below (by (with_reducible repeat (first | apply Kd.R_alloc | apply Kd.R_drewN | apply Kd.R_drew)); exact HO216.out) hb); have n1_ := Aside0.mk (below_step (by repeat (first | (with_reducible first | exact HB.out | apply below_alloc | apply pw_below_drewN | apply below_drew1) | exact HB.out)) hb); have n2_ := Aside0.mk (hbox); have n3_ := Aside0.mk ((by rw [hg]; exact (below_size (by repeat (first | (with_reducible first | exact HB.out | apply below_alloc | apply pw_below_drewN | apply below_drew1) | exact HB.out))) : w.heap.size ≤ gb218)); have n4_ := Aside0.mk ((by rw [hg]; exact (below_size (by repeat (first | (with_reducible first | exact HB.out | apply below_alloc | apply pw_below_drewN | apply below_drew1) | exact HB.out))) : w.heap.size ≤ gb218)); clear HO216; clear HB; have HO216 := n0_; have HB := n1_; have BK218 := n2_; have GW218 := n3_; have GE218 := n4_; clear n0_ n1_ n2_ n3_ n4_; clear hb hbox hg; have hcz131_0 : w130.cell? ⟨gb218, 0, none⟩ = some (.int .i64 0) := (blk_cell BK218.out 0).trans rfl; have hcz131_1 : w130.cell? ⟨gb218, 1, none⟩ = some (.slice none 0 0) := (blk_cell BK218.out 1).trans rfl; have hfz131_0 := blk_frozen BK218.out 0; have hfz131_1 := blk_frozen BK218.out 1; obtain ⟨Ao132, co132, eo132⟩ := Kd.R_slice HO216.out; subst eo132))
          go_ret
          exact ⟨by first | rfl | (simp [errW_none, errW_some] <;> rfl) | (simp [*, errW_none, errW_some] <;> rfl), by repeat (first | (with_reducible first | exact HB.out | apply below_alloc | apply pw_below_drewN | apply below_drew1 | refine below_set ?_ GE218.out) | exact HB.out)⟩

/-- THE ONE PURE STATEMENT of vmfleetlaw33_SwitchMoves: yours. -/
def vmfleetlaw33_SwitchMoves.Pure : Prop := ∀ (l0 : List Int) (l1 : List Int) (a2 : Int) (a3 : Int) (l4 : List Int), l0.length ≤ maxLen → l0.length * 8 ≤ 140737488351232 → (∀ x ∈ l0, (Lit.int .i64 x).wf = true) → l1.length ≤ maxLen → l1.length * 8 ≤ 140737488351232 → (∀ x ∈ l1, (Lit.int .i64 x).wf = true) → (Lit.int .i64 a2).wf = true → (Lit.int .i64 a3).wf = true → l4.length ≤ maxLen → l4.length * 8 ≤ 140737488351232 → (∀ x ∈ l4, (Lit.int .i64 x).wf = true) → ∃ k, vmfleetlaw33_SwitchMoves.f k l0 l1 a2 a3 l4 = some true
theorem vmfleetlaw33_SwitchMoves.walk (P : vmfleetlaw33_SwitchMoves.Pure) (a0 : Option Addr) (len0 cap0 : Nat) (z0 : List Int) (a1 : Option Addr) (len1 cap1 : Nat) (z1 : List Int) (a2 : Int) (a3 : Int) (a4 : Option Addr) (len4 cap4 : Nat) (z4 : List Int) (w : World) (w0 : (a0 = none ∧ len0 = 0 ∧ cap0 = 0 ∧ z0 = []) ∨ ∃ x, a0 = some x ∧ len0 ≤ cap0 ∧ cap0 ≤ maxLen ∧ z0.length = cap0 ∧ (∀ i, i < z0.length → w.cell? (x.add i) = some (.int .i64 (z0.getD i 0))) ∧ ∀ n ∈ z0, (Lit.int .i64 n).wf = true) (y0 : len0 * 8 ≤ 140737488351232) (w1 : (a1 = none ∧ len1 = 0 ∧ cap1 = 0 ∧ z1 = []) ∨ ∃ x, a1 = some x ∧ len1 ≤ cap1 ∧ cap1 ≤ maxLen ∧ z1.length = cap1 ∧ (∀ i, i < z1.length → w.cell? (x.add i) = some (.int .i64 (z1.getD i 0))) ∧ ∀ n ∈ z1, (Lit.int .i64 n).wf = true) (y1 : len1 * 8 ≤ 140737488351232) (w2 : (Lit.int .i64 a2).wf = true) (w3 : (Lit.int .i64 a3).wf = true) (w4 : (a4 = none ∧ len4 = 0 ∧ cap4 = 0 ∧ z4 = []) ∨ ∃ x, a4 = some x ∧ len4 ≤ cap4 ∧ cap4 ≤ maxLen ∧ z4.length = cap4 ∧ (∀ i, i < z4.length → w.cell? (x.add i) = some (.int .i64 (z4.getD i 0))) ∧ ∀ n ∈ z4, (Lit.int .i64 n).wf = true) (y4 : len4 * 8 ≤ 140737488351232) :
    Calls Try.prog 4 #[.slice a0 len0 cap0, .slice a1 len1 cap1, .int .i64 a2, .int .i64 a3, .slice a4 len4 cap4] w fun e w' => e = .returned (.bool true) ∧ Below w.heap.size w w' := by
  obtain ⟨l0, rfl, hr0, hm0, hw0, hc0⟩ := ReadsInt.ofRowC w0
  obtain ⟨l1, rfl, hr1, hm1, hw1, hc1⟩ := ReadsInt.ofRowC w1
  obtain ⟨l4, rfl, hr4, hm4, hw4, hc4⟩ := ReadsInt.ofRowC w4
  obtain ⟨k, h⟩ := P l0 l1 a2 a3 l4 hm0 y0 hw0 hm1 y1 hw1 w2 w3 hm4 y4 hw4
  refine (vmfleetlaw33_SwitchMoves.calls k _ _ l0 _ _ l1 a2 a3 _ _ l4 true w (Kd.C_of_reads (d := (0 : Int)) (h1 := fun _ => rfl) hr0) hc0 (Kd.C_of_reads (d := (0 : Int)) (h1 := fun _ => rfl) hr1) hc1 (Kd.C_of_reads (d := (0 : Int)) (h1 := fun _ => rfl) hr4) hc4 h).mono ?_
  rintro e w' ⟨rfl, hd⟩
  exact ⟨rfl, hd⟩

end Go.Proofs.Ytdkbhjmoiblobaa.HSwitchMoves
