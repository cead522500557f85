-- Written for this claim by wip/hook.py, by means of the kit's print and of hand-proved contracts.
import Derived.Test.YtdkbhjmoiblobaaHSwitchLearnsx0
import Derived.Test.YtdkbhjmoiblobaaHSwitchLearnsx1
import Derived.Test.YtdkbhjmoiblobaaHSwitchLearnsx2
import Derived.Test.YtdkbhjmoiblobaaHSwitchLearnsx4
import Derived.Test.YtdkbhjmoiblobaaHSwitchLearnsx5
import Derived.Test.YtdkbhjmoiblobaaHSwitchLearnsx6
namespace Go.Proofs.Ytdkbhjmoiblobaa.HSwitchLearns
open Go.RowKit Go.Proofs.YtdkbhjmoiblobaaW.PrintWords Go.Proofs.YtdkbhjmoiblobaaW.PrintLast Go.Proofs.YtdkbhjmoiblobaaW.PrintMore
attribute [local go_sem] max2_int min2_int max_two min_two max_three min_three max_four min_four   -- for this text's walks alone
attribute [local go_sem] Instr.field asAgg
set_option linter.unusedVariables false
set_option linter.unusedSimpArgs false

/-! ### vmfleetlaw33_SwitchLearns: function 3 -/
mutual
def vmfleetlaw33_SwitchLearns.j0 : Nat → Int → List Int → List Int → Bool → Option (Bool)
  | 0, _, _, _, _ => none
  | k + 1, x0, x1, x2, x40 => if x40 = true then ((vmfleetlaw33_awake.f k).bind fun t212 => (some t212)) else ((network_New.f x0).bind fun bt213 => (if bt213.2.2 = true then (vmfleetlaw33_SwitchLearns.l0 k x0 x1 x2 ([] : List (S35)) 0 bt213.1 bt213.2.1) else (some false)))
def vmfleetlaw33_SwitchLearns.l0 : Nat → Int → List Int → List Int → List (S35) → Int → Int → List (S35) → Option (Bool)
  | 0, _, _, _, _, _, _, _ => none
  | k + 1, x0, x1, x2, x9, x10, x219000, x219001 => if x10 < (x1.length : Int) then (if 0 ≤ x10 then ((vmfleetlaw33_frame.f k (rd x1 x10)).bind fun bt221 => (if x10 < (x2.length : Int) then ((vmfleetmake_Round.f (rd x2 x10) x0).bind fun t225 => ((network_Forward.f k x219000 x219001 t225 bt221.1).bind fun bt226 => (vmfleetlaw33_SwitchLearns.l1 k x0 x1 x2 x9 x10 bt221.2.1 bt221.2.2 t225 bt226.2.2 (([(⟨bt221.2.2, t225⟩ : S35)] : List (S35))) 0 bt226.1 bt226.2.1))) else (none))) else (none)) else ((vmfleetlaw33_awake.f k).bind fun t219 => (some t219))
def vmfleetlaw33_SwitchLearns.l1 : Nat → Int → List Int → List Int → List (S35) → Int → Int → Int → Int → List Int → List (S35) → Int → Int → List (S35) → Option (Bool)
  | 0, _, _, _, _, _, _, _, _, _, _, _, _, _ => none
  | k + 1, x0, x1, x2, x9, x10, x12, x13, x14, x16, x17, x18, x234000, x234001 => if x18 < (x9.length : Int) then (if 0 ≤ x18 then (if ((rd_T35 x9 x18).f0) = x13 then (vmfleetlaw33_SwitchLearns.l1 k x0 x1 x2 x9 x10 x12 x13 x14 x16 x17 (wrap64 (x18 + 1)) x234000 x234001) else (if x17.length < 8796093022208 then (vmfleetlaw33_SwitchLearns.l1 k x0 x1 x2 x9 x10 x12 x13 x14 x16 (x17 ++ [(⟨(rd_T35 x9 x18).f0, (rd_T35 x9 x18).f1⟩ : S35)]) (wrap64 (x18 + 1)) x234000 x234001) else (none))) else (none)) else (if 0 ≤ (mn (x17.length : Int) 16) then (if (mn (x17.length : Int) 16) ≤ (x17.length : Int) then (vmfleetlaw33_SwitchLearns.l2 k x0 x1 x2 (x17.take ((mn (x17.length : Int) 16) : Int).toNat) x10 x12 x14 x16 (-1) 0 x234000 x234001) else (none)) else (none))
def vmfleetlaw33_SwitchLearns.l2 : Nat → Int → List Int → List Int → List (S35) → Int → Int → Int → List Int → Int → Int → Int → List (S35) → Option (Bool)
  | 0, _, _, _, _, _, _, _, _, _, _, _, _ => none
  | k + 1, x0, x1, x2, x9, x10, x12, x14, x16, x19, x20, x234000, x234001 => if x20 < (x9.length : Int) then (if 0 ≤ x20 then (if ((rd_T35 x9 x20).f0) = x12 then (vmfleetlaw33_SwitchLearns.l2 k x0 x1 x2 x9 x10 x12 x14 x16 ((rd_T35 x9 x20).f1) (wrap64 (x20 + 1)) x234000 x234001) else (vmfleetlaw33_SwitchLearns.l2 k x0 x1 x2 x9 x10 x12 x14 x16 x19 (wrap64 (x20 + 1)) x234000 x234001)) else (none)) else (if x19 ≥ 0 then (vmfleetlaw33_SwitchLearns.j4 k x0 x1 x2 x9 x10 x14 x16 x19 1 x234000 x234001) else (vmfleetlaw33_SwitchLearns.j4 k x0 x1 x2 x9 x10 x14 x16 x19 (wrap64 (x0 - 1)) x234000 x234001))
def vmfleetlaw33_SwitchLearns.j4 : Nat → Int → List Int → List Int → List (S35) → Int → Int → List Int → Int → Int → Int → List (S35) → Option (Bool)
  | 0, _, _, _, _, _, _, _, _, _, _, _ => none
  | k + 1, x0, x1, x2, x9, x10, x14, x16, x19, x21, x234000, x234001 => if x19 = x14 then (vmfleetlaw33_SwitchLearns.j5 k x0 x1 x2 x9 x10 x14 x16 x19 0 x234000 x234001) else (vmfleetlaw33_SwitchLearns.j5 k x0 x1 x2 x9 x10 x14 x16 x19 x21 x234000 x234001)
def vmfleetlaw33_SwitchLearns.j5 : Nat → Int → List Int → List Int → List (S35) → Int → Int → List Int → Int → Int → Int → List (S35) → Option (Bool)
  | 0, _, _, _, _, _, _, _, _, _, _, _ => none
  | k + 1, x0, x1, x2, x9, x10, x14, x16, x19, x21, x234000, x234001 => if (x16.length : Int) = x21 then (vmfleetlaw33_SwitchLearns.l3 k x0 x1 x2 x9 x10 x14 x16 x19 0 x234000 x234001) else (some false)
def vmfleetlaw33_SwitchLearns.l3 : Nat → Int → List Int → List Int → List (S35) → Int → Int → List Int → Int → Int → Int → List (S35) → Option (Bool)
  | 0, _, _, _, _, _, _, _, _, _, _, _ => none
  | k + 1, x0, x1, x2, x9, x10, x14, x16, x19, x22, x234000, x234001 => if x22 < (x16.length : Int) then (if 0 ≤ x22 then (if (rd x16 x22) = x14 then (some false) else (if (rd x16 x22) < 0 then (some false) else (if (rd x16 x22) ≥ x0 then (some false) else (if x22 > 0 then (if 0 ≤ (wrap64 (x22 - 1)) then (if (wrap64 (x22 - 1)) < (x16.length : Int) then (if (rd x16 x22) ≤ (rd x16 (wrap64 (x22 - 1))) then (some false) else (if x19 ≥ 0 then (if (rd x16 x22) = x19 then (vmfleetlaw33_SwitchLearns.l3 k x0 x1 x2 x9 x10 x14 x16 x19 (wrap64 (x22 + 1)) x234000 x234001) else (some false)) else (vmfleetlaw33_SwitchLearns.l3 k x0 x1 x2 x9 x10 x14 x16 x19 (wrap64 (x22 + 1)) x234000 x234001))) else (none)) else (none)) else (if x19 ≥ 0 then (if (rd x16 x22) = x19 then (vmfleetlaw33_SwitchLearns.l3 k x0 x1 x2 x9 x10 x14 x16 x19 (wrap64 (x22 + 1)) x234000 x234001) else (some false)) else (vmfleetlaw33_SwitchLearns.l3 k x0 x1 x2 x9 x10 x14 x16 x19 (wrap64 (x22 + 1)) x234000 x234001)))))) else (none)) else ((network_Valid.f k x234000 x234001).bind fun t254 => (if t254 = true then (if (x234001.length : Int) = (x9.length : Int) then (vmfleetlaw33_SwitchLearns.l0 k x0 x1 x2 x9 (wrap64 (x10 + 1)) x234000 x234001) else (some false)) else (some false)))
end
def vmfleetlaw33_SwitchLearns.f (k : Nat) (a0 : Int) (l1 : List Int) (l2 : List Int) : Option (Bool) := if a0 < 1 then (vmfleetlaw33_SwitchLearns.j0 k a0 l1 l2 true) else (if a0 > 8 then (vmfleetlaw33_SwitchLearns.j0 k a0 l1 l2 true) else (if (l1.length : Int) > 60 then (vmfleetlaw33_SwitchLearns.j0 k a0 l1 l2 true) else (vmfleetlaw33_SwitchLearns.j0 k a0 l1 l2 (decide ((l2.length : Int) < (l1.length : Int))))))
theorem vmfleetlaw33_SwitchLearns.mono_l : ∀ k, (∀ y0 y1 y2 y3, LeO (vmfleetlaw33_SwitchLearns.j0 k y0 y1 y2 y3) (vmfleetlaw33_SwitchLearns.j0 (k + 1) y0 y1 y2 y3)) ∧ (∀ y0 y1 y2 y3 y4 y5 y6, LeO (vmfleetlaw33_SwitchLearns.l0 k y0 y1 y2 y3 y4 y5 y6) (vmfleetlaw33_SwitchLearns.l0 (k + 1) y0 y1 y2 y3 y4 y5 y6)) ∧ (∀ y0 y1 y2 y3 y4 y5 y6 y7 y8 y9 y10 y11 y12, LeO (vmfleetlaw33_SwitchLearns.l1 k y0 y1 y2 y3 y4 y5 y6 y7 y8 y9 y10 y11 y12) (vmfleetlaw33_SwitchLearns.l1 (k + 1) y0 y1 y2 y3 y4 y5 y6 y7 y8 y9 y10 y11 y12)) ∧ (∀ y0 y1 y2 y3 y4 y5 y6 y7 y8 y9 y10 y11, LeO (vmfleetlaw33_SwitchLearns.l2 k y0 y1 y2 y3 y4 y5 y6 y7 y8 y9 y10 y11) (vmfleetlaw33_SwitchLearns.l2 (k + 1) y0 y1 y2 y3 y4 y5 y6 y7 y8 y9 y10 y11)) ∧ (∀ y0 y1 y2 y3 y4 y5 y6 y7 y8 y9 y10, LeO (vmfleetlaw33_SwitchLearns.j4 k y0 y1 y2 y3 y4 y5 y6 y7 y8 y9 y10) (vmfleetlaw33_SwitchLearns.j4 (k + 1) y0 y1 y2 y3 y4 y5 y6 y7 y8 y9 y10)) ∧ (∀ y0 y1 y2 y3 y4 y5 y6 y7 y8 y9 y10, LeO (vmfleetlaw33_SwitchLearns.j5 k y0 y1 y2 y3 y4 y5 y6 y7 y8 y9 y10) (vmfleetlaw33_SwitchLearns.j5 (k + 1) y0 y1 y2 y3 y4 y5 y6 y7 y8 y9 y10)) ∧ (∀ y0 y1 y2 y3 y4 y5 y6 y7 y8 y9 y10, LeO (vmfleetlaw33_SwitchLearns.l3 k y0 y1 y2 y3 y4 y5 y6 y7 y8 y9 y10) (vmfleetlaw33_SwitchLearns.l3 (k + 1) y0 y1 y2 y3 y4 y5 y6 y7 y8 y9 y10))
  | 0 => ⟨fun _ _ _ _ r h => by simp [vmfleetlaw33_SwitchLearns.j0] at h, fun _ _ _ _ _ _ _ r h => by simp [vmfleetlaw33_SwitchLearns.l0] at h, fun _ _ _ _ _ _ _ _ _ _ _ _ _ r h => by simp [vmfleetlaw33_SwitchLearns.l1] at h, fun _ _ _ _ _ _ _ _ _ _ _ _ r h => by simp [vmfleetlaw33_SwitchLearns.l2] at h, fun _ _ _ _ _ _ _ _ _ _ _ r h => by simp [vmfleetlaw33_SwitchLearns.j4] at h, fun _ _ _ _ _ _ _ _ _ _ _ r h => by simp [vmfleetlaw33_SwitchLearns.j5] at h, fun _ _ _ _ _ _ _ _ _ _ _ r h => by simp [vmfleetlaw33_SwitchLearns.l3] at h⟩
  | k + 1 => by
    obtain ⟨ih0, ih1, ih2, ih3, ih4, ih5, ih6⟩ := vmfleetlaw33_SwitchLearns.mono_l k
    refine ⟨?_, ?_, ?_, ?_, ?_, ?_, ?_⟩
    · intro y0 y1 y2 y3
      unfold vmfleetlaw33_SwitchLearns.j0
      repeat' first
      | (with_reducible exact ih0 _ _ _ _)
      | (with_reducible exact ih1 _ _ _ _ _ _ _)
      | (with_reducible exact ih2 _ _ _ _ _ _ _ _ _ _ _ _ _)
      | (with_reducible exact ih3 _ _ _ _ _ _ _ _ _ _ _ _)
      | (with_reducible exact ih4 _ _ _ _ _ _ _ _ _ _ _)
      | (with_reducible exact ih5 _ _ _ _ _ _ _ _ _ _ _)
      | (with_reducible exact ih6 _ _ _ _ _ _ _ _ _ _ _)
      | (with_reducible exact network_Forward.mono _ _ _ _ _)
      | (with_reducible exact network_Valid.mono _ _ _)
      | (with_reducible exact vmfleetlaw33_awake.mono _)
      | (with_reducible exact vmfleetlaw33_frame.mono _ _)
      | (with_reducible exact LeO.refl _)
      | (with_reducible exact LeO.none _)
      | (with_reducible refine LeO.ite ?_ ?_)
      | (with_reducible refine LeO.bind ?_ (fun _ => ?_))
      | exact ih0 _ _ _ _
      | exact ih1 _ _ _ _ _ _ _
      | exact ih2 _ _ _ _ _ _ _ _ _ _ _ _ _
      | exact ih3 _ _ _ _ _ _ _ _ _ _ _ _
      | exact ih4 _ _ _ _ _ _ _ _ _ _ _
      | exact ih5 _ _ _ _ _ _ _ _ _ _ _
      | exact ih6 _ _ _ _ _ _ _ _ _ _ _
      | exact network_Forward.mono _ _ _ _ _
      | exact network_Valid.mono _ _ _
      | exact vmfleetlaw33_awake.mono _
      | exact vmfleetlaw33_frame.mono _ _
      | exact LeO.none _
      | refine LeO.ite ?_ ?_
      | refine LeO.bind ?_ (fun _ => ?_)
    · intro y0 y1 y2 y3 y4 y5 y6
      unfold vmfleetlaw33_SwitchLearns.l0
      repeat' first
      | (with_reducible exact ih0 _ _ _ _)
      | (with_reducible exact ih1 _ _ _ _ _ _ _)
      | (with_reducible exact ih2 _ _ _ _ _ _ _ _ _ _ _ _ _)
      | (with_reducible exact ih3 _ _ _ _ _ _ _ _ _ _ _ _)
      | (with_reducible exact ih4 _ _ _ _ _ _ _ _ _ _ _)
      | (with_reducible exact ih5 _ _ _ _ _ _ _ _ _ _ _)
      | (with_reducible exact ih6 _ _ _ _ _ _ _ _ _ _ _)
      | (with_reducible exact network_Forward.mono _ _ _ _ _)
      | (with_reducible exact network_Valid.mono _ _ _)
      | (with_reducible exact vmfleetlaw33_awake.mono _)
      | (with_reducible exact vmfleetlaw33_frame.mono _ _)
      | (with_reducible exact LeO.refl _)
      | (with_reducible exact LeO.none _)
      | (with_reducible refine LeO.ite ?_ ?_)
      | (with_reducible refine LeO.bind ?_ (fun _ => ?_))
      | exact ih0 _ _ _ _
      | exact ih1 _ _ _ _ _ _ _
      | exact ih2 _ _ _ _ _ _ _ _ _ _ _ _ _
      | exact ih3 _ _ _ _ _ _ _ _ _ _ _ _
      | exact ih4 _ _ _ _ _ _ _ _ _ _ _
      | exact ih5 _ _ _ _ _ _ _ _ _ _ _
      | exact ih6 _ _ _ _ _ _ _ _ _ _ _
      | exact network_Forward.mono _ _ _ _ _
      | exact network_Valid.mono _ _ _
      | exact vmfleetlaw33_awake.mono _
      | exact vmfleetlaw33_frame.mono _ _
      | exact LeO.none _
      | refine LeO.ite ?_ ?_
      | refine LeO.bind ?_ (fun _ => ?_)
    · intro y0 y1 y2 y3 y4 y5 y6 y7 y8 y9 y10 y11 y12
      unfold vmfleetlaw33_SwitchLearns.l1
      repeat' first
      | (with_reducible exact ih0 _ _ _ _)
      | (with_reducible exact ih1 _ _ _ _ _ _ _)
      | (with_reducible exact ih2 _ _ _ _ _ _ _ _ _ _ _ _ _)
      | (with_reducible exact ih3 _ _ _ _ _ _ _ _ _ _ _ _)
      | (with_reducible exact ih4 _ _ _ _ _ _ _ _ _ _ _)
      | (with_reducible exact ih5 _ _ _ _ _ _ _ _ _ _ _)
      | (with_reducible exact ih6 _ _ _ _ _ _ _ _ _ _ _)
      | (with_reducible exact network_Forward.mono _ _ _ _ _)
      | (with_reducible exact network_Valid.mono _ _ _)
      | (with_reducible exact vmfleetlaw33_awake.mono _)
      | (with_reducible exact vmfleetlaw33_frame.mono _ _)
      | (with_reducible exact LeO.refl _)
      | (with_reducible exact LeO.none _)
      | (with_reducible refine LeO.ite ?_ ?_)
      | (with_reducible refine LeO.bind ?_ (fun _ => ?_))
      | exact ih0 _ _ _ _
      | exact ih1 _ _ _ _ _ _ _
      | exact ih2 _ _ _ _ _ _ _ _ _ _ _ _ _
      | exact ih3 _ _ _ _ _ _ _ _ _ _ _ _
      | exact ih4 _ _ _ _ _ _ _ _ _ _ _
      | exact ih5 _ _ _ _ _ _ _ _ _ _ _
      | exact ih6 _ _ _ _ _ _ _ _ _ _ _
      | exact network_Forward.mono _ _ _ _ _
      | exact network_Valid.mono _ _ _
      | exact vmfleetlaw33_awake.mono _
      | exact vmfleetlaw33_frame.mono _ _
      | exact LeO.none _
      | refine LeO.ite ?_ ?_
      | refine LeO.bind ?_ (fun _ => ?_)
    · intro y0 y1 y2 y3 y4 y5 y6 y7 y8 y9 y10 y11
      unfold vmfleetlaw33_SwitchLearns.l2
      repeat' first
      | (with_reducible exact ih0 _ _ _ _)
      | (with_reducible exact ih1 _ _ _ _ _ _ _)
      | (with_reducible exact ih2 _ _ _ _ _ _ _ _ _ _ _ _ _)
      | (with_reducible exact ih3 _ _ _ _ _ _ _ _ _ _ _ _)
      | (with_reducible exact ih4 _ _ _ _ _ _ _ _ _ _ _)
      | (with_reducible exact ih5 _ _ _ _ _ _ _ _ _ _ _)
      | (with_reducible exact ih6 _ _ _ _ _ _ _ _ _ _ _)
      | (with_reducible exact network_Forward.mono _ _ _ _ _)
      | (with_reducible exact network_Valid.mono _ _ _)
      | (with_reducible exact vmfleetlaw33_awake.mono _)
      | (with_reducible exact vmfleetlaw33_frame.mono _ _)
      | (with_reducible exact LeO.refl _)
      | (with_reducible exact LeO.none _)
      | (with_reducible refine LeO.ite ?_ ?_)
      | (with_reducible refine LeO.bind ?_ (fun _ => ?_))
      | exact ih0 _ _ _ _
      | exact ih1 _ _ _ _ _ _ _
      | exact ih2 _ _ _ _ _ _ _ _ _ _ _ _ _
      | exact ih3 _ _ _ _ _ _ _ _ _ _ _ _
      | exact ih4 _ _ _ _ _ _ _ _ _ _ _
      | exact ih5 _ _ _ _ _ _ _ _ _ _ _
      | exact ih6 _ _ _ _ _ _ _ _ _ _ _
      | exact network_Forward.mono _ _ _ _ _
      | exact network_Valid.mono _ _ _
      | exact vmfleetlaw33_awake.mono _
      | exact vmfleetlaw33_frame.mono _ _
      | exact LeO.none _
      | refine LeO.ite ?_ ?_
      | refine LeO.bind ?_ (fun _ => ?_)
    · intro y0 y1 y2 y3 y4 y5 y6 y7 y8 y9 y10
      unfold vmfleetlaw33_SwitchLearns.j4
      repeat' first
      | (with_reducible exact ih0 _ _ _ _)
      | (with_reducible exact ih1 _ _ _ _ _ _ _)
      | (with_reducible exact ih2 _ _ _ _ _ _ _ _ _ _ _ _ _)
      | (with_reducible exact ih3 _ _ _ _ _ _ _ _ _ _ _ _)
      | (with_reducible exact ih4 _ _ _ _ _ _ _ _ _ _ _)
      | (with_reducible exact ih5 _ _ _ _ _ _ _ _ _ _ _)
      | (with_reducible exact ih6 _ _ _ _ _ _ _ _ _ _ _)
      | (with_reducible exact network_Forward.mono _ _ _ _ _)
      | (with_reducible exact network_Valid.mono _ _ _)
      | (with_reducible exact vmfleetlaw33_awake.mono _)
      | (with_reducible exact vmfleetlaw33_frame.mono _ _)
      | (with_reducible exact LeO.refl _)
      | (with_reducible exact LeO.none _)
      | (with_reducible refine LeO.ite ?_ ?_)
      | (with_reducible refine LeO.bind ?_ (fun _ => ?_))
      | exact ih0 _ _ _ _
      | exact ih1 _ _ _ _ _ _ _
      | exact ih2 _ _ _ _ _ _ _ _ _ _ _ _ _
      | exact ih3 _ _ _ _ _ _ _ _ _ _ _ _
      | exact ih4 _ _ _ _ _ _ _ _ _ _ _
      | exact ih5 _ _ _ _ _ _ _ _ _ _ _
      | exact ih6 _ _ _ _ _ _ _ _ _ _ _
      | exact network_Forward.mono _ _ _ _ _
      | exact network_Valid.mono _ _ _
      | exact vmfleetlaw33_awake.mono _
      | exact vmfleetlaw33_frame.mono _ _
      | exact LeO.none _
      | refine LeO.ite ?_ ?_
      | refine LeO.bind ?_ (fun _ => ?_)
    · intro y0 y1 y2 y3 y4 y5 y6 y7 y8 y9 y10
      unfold vmfleetlaw33_SwitchLearns.j5
      repeat' first
      | (with_reducible exact ih0 _ _ _ _)
      | (with_reducible exact ih1 _ _ _ _ _ _ _)
      | (with_reducible exact ih2 _ _ _ _ _ _ _ _ _ _ _ _ _)
      | (with_reducible exact ih3 _ _ _ _ _ _ _ _ _ _ _ _)
      | (with_reducible exact ih4 _ _ _ _ _ _ _ _ _ _ _)
      | (with_reducible exact ih5 _ _ _ _ _ _ _ _ _ _ _)
      | (with_reducible exact ih6 _ _ _ _ _ _ _ _ _ _ _)
      | (with_reducible exact network_Forward.mono _ _ _ _ _)
      | (with_reducible exact network_Valid.mono _ _ _)
      | (with_reducible exact vmfleetlaw33_awake.mono _)
      | (with_reducible exact vmfleetlaw33_frame.mono _ _)
      | (with_reducible exact LeO.refl _)
      | (with_reducible exact LeO.none _)
      | (with_reducible refine LeO.ite ?_ ?_)
      | (with_reducible refine LeO.bind ?_ (fun _ => ?_))
      | exact ih0 _ _ _ _
      | exact ih1 _ _ _ _ _ _ _
      | exact ih2 _ _ _ _ _ _ _ _ _ _ _ _ _
      | exact ih3 _ _ _ _ _ _ _ _ _ _ _ _
      | exact ih4 _ _ _ _ _ _ _ _ _ _ _
      | exact ih5 _ _ _ _ _ _ _ _ _ _ _
      | exact ih6 _ _ _ _ _ _ _ _ _ _ _
      | exact network_Forward.mono _ _ _ _ _
      | exact network_Valid.mono _ _ _
      | exact vmfleetlaw33_awake.mono _
      | exact vmfleetlaw33_frame.mono _ _
      | exact LeO.none _
      | refine LeO.ite ?_ ?_
      | refine LeO.bind ?_ (fun _ => ?_)
    · intro y0 y1 y2 y3 y4 y5 y6 y7 y8 y9 y10
      unfold vmfleetlaw33_SwitchLearns.l3
      repeat' first
      | (with_reducible exact ih0 _ _ _ _)
      | (with_reducible exact ih1 _ _ _ _ _ _ _)
      | (with_reducible exact ih2 _ _ _ _ _ _ _ _ _ _ _ _ _)
      | (with_reducible exact ih3 _ _ _ _ _ _ _ _ _ _ _ _)
      | (with_reducible exact ih4 _ _ _ _ _ _ _ _ _ _ _)
      | (with_reducible exact ih5 _ _ _ _ _ _ _ _ _ _ _)
      | (with_reducible exact ih6 _ _ _ _ _ _ _ _ _ _ _)
      | (with_reducible exact network_Forward.mono _ _ _ _ _)
      | (with_reducible exact network_Valid.mono _ _ _)
      | (with_reducible exact vmfleetlaw33_awake.mono _)
      | (with_reducible exact vmfleetlaw33_frame.mono _ _)
      | (with_reducible exact LeO.refl _)
      | (with_reducible exact LeO.none _)
      | (with_reducible refine LeO.ite ?_ ?_)
      | (with_reducible refine LeO.bind ?_ (fun _ => ?_))
      | exact ih0 _ _ _ _
      | exact ih1 _ _ _ _ _ _ _
      | exact ih2 _ _ _ _ _ _ _ _ _ _ _ _ _
      | exact ih3 _ _ _ _ _ _ _ _ _ _ _ _
      | exact ih4 _ _ _ _ _ _ _ _ _ _ _
      | exact ih5 _ _ _ _ _ _ _ _ _ _ _
      | exact ih6 _ _ _ _ _ _ _ _ _ _ _
      | exact network_Forward.mono _ _ _ _ _
      | exact network_Valid.mono _ _ _
      | exact vmfleetlaw33_awake.mono _
      | exact vmfleetlaw33_frame.mono _ _
      | exact LeO.none _
      | refine LeO.ite ?_ ?_
      | refine LeO.bind ?_ (fun _ => ?_)
theorem vmfleetlaw33_SwitchLearns.mono : ∀ a0 a1 a2 k, LeO (vmfleetlaw33_SwitchLearns.f k a0 a1 a2) (vmfleetlaw33_SwitchLearns.f (k + 1) a0 a1 a2) := by
  intro a0 a1 a2 k
  obtain ⟨ih0, ih1, ih2, ih3, ih4, ih5, ih6⟩ := vmfleetlaw33_SwitchLearns.mono_l k
  unfold vmfleetlaw33_SwitchLearns.f
  repeat' first
      | (with_reducible exact ih0 _ _ _ _)
      | (with_reducible exact ih1 _ _ _ _ _ _ _)
      | (with_reducible exact ih2 _ _ _ _ _ _ _ _ _ _ _ _ _)
      | (with_reducible exact ih3 _ _ _ _ _ _ _ _ _ _ _ _)
      | (with_reducible exact ih4 _ _ _ _ _ _ _ _ _ _ _)
      | (with_reducible exact ih5 _ _ _ _ _ _ _ _ _ _ _)
      | (with_reducible exact ih6 _ _ _ _ _ _ _ _ _ _ _)
      | (with_reducible exact network_Forward.mono _ _ _ _ _)
      | (with_reducible exact network_Valid.mono _ _ _)
      | (with_reducible exact vmfleetlaw33_awake.mono _)
      | (with_reducible exact vmfleetlaw33_frame.mono _ _)
      | (with_reducible exact LeO.refl _)
      | (with_reducible exact LeO.none _)
      | (with_reducible refine LeO.ite ?_ ?_)
      | (with_reducible refine LeO.bind ?_ (fun _ => ?_))
      | exact ih0 _ _ _ _
      | exact ih1 _ _ _ _ _ _ _
      | exact ih2 _ _ _ _ _ _ _ _ _ _ _ _ _
      | exact ih3 _ _ _ _ _ _ _ _ _ _ _ _
      | exact ih4 _ _ _ _ _ _ _ _ _ _ _
      | exact ih5 _ _ _ _ _ _ _ _ _ _ _
      | exact ih6 _ _ _ _ _ _ _ _ _ _ _
      | exact network_Forward.mono _ _ _ _ _
      | exact network_Valid.mono _ _ _
      | exact vmfleetlaw33_awake.mono _
      | exact vmfleetlaw33_frame.mono _ _
      | exact LeO.none _
      | refine LeO.ite ?_ ?_
      | refine LeO.bind ?_ (fun _ => ?_)
set_option maxHeartbeats 8000000 in
set_option maxRecDepth 100000 in
theorem vmfleetlaw33_SwitchLearns.calls (k : Nat) (a0 : Int) (A1 : Option Addr) (c1 : Nat) (l1 : List Int) (A2 : Option Addr) (c2 : Nat) (l2 : List Int) (r : Bool) (w : World) (hr1 : Kd.C (Kd.int .i64) w A1 l1.length l1) (hc1 : l1.length ≤ c1) (hr2 : Kd.C (Kd.int .i64) w A2 l2.length l2) (hc2 : l2.length ≤ c2) (h : vmfleetlaw33_SwitchLearns.f k a0 l1 l2 = some r) :
    Calls Try.prog 3 #[.int .i64 a0, .slice A1 l1.length c1, .slice A2 l2.length c2] w fun e w' => e = .returned (.bool r) ∧ Below w.heap.size w w' := by
  have hu26 := Try.underlying26
  have hu35 := Try.underlying35
  have HR1 := Aside0.mk hr1
  have HC1 := Aside0.mk hc1
  clear hr1 hc1
  have HR2 := Aside0.mk hr2
  have HC2 := Aside0.mk hc2
  clear hr2 hc2
  have HB := Aside0.mk (Below.refl w.heap.size w)
  have H : (if a0 < 1 then (vmfleetlaw33_SwitchLearns.j0 k a0 l1 l2 true) else (if a0 > 8 then (vmfleetlaw33_SwitchLearns.j0 k a0 l1 l2 true) else (if (l1.length : Int) > 60 then (vmfleetlaw33_SwitchLearns.j0 k a0 l1 l2 true) else (vmfleetlaw33_SwitchLearns.j0 k a0 l1 l2 (decide ((l2.length : Int) < (l1.length : Int))))))) = some r := h
  clear h
  have HC4 := Aside0.mk H
  clear H
  go_enter Try.func3, Try.ntmps3
  go_upto_region 1 with (fail)
  repeat (go_quiet (fail); go_upto_region 1 with (fail))
  go_cut [40] (fun v40 wc => ∃ (kq : Nat) (x40_3 : Bool), v40 = .bool x40_3 ∧ Aside0 (vmfleetlaw33_SwitchLearns.j0 kq a0 l1 l2 x40_3 = some r) ∧ Aside0 (kq ≤ k) ∧ Aside0 (Below w.heap.size w wc))
  case first =>
    have H := HC4.out
    clear HC4
    by_cases c5 : a0 < 1
    · rw [if_pos c5] at H
      have c5b0 : decide (a0 < 1) = true := decide_eq_true c5
      clear c5
      (first | rw [c5b0] | (simp only [i64_w, i32_w]; rw [c5b0]) | skip)
      have H' := Aside0.mk H
      clear H
      go_wp2
      repeat (go_quiet (fail); try go_wp2)
      go_meet
      case rel => exact ⟨_, (true), (by first | rfl | (simp; done) | (simp [*]; done)), H', ⟨by first | omega | exact Nat.le_refl _⟩, ⟨by repeat (first | (with_reducible first | exact HB.out | apply below_alloc | apply pw_below_drewN | apply below_drew1) | exact HB.out)⟩⟩
    · rw [if_neg c5] at H
      have c5b0 : decide (a0 < 1) = false := decide_eq_false c5
      clear c5
      (first | rw [c5b0] | (simp only [i64_w, i32_w]; rw [c5b0]) | skip)
      by_cases c6 : a0 > 8
      · rw [if_pos c6] at H
        have c6b0 : decide (8 < a0) = true := decide_eq_true c6
        clear c6
        have H' := Aside0.mk H
        clear H
        go_wp2
        repeat (go_quiet (fail); try go_wp2)
        go_meet
        case rel => exact ⟨_, (true), (by first | rfl | (simp; done) | (simp [*]; done)), H', ⟨by first | omega | exact Nat.le_refl _⟩, ⟨by repeat (first | (with_reducible first | exact HB.out | apply below_alloc | apply pw_below_drewN | apply below_drew1) | exact HB.out)⟩⟩
      · rw [if_neg c6] at H
        have c6b0 : decide (8 < a0) = false := decide_eq_false c6
        clear c6
        by_cases c7 : (l1.length : Int) > 60
        · rw [if_pos c7] at H
          have c7b0 : decide (60 < (l1.length : Int)) = true := decide_eq_true c7
          have c7b1 : decide (60 < l1.length) = true := decide_eq_true (by omega)
          clear c7
          have H' := Aside0.mk H
          clear H
          go_wp2
          repeat (go_quiet (fail); try go_wp2)
          go_meet
          case rel => exact ⟨_, (true), (by first | rfl | (simp; done) | (simp [*]; done)), H', ⟨by first | omega | exact Nat.le_refl _⟩, ⟨by repeat (first | (with_reducible first | exact HB.out | apply below_alloc | apply pw_below_drewN | apply below_drew1) | exact HB.out)⟩⟩
        · rw [if_neg c7] at H
          have c7b0 : decide (60 < (l1.length : Int)) = false := decide_eq_false c7
          have c7b1 : decide (60 < l1.length) = false := decide_eq_false (by omega)
          clear c7
          have H' := Aside0.mk H
          clear H
          go_wp2
          repeat (go_quiet (fail); try go_wp2)
          go_meet
          case rel => exact ⟨_, (decide ((l2.length : Int) < (l1.length : Int))), (by first | rfl | (simp; done) | (simp [*]; done)), H', ⟨by first | omega | exact Nat.le_refl _⟩, ⟨by repeat (first | (with_reducible first | exact HB.out | apply below_alloc | apply pw_below_drewN | apply below_drew1) | exact HB.out)⟩⟩
  case rest =>
    clear HC4
    try clear c1
    try clear c2
    try clear p2
    try clear c3
    try clear c5
    try clear c5b0
    try clear c6
    try clear c6b0
    try clear c7
    try clear c7b0
    try clear c7b1
    obtain ⟨kq, x40_3, rfl, HA, HJ3, HB⟩ := hcut
    cases kq with
    | zero => exact absurd HA.out (by simp [vmfleetlaw33_SwitchLearns.j0])
    | succ kj3 =>
      have H := HA.out
      clear HA
      simp only [vmfleetlaw33_SwitchLearns.j0] at H
      by_cases c8 : x40_3 = true
      · subst c8
        have H1 : ((vmfleetlaw33_awake.f kj3).bind fun t212 => (some t212)) = some r := by rw [if_pos rfl] at H; exact H
        clear H
        have H := H1
        clear H1
        replace H := Option.bind_eq_some_iff.mp H
        obtain ⟨t212, A90, H⟩ := H
        replace H : (some t212) = some r := H
        have A9 := Aside0.mk A90
        clear A90
        obtain rfl := Option.some.inj H
        go_wp2_with (first | (go_at_call 5; (with_reducible refine (vmfleetlaw33_awake.calls kj3  t212 _ A9.out).mono ?_); rintro e w10 ⟨rfl, hb⟩; have n0_ := Aside0.mk (below_step (by repeat (first | (with_reducible first | exact HB.out | apply below_alloc | apply pw_below_drewN | apply below_drew1) | exact HB.out)) hb); clear HB; have HB := n0_; clear n0_; (try clear hb); (try clear hb2); (try clear hk); (try clear hi)))
        repeat (go_quiet (first | (go_at_call 5; (with_reducible refine (vmfleetlaw33_awake.calls kj3  t212 _ A9.out).mono ?_); rintro e w10 ⟨rfl, hb⟩; have n0_ := Aside0.mk (below_step (by repeat (first | (with_reducible first | exact HB.out | apply below_alloc | apply pw_below_drewN | apply below_drew1) | exact HB.out)) hb); clear HB; have HB := n0_; clear n0_; (try clear hb); (try clear hb2); (try clear hk); (try clear hi))); try go_wp2_with (first | (go_at_call 5; (with_reducible refine (vmfleetlaw33_awake.calls kj3  t212 _ A9.out).mono ?_); rintro e w10 ⟨rfl, hb⟩; have n0_ := Aside0.mk (below_step (by repeat (first | (with_reducible first | exact HB.out | apply below_alloc | apply pw_below_drewN | apply below_drew1) | exact HB.out)) hb); clear HB; have HB := n0_; clear n0_; (try clear hb); (try clear hb2); (try clear hk); (try clear hi))))
        go_ret
        exact ⟨by first | rfl | (simp [errW_none, errW_some] <;> rfl) | (simp [*, errW_none, errW_some] <;> rfl), by repeat (first | (with_reducible first | exact HB.out | apply below_alloc | apply pw_below_drewN | apply below_drew1) | exact HB.out)⟩
      · replace c8 := Bool.eq_false_iff.mpr c8
        subst c8
        have H1 : ((network_New.f a0).bind fun bt213 => (if bt213.2.2 = true then (vmfleetlaw33_SwitchLearns.l0 kj3 a0 l1 l2 ([] : List (S35)) 0 bt213.1 bt213.2.1) else (some false))) = some r := by rw [if_neg (show ¬ (false = true) by decide)] at H; exact H
        clear H
        have H := H1
        clear H1
        replace H := Option.bind_eq_some_iff.mp H
        obtain ⟨⟨t213, t214, t217⟩, A110, H⟩ := H
        replace H : (if t217 = true then (vmfleetlaw33_SwitchLearns.l0 kj3 a0 l1 l2 ([] : List (S35)) 0 t213 t214) else (some false)) = some r := H
        have A11 := Aside0.mk A110
        clear A110
        by_cases c12 : t217 = true
        · subst c12
          have H1 : (vmfleetlaw33_SwitchLearns.l0 kj3 a0 l1 l2 ([] : List (S35)) 0 t213 t214) = some r := by rw [if_pos rfl] at H; exact H
          clear H
          have H := H1
          clear H1
          have H' := Aside0.mk H
          clear H
          go_wp2_with (first | (go_at_call 6; (with_reducible refine (network_New.calls a0 t213 t214 true _ A11.out).mono ?_); rintro e w13 ⟨v215, rfl, ho0, hb⟩; have n0_ := Aside0.mk (Kd.R_lower ho0 (below_size (by repeat (first | (with_reducible first | exact HB.out | apply below_alloc | apply pw_below_drewN | apply below_drew1) | exact HB.out)))); have n1_ := Aside0.mk (below_step (by repeat (first | (with_reducible first | exact HB.out | apply below_alloc | apply pw_below_drewN | apply below_drew1) | exact HB.out)) hb); clear HB; have HO216 := n0_; have HB := n1_; clear n0_ n1_; (try clear hb); (try clear hb2); (try clear hk); (try clear hi); (try clear ho0)) | ((with_reducible refine gate_dst (N := 7) rfl ?_); (try (refine gate_guard (by rfl) ?_; dsimp only)); refine box_event ?hg (N := 7) ?hd (cs := #[.int .i64 0, .slice none 0 0]) (t := 26) ?hr ?_; (case hd => rfl); (case hg => rfl); (case hr => first | (go_simp; done) | (go_simp; rfl)); intro gb218 hg w14 hbox hb; have n0_ := Aside0.mk (Kd.R_below (by (with_reducible repeat (first | apply Kd.R_alloc | apply Kd.R_drewN | apply Kd.R_drew)); exact HO216.out) hb); have n1_ := Aside0.mk (below_step (by repeat (first | (with_reducible first | exact HB.out | apply below_alloc | apply pw_below_drewN | apply below_drew1) | exact HB.out)) hb); have n2_ := Aside0.mk (hbox); have n3_ := Aside0.mk ((by rw [hg]; exact (below_size (by repeat (first | (with_reducible first | exact HB.out | apply below_alloc | apply pw_below_drewN | apply below_drew1) | exact HB.out))) : w.heap.size ≤ gb218)); have n4_ := Aside0.mk ((by rw [hg]; exact (below_size (by repeat (first | (with_reducible first | exact HB.out | apply below_alloc | apply pw_below_drewN | apply below_drew1) | exact HB.out))) : w.heap.size ≤ gb218)); clear HO216; clear HB; have HO216 := n0_; have HB := n1_; have BK218 := n2_; have GW218 := n3_; have GE218 := n4_; clear n0_ n1_ n2_ n3_ n4_; clear hb hbox hg; have hcz15_0 : w14.cell? ⟨gb218, 0, none⟩ = some (.int .i64 0) := (blk_cell BK218.out 0).trans rfl; have hcz15_1 : w14.cell? ⟨gb218, 1, none⟩ = some (.slice none 0 0) := (blk_cell BK218.out 1).trans rfl; have hfz15_0 := blk_frozen BK218.out 0; have hfz15_1 := blk_frozen BK218.out 1; obtain ⟨Ao16, co16, eo16⟩ := Kd.R_slice HO216.out; subst eo16))
          repeat (go_quiet (first | (go_at_call 6; (with_reducible refine (network_New.calls a0 t213 t214 true _ A11.out).mono ?_); rintro e w13 ⟨v215, rfl, ho0, hb⟩; have n0_ := Aside0.mk (Kd.R_lower ho0 (below_size (by repeat (first | (with_reducible first | exact HB.out | apply below_alloc | apply pw_below_drewN | apply below_drew1) | exact HB.out)))); have n1_ := Aside0.mk (below_step (by repeat (first | (with_reducible first | exact HB.out | apply below_alloc | apply pw_below_drewN | apply below_drew1) | exact HB.out)) hb); clear HB; have HO216 := n0_; have HB := n1_; clear n0_ n1_; (try clear hb); (try clear hb2); (try clear hk); (try clear hi); (try clear ho0)) | ((with_reducible refine gate_dst (N := 7) rfl ?_); (try (refine gate_guard (by rfl) ?_; dsimp only)); refine box_event ?hg (N := 7) ?hd (cs := #[.int .i64 0, .slice none 0 0]) (t := 26) ?hr ?_; (case hd => rfl); (case hg => rfl); (case hr => first | (go_simp; done) | (go_simp; rfl)); intro gb218 hg w14 hbox hb; have n0_ := Aside0.mk (Kd.R_below (by (with_reducible repeat (first | apply Kd.R_alloc | apply Kd.R_drewN | apply Kd.R_drew)); exact HO216.out) hb); have n1_ := Aside0.mk (below_step (by repeat (first | (with_reducible first | exact HB.out | apply below_alloc | apply pw_below_drewN | apply below_drew1) | exact HB.out)) hb); have n2_ := Aside0.mk (hbox); have n3_ := Aside0.mk ((by rw [hg]; exact (below_size (by repeat (first | (with_reducible first | exact HB.out | apply below_alloc | apply pw_below_drewN | apply below_drew1) | exact HB.out))) : w.heap.size ≤ gb218)); have n4_ := Aside0.mk ((by rw [hg]; exact (below_size (by repeat (first | (with_reducible first | exact HB.out | apply below_alloc | apply pw_below_drewN | apply below_drew1) | exact HB.out))) : w.heap.size ≤ gb218)); clear HO216; clear HB; have HO216 := n0_; have HB := n1_; have BK218 := n2_; have GW218 := n3_; have GE218 := n4_; clear n0_ n1_ n2_ n3_ n4_; clear hb hbox hg; have hcz15_0 : w14.cell? ⟨gb218, 0, none⟩ = some (.int .i64 0) := (blk_cell BK218.out 0).trans rfl; have hcz15_1 : w14.cell? ⟨gb218, 1, none⟩ = some (.slice none 0 0) := (blk_cell BK218.out 1).trans rfl; have hfz15_0 := blk_frozen BK218.out 0; have hfz15_1 := blk_frozen BK218.out 1; obtain ⟨Ao16, co16, eo16⟩ := Kd.R_slice HO216.out; subst eo16)); try go_wp2_with (first | (go_at_call 6; (with_reducible refine (network_New.calls a0 t213 t214 true _ A11.out).mono ?_); rintro e w13 ⟨v215, rfl, ho0, hb⟩; have n0_ := Aside0.mk (Kd.R_lower ho0 (below_size (by repeat (first | (with_reducible first | exact HB.out | apply below_alloc | apply pw_below_drewN | apply below_drew1) | exact HB.out)))); have n1_ := Aside0.mk (below_step (by repeat (first | (with_reducible first | exact HB.out | apply below_alloc | apply pw_below_drewN | apply below_drew1) | exact HB.out)) hb); clear HB; have HO216 := n0_; have HB := n1_; clear n0_ n1_; (try clear hb); (try clear hb2); (try clear hk); (try clear hi); (try clear ho0)) | ((with_reducible refine gate_dst (N := 7) rfl ?_); (try (refine gate_guard (by rfl) ?_; dsimp only)); refine box_event ?hg (N := 7) ?hd (cs := #[.int .i64 0, .slice none 0 0]) (t := 26) ?hr ?_; (case hd => rfl); (case hg => rfl); (case hr => first | (go_simp; done) | (go_simp; rfl)); intro gb218 hg w14 hbox hb; have n0_ := Aside0.mk (Kd.R_below (by (with_reducible repeat (first | apply Kd.R_alloc | apply Kd.R_drewN | apply Kd.R_drew)); exact HO216.out) hb); have n1_ := Aside0.mk (below_step (by repeat (first | (with_reducible first | exact HB.out | apply below_alloc | apply pw_below_drewN | apply below_drew1) | exact HB.out)) hb); have n2_ := Aside0.mk (hbox); have n3_ := Aside0.mk ((by rw [hg]; exact (below_size (by repeat (first | (with_reducible first | exact HB.out | apply below_alloc | apply pw_below_drewN | apply below_drew1) | exact HB.out))) : w.heap.size ≤ gb218)); have n4_ := Aside0.mk ((by rw [hg]; exact (below_size (by repeat (first | (with_reducible first | exact HB.out | apply below_alloc | apply pw_below_drewN | apply below_drew1) | exact HB.out))) : w.heap.size ≤ gb218)); clear HO216; clear HB; have HO216 := n0_; have HB := n1_; have BK218 := n2_; have GW218 := n3_; have GE218 := n4_; clear n0_ n1_ n2_ n3_ n4_; clear hb hbox hg; have hcz15_0 : w14.cell? ⟨gb218, 0, none⟩ = some (.int .i64 0) := (blk_cell BK218.out 0).trans rfl; have hcz15_1 : w14.cell? ⟨gb218, 1, none⟩ = some (.slice none 0 0) := (blk_cell BK218.out 1).trans rfl; have hfz15_0 := blk_frozen BK218.out 0; have hfz15_1 := blk_frozen BK218.out 1; obtain ⟨Ao16, co16, eo16⟩ := Kd.R_slice HO216.out; subst eo16)))
          go_loopg [9, 10] kj3 (fun kq v9 v10 w' => ∃ (x9_2 : List (S35)) (x10_2 : Int) (x219000_2 : Int) (x219001_2 : List (S35)) (u219001 : Value), v10 = .int .i64 x10_2 ∧ Aside0 (vmfleetlaw33_SwitchLearns.l0 kq a0 l1 l2 x9_2 x10_2 x219000_2 x219001_2 = some r) ∧ Aside0 (kq ≤ kj3) ∧ Aside0 (Kd.R k35 35 w' w.heap.size (fun k_ => some k_ ≠ (u219001 : Value).ownBlock) v9 x9_2) ∧ Aside0 (Kd.R k35 35 w' w.heap.size (fun k_ => some k_ ≠ (v9 : Value).ownBlock) u219001 x219001_2) ∧ Aside0 (w'.heap[gb218]? = some (.cells #[.int .i64 x219000_2, u219001] 26 (0, 0))) ∧ Aside0 (Below w.heap.size w w'))
          case atStart => exact ⟨(([] : List (S35))), (0), (t213), (t214), (.slice Ao16 t214.length co16), (by first | rfl | (simp; done) | (simp [*]; done)), H', ⟨Nat.le_refl _⟩, ⟨by first | exact Kd.R_nil _ _ _ _ _ | exact Kd.N_nil _ _ _ _ _ | exact Kd.V_nil _ _ _ _ _ | exact Kd.Q_nil _ _ _ _ _ | exact Kd.S_nil _ _ _ _ _⟩, ⟨by (with_reducible repeat (first | apply Kd.R_alloc | apply Kd.R_drewN | apply Kd.R_drew)); exact Kd.R_mono (Kd.R_far (p := ⟨gb218, 1, none⟩) (Kd.R_far (p := ⟨gb218, 0, none⟩) (Kd.R_types HO216.out BK218.out (by decide)) (fun _ hk => hk.2) (.int .i64 t213)) (fun _ hk => hk.2) (.slice Ao16 t214.length co16)) (fun _ hk => (by simp [Value.ownBlock]))⟩, ⟨by (with_reducible repeat (first | refine blk_drewN ?_ _ | refine blk_drew ?_ | refine blk_alloc ?_ _)); refine blk_put (cs := #[.int .i64 t213, .slice none 0 0]) ?_ 1 _ rfl; (with_reducible repeat (first | refine blk_drewN ?_ _ | refine blk_drew ?_ | refine blk_alloc ?_ _)); refine blk_put (cs := #[.int .i64 0, .slice none 0 0]) ?_ 0 _ rfl; (with_reducible repeat (first | refine blk_drewN ?_ _ | refine blk_drew ?_ | refine blk_alloc ?_ _)); exact BK218.out⟩, ⟨by repeat (first | (with_reducible first | exact HB.out | apply below_alloc | apply pw_below_drewN | apply below_drew1 | refine below_set ?_ GE218.out) | exact HB.out)⟩⟩
          case round => as_aux_lemma =>
            clear H'
            try clear c1
            try clear c2
            try clear p2
            try clear c3
            try clear c5
            try clear c5b0
            try clear c6
            try clear c6b0
            try clear c7
            try clear c7b0
            try clear c7b1
            try clear c8
            try clear c12
            try clear hcz15_0
            try clear hcz15_1
            try clear hfz15_0
            try clear hfz15_1
            try clear p2
            obtain ⟨x9_2, x10_2, x219000_2, x219001_2, u219001, rfl, HA, HK2, HO_9, HO_219001, BK218, HB⟩ := hrel
            cases gk with
            | zero => exact absurd HA.out (by simp [vmfleetlaw33_SwitchLearns.l0])
            | succ k2 =>
              have H := HA.out
              clear HA
              simp only [vmfleetlaw33_SwitchLearns.l0] at H
              by_cases c17 : x10_2 < (l1.length : Int)
              · rw [if_pos c17] at H
                have c17b0 : decide (x10_2 < (l1.length : Int)) = true := decide_eq_true c17
                clear c17
                by_cases c18 : 0 ≤ x10_2
                · rw [if_pos c18] at H
                  have c18b0 : decide (0 ≤ x10_2) = true := decide_eq_true c18
                  clear c18
                  replace H := Option.bind_eq_some_iff.mp H
                  obtain ⟨⟨t221, t222, t223⟩, A190, H⟩ := H
                  replace H : (if x10_2 < (l2.length : Int) then ((vmfleetmake_Round.f (rd l2 x10_2) a0).bind fun t225 => ((network_Forward.f k2 x219000_2 x219001_2 t225 t221).bind fun bt226 => (vmfleetlaw33_SwitchLearns.l1 k2 a0 l1 l2 x9_2 x10_2 t222 t223 t225 bt226.2.2 (([(⟨t223, t225⟩ : S35)] : List (S35))) 0 bt226.1 bt226.2.1))) else (none)) = some r := H
                  have A19 := Aside0.mk A190
                  clear A190
                  by_cases c20 : x10_2 < (l2.length : Int)
                  · rw [if_pos c20] at H
                    have c20b0 : decide (x10_2 < (l2.length : Int)) = true := decide_eq_true c20
                    clear c20
                    replace H := Option.bind_eq_some_iff.mp H
                    obtain ⟨t225, A210, H⟩ := H
                    replace H : ((network_Forward.f k2 x219000_2 x219001_2 t225 t221).bind fun bt226 => (vmfleetlaw33_SwitchLearns.l1 k2 a0 l1 l2 x9_2 x10_2 t222 t223 t225 bt226.2.2 (([(⟨t223, t225⟩ : S35)] : List (S35))) 0 bt226.1 bt226.2.1)) = some r := H
                    have A21 := Aside0.mk A210
                    clear A210
                    replace H := Option.bind_eq_some_iff.mp H
                    obtain ⟨⟨t226, t227, t230⟩, A220, H⟩ := H
                    replace H : (vmfleetlaw33_SwitchLearns.l1 k2 a0 l1 l2 x9_2 x10_2 t222 t223 t225 t230 (([(⟨t223, t225⟩ : S35)] : List (S35))) 0 t226 t227) = some r := H
                    have A22 := Aside0.mk A220
                    clear A220
                    obtain ⟨y234, hy234⟩ : ∃ y_ : List (S35), y_ = (([(⟨t223, t225⟩ : S35)] : List (S35))) := ⟨_, rfl⟩
                    replace H : (vmfleetlaw33_SwitchLearns.l1 k2 a0 l1 l2 x9_2 x10_2 t222 t223 t225 t230 y234 0 t226 t227) = some r := by first | (rw [hy234]; with_reducible exact H) | (have H2_ := (Option.bind_some _ _).symm.trans H; rw [hy234]; with_reducible exact H2_) | (have H2_ := (Option.bind_some _ _).symm.trans H; with_reducible exact H2_) | with_reducible exact H | (rw [hy234]; exact H) | exact H
                    have Ny234 := Aside0.mk hy234
                    clear hy234
                    have H' := Aside0.mk H
                    clear H
                    have p220 : 0 ≤ (x10_2 : Int) := of_decide_eq_true (by first | (with_reducible assumption) | assumption)
                    have q220 : x10_2 < (l1.length : Int) := of_decide_eq_true (by first | (with_reducible assumption) | assumption)
                    obtain ⟨ad220, e220, hx220_0⟩ := Kd.at_int HR1.out x10_2 p220 q220
                    cases e220
                    replace hx220_0 := (HB.out.cell (World.block_lt_of_cell? w _ hx220_0)).trans hx220_0
                    replace p220 := eq_true p220
                    replace q220 := eq_true q220
                    go_wp2_with (first | (go_at_call 7; (with_reducible refine (vmfleetlaw33_frame.calls k2 (rd l1 x10_2) t221 t222 t223 _ A19.out).mono ?_); rintro e w23 ⟨rfl, hb⟩; have n0_ := Aside0.mk (Kd.R_below (by (with_reducible repeat (first | apply Kd.R_alloc | apply Kd.R_drewN | apply Kd.R_drew)); exact HO_9.out) hb); have n1_ := Aside0.mk (Kd.R_below (by (with_reducible repeat (first | apply Kd.R_alloc | apply Kd.R_drewN | apply Kd.R_drew)); exact HO_219001.out) hb); have n2_ := Aside0.mk (blk_below (g := gb218) (o := .cells #[.int .i64 x219000_2, u219001] 26 (0, 0)) (by (with_reducible repeat (first | refine blk_drewN ?_ _ | refine blk_drew ?_ | refine blk_alloc ?_ _)); exact BK218.out) hb); have n3_ := Aside0.mk (below_step (by repeat (first | (with_reducible first | exact HB.out | apply below_alloc | apply pw_below_drewN | apply below_drew1 | refine below_set ?_ GE218.out) | exact HB.out)) hb); clear HO_9; clear HO_219001; clear BK218; clear HB; have HO_9 := n0_; have HO_219001 := n1_; have BK218 := n2_; have HB := n3_; clear n0_ n1_ n2_ n3_; (try clear hb); (try clear hb2); (try clear hk); (try clear hi); have p224 : 0 ≤ (x10_2 : Int) := of_decide_eq_true (by first | (with_reducible assumption) | assumption); have q224 : x10_2 < (l2.length : Int) := of_decide_eq_true (by first | (with_reducible assumption) | assumption); obtain ⟨ad224, e224, hx224_0⟩ := Kd.at_int HR2.out x10_2 p224 q224; cases e224; replace hx224_0 := (HB.out.cell (World.block_lt_of_cell? w _ hx224_0)).trans hx224_0; replace p224 := eq_true p224; replace q224 := eq_true q224) | (go_at_call 8; (with_reducible refine (vmfleetmake_Round.calls (rd l2 x10_2) a0 t225 _ A21.out).mono ?_); rintro e w' ⟨rfl, ⟨nd, rfl⟩⟩; (try first | exact ⟨rfl, _, World.drewN_drewN _ _ _⟩ | exact ⟨rfl, _, Eq.trans (World.drewN_drewN _ _ _) (congrArg (World.drewN _) (Nat.add_assoc _ _ _))⟩); have hcz24_0 : w23.cell? ⟨gb218, 0, none⟩ = some (.int .i64 x219000_2) := (blk_cell BK218.out 0).trans rfl; have hcz24_1 : w23.cell? ⟨gb218, 1, none⟩ = some (u219001) := (blk_cell BK218.out 1).trans rfl; have hfz24_0 := blk_frozen BK218.out 0; have hfz24_1 := blk_frozen BK218.out 1; obtain ⟨Ao25, co25, eo25⟩ := Kd.R_slice HO_219001.out; subst eo25) | (go_at_call 9; (with_reducible refine (network_Forward.calls k2 x219000_2 _ _ x219001_2 t225 t221 t226 t227 t230 _ ?side1 ?side2 A22.out).mono ?_); (case side1 => repeat (first | exact (Kd.R_reads' HO_219001.out).2.2 | (with_reducible refine Kd.C_alloc ?_ _) | (with_reducible refine Kd.C_drewN ?_ _) | (with_reducible refine Kd.C_drew ?_))); (case side2 => exact (Kd.R_reads' HO_219001.out).2.1); rintro e w26 ⟨v228, v231, rfl, ho0, ho1, hb⟩; have n0_ := Aside0.mk (Kd.R_elder' (by (with_reducible repeat (first | apply Kd.R_alloc | apply Kd.R_drewN | apply Kd.R_drew)); exact HO_9.out) (Kd.R_base ho0) hb); have n1_ := Aside0.mk (Kd.R_elder' (by (with_reducible repeat (first | apply Kd.R_alloc | apply Kd.R_drewN | apply Kd.R_drew)); exact HO_219001.out) (Kd.R_base ho0) hb); have n2_ := Aside0.mk (Kd.R_lower (Kd.R_new' (Kd.R_new' ho0 (Kd.R_lt (by (with_reducible repeat (first | apply Kd.R_alloc | apply Kd.R_drewN | apply Kd.R_drew)); exact HO_9.out))) (Kd.R_lt (by (with_reducible repeat (first | apply Kd.R_alloc | apply Kd.R_drewN | apply Kd.R_drew)); exact HO_219001.out))) (below_size (by repeat (first | (with_reducible first | exact HB.out | apply below_alloc | apply pw_below_drewN | apply below_drew1 | refine below_set ?_ GE218.out) | exact HB.out)))); have n3_ := Aside0.mk (Kd.R_lower ho1 (below_size (by repeat (first | (with_reducible first | exact HB.out | apply below_alloc | apply pw_below_drewN | apply below_drew1 | refine below_set ?_ GE218.out) | exact HB.out)))); have n4_ := Aside0.mk (blk_below (g := gb218) (o := .cells #[.int .i64 x219000_2, .slice Ao25 x219001_2.length co25] 26 (0, 0)) (by (with_reducible repeat (first | refine blk_drewN ?_ _ | refine blk_drew ?_ | refine blk_alloc ?_ _)); exact BK218.out) hb); have n5_ := Aside0.mk (below_step (by repeat (first | (with_reducible first | exact HB.out | apply below_alloc | apply pw_below_drewN | apply below_drew1 | refine below_set ?_ GE218.out) | exact HB.out)) hb); clear HO_9; clear HO_219001; clear BK218; clear HB; have HO_9 := n0_; have HO_219001 := n1_; have HO229 := n2_; have HO232 := n3_; have BK218 := n4_; have HB := n5_; clear n0_ n1_ n2_ n3_ n4_ n5_; (try clear hb); (try clear hb2); (try clear hk); (try clear hi); (try clear ho0); (try clear ho1)) | ((with_reducible refine gate_dst (N := 15) rfl ?_); (try (refine gate_guard (by rfl) ?_; dsimp only)); refine box_event ?hg (N := 15) ?hd (cs := #[.int .i64 0, .slice none 0 0]) (t := 26) ?hr ?_; (case hd => rfl); (case hg => rfl); (case hr => first | (go_simp; done) | (go_simp; rfl)); intro gb233 hg w27 hbox hb; have n0_ := Aside0.mk (Kd.R_below (by (with_reducible repeat (first | apply Kd.R_alloc | apply Kd.R_drewN | apply Kd.R_drew)); exact HO_9.out) hb); have n1_ := Aside0.mk (Kd.R_below (by (with_reducible repeat (first | apply Kd.R_alloc | apply Kd.R_drewN | apply Kd.R_drew)); exact HO_219001.out) hb); have n2_ := Aside0.mk (Kd.R_below (by (with_reducible repeat (first | apply Kd.R_alloc | apply Kd.R_drewN | apply Kd.R_drew)); exact HO229.out) hb); have n3_ := Aside0.mk (Kd.R_below (by (with_reducible repeat (first | apply Kd.R_alloc | apply Kd.R_drewN | apply Kd.R_drew)); exact HO232.out) hb); have n4_ := Aside0.mk (blk_below (g := gb218) (o := .cells #[.int .i64 x219000_2, .slice Ao25 x219001_2.length co25] 26 (0, 0)) (by (with_reducible repeat (first | refine blk_drewN ?_ _ | refine blk_drew ?_ | refine blk_alloc ?_ _)); exact BK218.out) hb); have n5_ := Aside0.mk (below_step (by repeat (first | (with_reducible first | exact HB.out | apply below_alloc | apply pw_below_drewN | apply below_drew1 | refine below_set ?_ GE218.out) | exact HB.out)) hb); have n6_ := Aside0.mk (hbox); have n7_ := Aside0.mk ((by rw [hg]; exact (below_size (by repeat (first | (with_reducible first | exact HB.out | apply below_alloc | apply pw_below_drewN | apply below_drew1 | refine below_set ?_ GE218.out) | exact HB.out))) : w.heap.size ≤ gb233)); have n8_ := Aside0.mk ((by rw [hg]; exact (below_size (by repeat (first | (with_reducible first | exact HB.out | apply below_alloc | apply pw_below_drewN | apply below_drew1 | refine below_set ?_ GE218.out) | exact HB.out))) : w.heap.size ≤ gb233)); have n9_ := Aside0.mk ((by rw [hg]; exact Nat.ne_of_lt (blk_lt (g := gb218) (o := .cells #[.int .i64 x219000_2, .slice Ao25 x219001_2.length co25] 26 (0, 0)) (by (with_reducible repeat (first | refine blk_drewN ?_ _ | refine blk_drew ?_ | refine blk_alloc ?_ _)); exact BK218.out)) : gb218 ≠ gb233)); have n10_ := Aside0.mk ((by rw [hg]; exact Nat.ne_of_gt (blk_lt (g := gb218) (o := .cells #[.int .i64 x219000_2, .slice Ao25 x219001_2.length co25] 26 (0, 0)) (by (with_reducible repeat (first | refine blk_drewN ?_ _ | refine blk_drew ?_ | refine blk_alloc ?_ _)); exact BK218.out)) : gb233 ≠ gb218)); clear HO_9; clear HO_219001; clear HO229; clear HO232; clear BK218; clear HB; have HO_9 := n0_; have HO_219001 := n1_; have HO229 := n2_; have HO232 := n3_; have BK218 := n4_; have HB := n5_; have BK233 := n6_; have GW233 := n7_; have GE233 := n8_; have NB218_233 := n9_; have NB233_218 := n10_; clear n0_ n1_ n2_ n3_ n4_ n5_ n6_ n7_ n8_ n9_ n10_; clear hb hbox hg; have hnb28 := NB233_218.out; have hnc28 := NB218_233.out; have hcz29_0 : w27.cell? ⟨gb233, 0, none⟩ = some (.int .i64 0) := (blk_cell BK233.out 0).trans rfl; have hcz29_1 : w27.cell? ⟨gb233, 1, none⟩ = some (.slice none 0 0) := (blk_cell BK233.out 1).trans rfl; have hfz29_0 := blk_frozen BK233.out 0; have hfz29_1 := blk_frozen BK233.out 1; obtain ⟨Ao30, co30, eo30⟩ := Kd.R_slice HO229.out; subst eo30) | ((with_reducible refine gate_dst (N := 80) rfl ?_); (try (refine gate_guard (by rfl) ?_; dsimp only)); refine Kd.R_lit k35 _ 35 ?hg (N := 80) ?hd (xs := ([(⟨t223, t225⟩ : S35)] : List (S35))) (inner := [.int .u8 t223, .int .i64 t225]) (ok := fun _ => True) (okp := fun _ => True) ?hr ?hp (fun _ hk => hk) trivial (Below.refl _ _) (Nat.le_refl _) (by simp) ?_; (case hd => rfl); (case hg => rfl); (case hr => first | (go_simp; done) | (go_simp; rfl)); (case hp => exact (Reps.c2 (show Kd.M k35 _ _ _ (⟨t223, t225⟩ : S35) [.int .u8 t223, .int .i64 t225] from (k35_mkM _ _ _ (⟨t223, t225⟩ : S35) )) (Reps.none _ _))); intro v235 w31 ho32 hb hg_ hnew_; clear hg_ hnew_; (first | rw [← Ny234.out] at ho32 | (simp only [Int.reduceToNat] at ho32; rw [← Ny234.out] at ho32)); have n0_ := Aside0.mk (Kd.R_elder' (by (with_reducible repeat (first | apply Kd.R_alloc | apply Kd.R_drewN | apply Kd.R_drew)); exact (Kd.R_mono (Kd.R_far (p := ⟨gb233, 1, none⟩) (Kd.R_far (p := ⟨gb233, 0, none⟩) (Kd.R_types HO_9.out BK233.out (by decide)) (fun _ hk => hk.2) (.int .i64 t226)) (fun _ hk => hk.2) (.slice Ao30 t227.length co30)) (fun _ h_ => h_.1))) (Kd.R_base ho32) hb); have n1_ := Aside0.mk (Kd.R_elder' (by (with_reducible repeat (first | apply Kd.R_alloc | apply Kd.R_drewN | apply Kd.R_drew)); exact (Kd.R_mono (Kd.R_far (p := ⟨gb233, 1, none⟩) (Kd.R_far (p := ⟨gb233, 0, none⟩) (Kd.R_types HO_219001.out BK233.out (by decide)) (fun _ hk => hk.2) (.int .i64 t226)) (fun _ hk => hk.2) (.slice Ao30 t227.length co30)) (fun _ h_ => h_.1))) (Kd.R_base ho32) hb); have n2_ := Aside0.mk (Kd.R_elder' (by (with_reducible repeat (first | apply Kd.R_alloc | apply Kd.R_drewN | apply Kd.R_drew)); exact (Kd.R_mono (Kd.R_far (p := ⟨gb233, 1, none⟩) (Kd.R_far (p := ⟨gb233, 0, none⟩) (Kd.R_types HO229.out BK233.out (by decide)) (fun _ hk => hk.2) (.int .i64 t226)) (fun _ hk => hk.2) (.slice Ao30 t227.length co30)) (fun _ h_ => h_.1))) (Kd.R_base ho32) hb); have n3_ := Aside0.mk (Kd.R_below (by (with_reducible repeat (first | apply Kd.R_alloc | apply Kd.R_drewN | apply Kd.R_drew)); exact (Kd.R_mono (Kd.R_far (p := ⟨gb233, 1, none⟩) (Kd.R_far (p := ⟨gb233, 0, none⟩) (Kd.R_types HO232.out BK233.out (by decide)) (fun _ hk => hk.2) (.int .i64 t226)) (fun _ hk => hk.2) (.slice Ao30 t227.length co30)) (fun _ h_ => h_.1))) hb); have n4_ := Aside0.mk (Kd.R_lower (Kd.R_new' (Kd.R_new' (Kd.R_new' ho32 (Kd.R_lt (by (with_reducible repeat (first | apply Kd.R_alloc | apply Kd.R_drewN | apply Kd.R_drew)); exact (Kd.R_mono (Kd.R_far (p := ⟨gb233, 1, none⟩) (Kd.R_far (p := ⟨gb233, 0, none⟩) (Kd.R_types HO_9.out BK233.out (by decide)) (fun _ hk => hk.2) (.int .i64 t226)) (fun _ hk => hk.2) (.slice Ao30 t227.length co30)) (fun _ h_ => h_.1))))) (Kd.R_lt (by (with_reducible repeat (first | apply Kd.R_alloc | apply Kd.R_drewN | apply Kd.R_drew)); exact (Kd.R_mono (Kd.R_far (p := ⟨gb233, 1, none⟩) (Kd.R_far (p := ⟨gb233, 0, none⟩) (Kd.R_types HO_219001.out BK233.out (by decide)) (fun _ hk => hk.2) (.int .i64 t226)) (fun _ hk => hk.2) (.slice Ao30 t227.length co30)) (fun _ h_ => h_.1))))) (Kd.R_lt (by (with_reducible repeat (first | apply Kd.R_alloc | apply Kd.R_drewN | apply Kd.R_drew)); exact (Kd.R_mono (Kd.R_far (p := ⟨gb233, 1, none⟩) (Kd.R_far (p := ⟨gb233, 0, none⟩) (Kd.R_types HO229.out BK233.out (by decide)) (fun _ hk => hk.2) (.int .i64 t226)) (fun _ hk => hk.2) (.slice Ao30 t227.length co30)) (fun _ h_ => h_.1))))) (below_size (by repeat (first | (with_reducible first | exact HB.out | apply below_alloc | apply pw_below_drewN | apply below_drew1 | refine below_set ?_ GE218.out | refine below_set ?_ GE233.out) | exact HB.out)))); have n5_ := Aside0.mk (blk_below (g := gb218) (o := .cells #[.int .i64 x219000_2, .slice Ao25 x219001_2.length co25] 26 (0, 0)) (by (with_reducible repeat (first | refine blk_drewN ?_ _ | refine blk_drew ?_ | refine blk_alloc ?_ _)); refine blk_far ?_ NB218_233.out _; (with_reducible repeat (first | refine blk_drewN ?_ _ | refine blk_drew ?_ | refine blk_alloc ?_ _)); refine blk_far ?_ NB218_233.out _; (with_reducible repeat (first | refine blk_drewN ?_ _ | refine blk_drew ?_ | refine blk_alloc ?_ _)); exact BK218.out) hb); have n6_ := Aside0.mk (blk_below (g := gb233) (o := .cells #[.int .i64 t226, .slice Ao30 t227.length co30] 26 (0, 0)) (by (with_reducible repeat (first | refine blk_drewN ?_ _ | refine blk_drew ?_ | refine blk_alloc ?_ _)); refine blk_put (cs := #[.int .i64 t226, .slice none 0 0]) ?_ 1 _ rfl; (with_reducible repeat (first | refine blk_drewN ?_ _ | refine blk_drew ?_ | refine blk_alloc ?_ _)); refine blk_put (cs := #[.int .i64 0, .slice none 0 0]) ?_ 0 _ rfl; (with_reducible repeat (first | refine blk_drewN ?_ _ | refine blk_drew ?_ | refine blk_alloc ?_ _)); exact BK233.out) hb); have n7_ := Aside0.mk (below_step (by repeat (first | (with_reducible first | exact HB.out | apply below_alloc | apply pw_below_drewN | apply below_drew1 | refine below_set ?_ GE218.out | refine below_set ?_ GE233.out) | exact HB.out)) hb); clear HO_9; clear HO_219001; clear HO229; clear HO232; clear BK218; clear BK233; clear HB; have HO_9 := n0_; have HO_219001 := n1_; have HO229 := n2_; have HO232 := n3_; have HO236 := n4_; have BK218 := n5_; have BK233 := n6_; have HB := n7_; clear n0_ n1_ n2_ n3_ n4_ n5_ n6_ n7_; clear hb ho32))
                    repeat (go_quiet (first | (go_at_call 7; (with_reducible refine (vmfleetlaw33_frame.calls k2 (rd l1 x10_2) t221 t222 t223 _ A19.out).mono ?_); rintro e w23 ⟨rfl, hb⟩; have n0_ := Aside0.mk (Kd.R_below (by (with_reducible repeat (first | apply Kd.R_alloc | apply Kd.R_drewN | apply Kd.R_drew)); exact HO_9.out) hb); have n1_ := Aside0.mk (Kd.R_below (by (with_reducible repeat (first | apply Kd.R_alloc | apply Kd.R_drewN | apply Kd.R_drew)); exact HO_219001.out) hb); have n2_ := Aside0.mk (blk_below (g := gb218) (o := .cells #[.int .i64 x219000_2, u219001] 26 (0, 0)) (by (with_reducible repeat (first | refine blk_drewN ?_ _ | refine blk_drew ?_ | refine blk_alloc ?_ _)); exact BK218.out) hb); have n3_ := Aside0.mk (below_step (by repeat (first | (with_reducible first | exact HB.out | apply below_alloc | apply pw_below_drewN | apply below_drew1 | refine below_set ?_ GE218.out) | exact HB.out)) hb); clear HO_9; clear HO_219001; clear BK218; clear HB; have HO_9 := n0_; have HO_219001 := n1_; have BK218 := n2_; have HB := n3_; clear n0_ n1_ n2_ n3_; (try clear hb); (try clear hb2); (try clear hk); (try clear hi); have p224 : 0 ≤ (x10_2 : Int) := of_decide_eq_true (by first | (with_reducible assumption) | assumption); have q224 : x10_2 < (l2.length : Int) := of_decide_eq_true (by first | (with_reducible assumption) | assumption); obtain ⟨ad224, e224, hx224_0⟩ := Kd.at_int HR2.out x10_2 p224 q224; cases e224; replace hx224_0 := (HB.out.cell (World.block_lt_of_cell? w _ hx224_0)).trans hx224_0; replace p224 := eq_true p224; replace q224 := eq_true q224) | (go_at_call 8; (with_reducible refine (vmfleetmake_Round.calls (rd l2 x10_2) a0 t225 _ A21.out).mono ?_); rintro e w' ⟨rfl, ⟨nd, rfl⟩⟩; (try first | exact ⟨rfl, _, World.drewN_drewN _ _ _⟩ | exact ⟨rfl, _, Eq.trans (World.drewN_drewN _ _ _) (congrArg (World.drewN _) (Nat.add_assoc _ _ _))⟩); have hcz24_0 : w23.cell? ⟨gb218, 0, none⟩ = some (.int .i64 x219000_2) := (blk_cell BK218.out 0).trans rfl; have hcz24_1 : w23.cell? ⟨gb218, 1, none⟩ = some (u219001) := (blk_cell BK218.out 1).trans rfl; have hfz24_0 := blk_frozen BK218.out 0; have hfz24_1 := blk_frozen BK218.out 1; obtain ⟨Ao25, co25, eo25⟩ := Kd.R_slice HO_219001.out; subst eo25) | (go_at_call 9; (with_reducible refine (network_Forward.calls k2 x219000_2 _ _ x219001_2 t225 t221 t226 t227 t230 _ ?side1 ?side2 A22.out).mono ?_); (case side1 => repeat (first | exact (Kd.R_reads' HO_219001.out).2.2 | (with_reducible refine Kd.C_alloc ?_ _) | (with_reducible refine Kd.C_drewN ?_ _) | (with_reducible refine Kd.C_drew ?_))); (case side2 => exact (Kd.R_reads' HO_219001.out).2.1); rintro e w26 ⟨v228, v231, rfl, ho0, ho1, hb⟩; have n0_ := Aside0.mk (Kd.R_elder' (by (with_reducible repeat (first | apply Kd.R_alloc | apply Kd.R_drewN | apply Kd.R_drew)); exact HO_9.out) (Kd.R_base ho0) hb); have n1_ := Aside0.mk (Kd.R_elder' (by (with_reducible repeat (first | apply Kd.R_alloc | apply Kd.R_drewN | apply Kd.R_drew)); exact HO_219001.out) (Kd.R_base ho0) hb); have n2_ := Aside0.mk (Kd.R_lower (Kd.R_new' (Kd.R_new' ho0 (Kd.R_lt (by (with_reducible repeat (first | apply Kd.R_alloc | apply Kd.R_drewN | apply Kd.R_drew)); exact HO_9.out))) (Kd.R_lt (by (with_reducible repeat (first | apply Kd.R_alloc | apply Kd.R_drewN | apply Kd.R_drew)); exact HO_219001.out))) (below_size (by repeat (first | (with_reducible first | exact HB.out | apply below_alloc | apply pw_below_drewN | apply below_drew1 | refine below_set ?_ GE218.out) | exact HB.out)))); have n3_ := Aside0.mk (Kd.R_lower ho1 (below_size (by repeat (first | (with_reducible first | exact HB.out | apply below_alloc | apply pw_below_drewN | apply below_drew1 | refine below_set ?_ GE218.out) | exact HB.out)))); have n4_ := Aside0.mk (blk_below (g := gb218) (o := .cells #[.int .i64 x219000_2, .slice Ao25 x219001_2.length co25] 26 (0, 0)) (by (with_reducible repeat (first | refine blk_drewN ?_ _ | refine blk_drew ?_ | refine blk_alloc ?_ _)); exact BK218.out) hb); have n5_ := Aside0.mk (below_step (by repeat (first | (with_reducible first | exact HB.out | apply below_alloc | apply pw_below_drewN | apply below_drew1 | refine below_set ?_ GE218.out) | exact HB.out)) hb); clear HO_9; clear HO_219001; clear BK218; clear HB; have HO_9 := n0_; have HO_219001 := n1_; have HO229 := n2_; have HO232 := n3_; have BK218 := n4_; have HB := n5_; clear n0_ n1_ n2_ n3_ n4_ n5_; (try clear hb); (try clear hb2); (try clear hk); (try clear hi); (try clear ho0); (try clear ho1)) | ((with_reducible refine gate_dst (N := 15) rfl ?_); (try (refine gate_guard (by rfl) ?_; dsimp only)); refine box_event ?hg (N := 15) ?hd (cs := #[.int .i64 0, .slice none 0 0]) (t := 26) ?hr ?_; (case hd => rfl); (case hg => rfl); (case hr => first | (go_simp; done) | (go_simp; rfl)); intro gb233 hg w27 hbox hb; have n0_ := Aside0.mk (Kd.R_below (by (with_reducible repeat (first | apply Kd.R_alloc | apply Kd.R_drewN | apply Kd.R_drew)); exact HO_9.out) hb); have n1_ := Aside0.mk (Kd.R_below (by (with_reducible repeat (first | apply Kd.R_alloc | apply Kd.R_drewN | apply Kd.R_drew)); exact HO_219001.out) hb); have n2_ := Aside0.mk (Kd.R_below (by (with_reducible repeat (first | apply Kd.R_alloc | apply Kd.R_drewN | apply Kd.R_drew)); exact HO229.out) hb); have n3_ := Aside0.mk (Kd.R_below (by (with_reducible repeat (first | apply Kd.R_alloc | apply Kd.R_drewN | apply Kd.R_drew)); exact HO232.out) hb); have n4_ := Aside0.mk (blk_below (g := gb218) (o := .cells #[.int .i64 x219000_2, .slice Ao25 x219001_2.length co25] 26 (0, 0)) (by (with_reducible repeat (first | refine blk_drewN ?_ _ | refine blk_drew ?_ | refine blk_alloc ?_ _)); exact BK218.out) hb); have n5_ := Aside0.mk (below_step (by repeat (first | (with_reducible first | exact HB.out | apply below_alloc | apply pw_below_drewN | apply below_drew1 | refine below_set ?_ GE218.out) | exact HB.out)) hb); have n6_ := Aside0.mk (hbox); have n7_ := Aside0.mk ((by rw [hg]; exact (below_size (by repeat (first | (with_reducible first | exact HB.out | apply below_alloc | apply pw_below_drewN | apply below_drew1 | refine below_set ?_ GE218.out) | exact HB.out))) : w.heap.size ≤ gb233)); have n8_ := Aside0.mk ((by rw [hg]; exact (below_size (by repeat (first | (with_reducible first | exact HB.out | apply below_alloc | apply pw_below_drewN | apply below_drew1 | refine below_set ?_ GE218.out) | exact HB.out))) : w.heap.size ≤ gb233)); have n9_ := Aside0.mk ((by rw [hg]; exact Nat.ne_of_lt (blk_lt (g := gb218) (o := .cells #[.int .i64 x219000_2, .slice Ao25 x219001_2.length co25] 26 (0, 0)) (by (with_reducible repeat (first | refine blk_drewN ?_ _ | refine blk_drew ?_ | refine blk_alloc ?_ _)); exact BK218.out)) : gb218 ≠ gb233)); have n10_ := Aside0.mk ((by rw [hg]; exact Nat.ne_of_gt (blk_lt (g := gb218) (o := .cells #[.int .i64 x219000_2, .slice Ao25 x219001_2.length co25] 26 (0, 0)) (by (with_reducible repeat (first | refine blk_drewN ?_ _ | refine blk_drew ?_ | refine blk_alloc ?_ _)); exact BK218.out)) : gb233 ≠ gb218)); clear HO_9; clear HO_219001; clear HO229; clear HO232; clear BK218; clear HB; have HO_9 := n0_; have HO_219001 := n1_; have HO229 := n2_; have HO232 := n3_; have BK218 := n4_; have HB := n5_; have BK233 := n6_; have GW233 := n7_; have GE233 := n8_; have NB218_233 := n9_; have NB233_218 := n10_; clear n0_ n1_ n2_ n3_ n4_ n5_ n6_ n7_ n8_ n9_ n10_; clear hb hbox hg; have hnb28 := NB233_218.out; have hnc28 := NB218_233.out; have hcz29_0 : w27.cell? ⟨gb233, 0, none⟩ = some (.int .i64 0) := (blk_cell BK233.out 0).trans rfl; have hcz29_1 : w27.cell? ⟨gb233, 1, none⟩ = some (.slice none 0 0) := (blk_cell BK233.out 1).trans rfl; have hfz29_0 := blk_frozen BK233.out 0; have hfz29_1 := blk_frozen BK233.out 1; obtain ⟨Ao30, co30, eo30⟩ := Kd.R_slice HO229.out; subst eo30) | ((with_reducible refine gate_dst (N := 80) rfl ?_); (try (refine gate_guard (by rfl) ?_; dsimp only)); refine Kd.R_lit k35 _ 35 ?hg (N := 80) ?hd (xs := ([(⟨t223, t225⟩ : S35)] : List (S35))) (inner := [.int .u8 t223, .int .i64 t225]) (ok := fun _ => True) (okp := fun _ => True) ?hr ?hp (fun _ hk => hk) trivial (Below.refl _ _) (Nat.le_refl _) (by simp) ?_; (case hd => rfl); (case hg => rfl); (case hr => first | (go_simp; done) | (go_simp; rfl)); (case hp => exact (Reps.c2 (show Kd.M k35 _ _ _ (⟨t223, t225⟩ : S35) [.int .u8 t223, .int .i64 t225] from (k35_mkM _ _ _ (⟨t223, t225⟩ : S35) )) (Reps.none _ _))); intro v235 w31 ho32 hb hg_ hnew_; clear hg_ hnew_; (first | rw [← Ny234.out] at ho32 | (simp only [Int.reduceToNat] at ho32; rw [← Ny234.out] at ho32)); have n0_ := Aside0.mk (Kd.R_elder' (by (with_reducible repeat (first | apply Kd.R_alloc | apply Kd.R_drewN | apply Kd.R_drew)); exact (Kd.R_mono (Kd.R_far (p := ⟨gb233, 1, none⟩) (Kd.R_far (p := ⟨gb233, 0, none⟩) (Kd.R_types HO_9.out BK233.out (by decide)) (fun _ hk => hk.2) (.int .i64 t226)) (fun _ hk => hk.2) (.slice Ao30 t227.length co30)) (fun _ h_ => h_.1))) (Kd.R_base ho32) hb); have n1_ := Aside0.mk (Kd.R_elder' (by (with_reducible repeat (first | apply Kd.R_alloc | apply Kd.R_drewN | apply Kd.R_drew)); exact (Kd.R_mono (Kd.R_far (p := ⟨gb233, 1, none⟩) (Kd.R_far (p := ⟨gb233, 0, none⟩) (Kd.R_types HO_219001.out BK233.out (by decide)) (fun _ hk => hk.2) (.int .i64 t226)) (fun _ hk => hk.2) (.slice Ao30 t227.length co30)) (fun _ h_ => h_.1))) (Kd.R_base ho32) hb); have n2_ := Aside0.mk (Kd.R_elder' (by (with_reducible repeat (first | apply Kd.R_alloc | apply Kd.R_drewN | apply Kd.R_drew)); exact (Kd.R_mono (Kd.R_far (p := ⟨gb233, 1, none⟩) (Kd.R_far (p := ⟨gb233, 0, none⟩) (Kd.R_types HO229.out BK233.out (by decide)) (fun _ hk => hk.2) (.int .i64 t226)) (fun _ hk => hk.2) (.slice Ao30 t227.length co30)) (fun _ h_ => h_.1))) (Kd.R_base ho32) hb); have n3_ := Aside0.mk (Kd.R_below (by (with_reducible repeat (first | apply Kd.R_alloc | apply Kd.R_drewN | apply Kd.R_drew)); exact (Kd.R_mono (Kd.R_far (p := ⟨gb233, 1, none⟩) (Kd.R_far (p := ⟨gb233, 0, none⟩) (Kd.R_types HO232.out BK233.out (by decide)) (fun _ hk => hk.2) (.int .i64 t226)) (fun _ hk => hk.2) (.slice Ao30 t227.length co30)) (fun _ h_ => h_.1))) hb); have n4_ := Aside0.mk (Kd.R_lower (Kd.R_new' (Kd.R_new' (Kd.R_new' ho32 (Kd.R_lt (by (with_reducible repeat (first | apply Kd.R_alloc | apply Kd.R_drewN | apply Kd.R_drew)); exact (Kd.R_mono (Kd.R_far (p := ⟨gb233, 1, none⟩) (Kd.R_far (p := ⟨gb233, 0, none⟩) (Kd.R_types HO_9.out BK233.out (by decide)) (fun _ hk => hk.2) (.int .i64 t226)) (fun _ hk => hk.2) (.slice Ao30 t227.length co30)) (fun _ h_ => h_.1))))) (Kd.R_lt (by (with_reducible repeat (first | apply Kd.R_alloc | apply Kd.R_drewN | apply Kd.R_drew)); exact (Kd.R_mono (Kd.R_far (p := ⟨gb233, 1, none⟩) (Kd.R_far (p := ⟨gb233, 0, none⟩) (Kd.R_types HO_219001.out BK233.out (by decide)) (fun _ hk => hk.2) (.int .i64 t226)) (fun _ hk => hk.2) (.slice Ao30 t227.length co30)) (fun _ h_ => h_.1))))) (Kd.R_lt (by (with_reducible repeat (first | apply Kd.R_alloc | apply Kd.R_drewN | apply Kd.R_drew)); exact (Kd.R_mono (Kd.R_far (p := ⟨gb233, 1, none⟩) (Kd.R_far (p := ⟨gb233, 0, none⟩) (Kd.R_types HO229.out BK233.out (by decide)) (fun _ hk => hk.2) (.int .i64 t226)) (fun _ hk => hk.2) (.slice Ao30 t227.length co30)) (fun _ h_ => h_.1))))) (below_size (by repeat (first | (with_reducible first | exact HB.out | apply below_alloc | apply pw_below_drewN | apply below_drew1 | refine below_set ?_ GE218.out | refine below_set ?_ GE233.out) | exact HB.out)))); have n5_ := Aside0.mk (blk_below (g := gb218) (o := .cells #[.int .i64 x219000_2, .slice Ao25 x219001_2.length co25] 26 (0, 0)) (by (with_reducible repeat (first | refine blk_drewN ?_ _ | refine blk_drew ?_ | refine blk_alloc ?_ _)); refine blk_far ?_ NB218_233.out _; (with_reducible repeat (first | refine blk_drewN ?_ _ | refine blk_drew ?_ | refine blk_alloc ?_ _)); refine blk_far ?_ NB218_233.out _; (with_reducible repeat (first | refine blk_drewN ?_ _ | refine blk_drew ?_ | refine blk_alloc ?_ _)); exact BK218.out) hb); have n6_ := Aside0.mk (blk_below (g := gb233) (o := .cells #[.int .i64 t226, .slice Ao30 t227.length co30] 26 (0, 0)) (by (with_reducible repeat (first | refine blk_drewN ?_ _ | refine blk_drew ?_ | refine blk_alloc ?_ _)); refine blk_put (cs := #[.int .i64 t226, .slice none 0 0]) ?_ 1 _ rfl; (with_reducible repeat (first | refine blk_drewN ?_ _ | refine blk_drew ?_ | refine blk_alloc ?_ _)); refine blk_put (cs := #[.int .i64 0, .slice none 0 0]) ?_ 0 _ rfl; (with_reducible repeat (first | refine blk_drewN ?_ _ | refine blk_drew ?_ | refine blk_alloc ?_ _)); exact BK233.out) hb); have n7_ := Aside0.mk (below_step (by repeat (first | (with_reducible first | exact HB.out | apply below_alloc | apply pw_below_drewN | apply below_drew1 | refine below_set ?_ GE218.out | refine below_set ?_ GE233.out) | exact HB.out)) hb); clear HO_9; clear HO_219001; clear HO229; clear HO232; clear BK218; clear BK233; clear HB; have HO_9 := n0_; have HO_219001 := n1_; have HO229 := n2_; have HO232 := n3_; have HO236 := n4_; have BK218 := n5_; have BK233 := n6_; have HB := n7_; clear n0_ n1_ n2_ n3_ n4_ n5_ n6_ n7_; clear hb ho32)); try go_wp2_with (first | (go_at_call 7; (with_reducible refine (vmfleetlaw33_frame.calls k2 (rd l1 x10_2) t221 t222 t223 _ A19.out).mono ?_); rintro e w23 ⟨rfl, hb⟩; have n0_ := Aside0.mk (Kd.R_below (by (with_reducible repeat (first | apply Kd.R_alloc | apply Kd.R_drewN | apply Kd.R_drew)); exact HO_9.out) hb); have n1_ := Aside0.mk (Kd.R_below (by (with_reducible repeat (first | apply Kd.R_alloc | apply Kd.R_drewN | apply Kd.R_drew)); exact HO_219001.out) hb); have n2_ := Aside0.mk (blk_below (g := gb218) (o := .cells #[.int .i64 x219000_2, u219001] 26 (0, 0)) (by (with_reducible repeat (first | refine blk_drewN ?_ _ | refine blk_drew ?_ | refine blk_alloc ?_ _)); exact BK218.out) hb); have n3_ := Aside0.mk (below_step (by repeat (first | (with_reducible first | exact HB.out | apply below_alloc | apply pw_below_drewN | apply below_drew1 | refine below_set ?_ GE218.out) | exact HB.out)) hb); clear HO_9; clear HO_219001; clear BK218; clear HB; have HO_9 := n0_; have HO_219001 := n1_; have BK218 := n2_; have HB := n3_; clear n0_ n1_ n2_ n3_; (try clear hb); (try clear hb2); (try clear hk); (try clear hi); have p224 : 0 ≤ (x10_2 : Int) := of_decide_eq_true (by first | (with_reducible assumption) | assumption); have q224 : x10_2 < (l2.length : Int) := of_decide_eq_true (by first | (with_reducible assumption) | assumption); obtain ⟨ad224, e224, hx224_0⟩ := Kd.at_int HR2.out x10_2 p224 q224; cases e224; replace hx224_0 := (HB.out.cell (World.block_lt_of_cell? w _ hx224_0)).trans hx224_0; replace p224 := eq_true p224; replace q224 := eq_true q224) | (go_at_call 8; (with_reducible refine (vmfleetmake_Round.calls (rd l2 x10_2) a0 t225 _ A21.out).mono ?_); rintro e w' ⟨rfl, ⟨nd, rfl⟩⟩; (try first | exact ⟨rfl, _, World.drewN_drewN _ _ _⟩ | exact ⟨rfl, _, Eq.trans (World.drewN_drewN _ _ _) (congrArg (World.drewN _) (Nat.add_assoc _ _ _))⟩); have hcz24_0 : w23.cell? ⟨gb218, 0, none⟩ = some (.int .i64 x219000_2) := (blk_cell BK218.out 0).trans rfl; have hcz24_1 : w23.cell? ⟨gb218, 1, none⟩ = some (u219001) := (blk_cell BK218.out 1).trans rfl; have hfz24_0 := blk_frozen BK218.out 0; have hfz24_1 := blk_frozen BK218.out 1; obtain ⟨Ao25, co25, eo25⟩ := Kd.R_slice HO_219001.out; subst eo25) | (go_at_call 9; (with_reducible refine (network_Forward.calls k2 x219000_2 _ _ x219001_2 t225 t221 t226 t227 t230 _ ?side1 ?side2 A22.out).mono ?_); (case side1 => repeat (first | exact (Kd.R_reads' HO_219001.out).2.2 | (with_reducible refine Kd.C_alloc ?_ _) | (with_reducible refine Kd.C_drewN ?_ _) | (with_reducible refine Kd.C_drew ?_))); (case side2 => exact (Kd.R_reads' HO_219001.out).2.1); rintro e w26 ⟨v228, v231, rfl, ho0, ho1, hb⟩; have n0_ := Aside0.mk (Kd.R_elder' (by (with_reducible repeat (first | apply Kd.R_alloc | apply Kd.R_drewN | apply Kd.R_drew)); exact HO_9.out) (Kd.R_base ho0) hb); have n1_ := Aside0.mk (Kd.R_elder' (by (with_reducible repeat (first | apply Kd.R_alloc | apply Kd.R_drewN | apply Kd.R_drew)); exact HO_219001.out) (Kd.R_base ho0) hb); have n2_ := Aside0.mk (Kd.R_lower (Kd.R_new' (Kd.R_new' ho0 (Kd.R_lt (by (with_reducible repeat (first | apply Kd.R_alloc | apply Kd.R_drewN | apply Kd.R_drew)); exact HO_9.out))) (Kd.R_lt (by (with_reducible repeat (first | apply Kd.R_alloc | apply Kd.R_drewN | apply Kd.R_drew)); exact HO_219001.out))) (below_size (by repeat (first | (with_reducible first | exact HB.out | apply below_alloc | apply pw_below_drewN | apply below_drew1 | refine below_set ?_ GE218.out) | exact HB.out)))); have n3_ := Aside0.mk (Kd.R_lower ho1 (below_size (by repeat (first | (with_reducible first | exact HB.out | apply below_alloc | apply pw_below_drewN | apply below_drew1 | refine below_set ?_ GE218.out) | exact HB.out)))); have n4_ := Aside0.mk (blk_below (g := gb218) (o := .cells #[.int .i64 x219000_2, .slice Ao25 x219001_2.length co25] 26 (0, 0)) (by (with_reducible repeat (first | refine blk_drewN ?_ _ | refine blk_drew ?_ | refine blk_alloc ?_ _)); exact BK218.out) hb); have n5_ := Aside0.mk (below_step (by repeat (first | (with_reducible first | exact HB.out | apply below_alloc | apply pw_below_drewN | apply below_drew1 | refine below_set ?_ GE218.out) | exact HB.out)) hb); clear HO_9; clear HO_219001; clear BK218; clear HB; have HO_9 := n0_; have HO_219001 := n1_; have HO229 := n2_; have HO232 := n3_; have BK218 := n4_; have HB := n5_; clear n0_ n1_ n2_ n3_ n4_ n5_; (try clear hb); (try clear hb2); (try clear hk); (try clear hi); (try clear ho0); (try clear ho1)) | ((with_reducible refine gate_dst (N := 15) rfl ?_); (try (refine gate_guard (by rfl) ?_; dsimp only)); refine box_event ?hg (N := 15) ?hd (cs := #[.int .i64 0, .slice none 0 0]) (t := 26) ?hr ?_; (case hd => rfl); (case hg => rfl); (case hr => first | (go_simp; done) | (go_simp; rfl)); intro gb233 hg w27 hbox hb; have n0_ := Aside0.mk (Kd.R_below (by (with_reducible repeat (first | apply Kd.R_alloc | apply Kd.R_drewN | apply Kd.R_drew)); exact HO_9.out) hb); have n1_ := Aside0.mk (Kd.R_below (by (with_reducible repeat (first | apply Kd.R_alloc | apply Kd.R_drewN | apply Kd.R_drew)); exact HO_219001.out) hb); have n2_ := Aside0.mk (Kd.R_below (by (with_reducible repeat (first | apply Kd.R_alloc | apply Kd.R_drewN | apply Kd.R_drew)); exact HO229.out) hb); have n3_ := Aside0.mk (Kd.R_below (by (with_reducible repeat (first | apply Kd.R_alloc | apply Kd.R_drewN | apply Kd.R_drew)); exact HO232.out) hb); have n4_ := Aside0.mk (blk_below (g := gb218) (o := .cells #[.int .i64 x219000_2, .slice Ao25 x219001_2.length co25] 26 (0, 0)) (by (with_reducible repeat (first | refine blk_drewN ?_ _ | refine blk_drew ?_ | refine blk_alloc ?_ _)); exact BK218.out) hb); have n5_ := Aside0.mk (below_step (by repeat (first | (with_reducible first | exact HB.out | apply below_alloc | apply pw_below_drewN | apply below_drew1 | refine below_set ?_ GE218.out) | exact HB.out)) hb); have n6_ := Aside0.mk (hbox); have n7_ := Aside0.mk ((by rw [hg]; exact (below_size (by repeat (first | (with_reducible first | exact HB.out | apply below_alloc | apply pw_below_drewN | apply below_drew1 | refine below_set ?_ GE218.out) | exact HB.out))) : w.heap.size ≤ gb233)); have n8_ := Aside0.mk ((by rw [hg]; exact (below_size (by repeat (first | (with_reducible first | exact HB.out | apply below_alloc | apply pw_below_drewN | apply below_drew1 | refine below_set ?_ GE218.out) | exact HB.out))) : w.heap.size ≤ gb233)); have n9_ := Aside0.mk ((by rw [hg]; exact Nat.ne_of_lt (blk_lt (g := gb218) (o := .cells #[.int .i64 x219000_2, .slice Ao25 x219001_2.length co25] 26 (0, 0)) (by (with_reducible repeat (first | refine blk_drewN ?_ _ | refine blk_drew ?_ | refine blk_alloc ?_ _)); exact BK218.out)) : gb218 ≠ gb233)); have n10_ := Aside0.mk ((by rw [hg]; exact Nat.ne_of_gt (blk_lt (g := gb218) (o := .cells #[.int .i64 x219000_2, .slice Ao25 x219001_2.length co25] 26 (0, 0)) (by (with_reducible repeat (first | refine blk_drewN ?_ _ | refine blk_drew ?_ | refine blk_alloc ?_ _)); exact BK218.out)) : gb233 ≠ gb218)); clear HO_9; clear HO_219001; clear HO229; clear HO232; clear BK218; clear HB; have HO_9 := n0_; have HO_219001 := n1_; have HO229 := n2_; have HO232 := n3_; have BK218 := n4_; have HB := n5_; have BK233 := n6_; have GW233 := n7_; have GE233 := n8_; have NB218_233 := n9_; have NB233_218 := n10_; clear n0_ n1_ n2_ n3_ n4_ n5_ n6_ n7_ n8_ n9_ n10_; clear hb hbox hg; have hnb28 := NB233_218.out; have hnc28 := NB218_233.out; have hcz29_0 : w27.cell? ⟨gb233, 0, none⟩ = some (.int .i64 0) := (blk_cell BK233.out 0).trans rfl; have hcz29_1 : w27.cell? ⟨gb233, 1, none⟩ = some (.slice none 0 0) := (blk_cell BK233.out 1).trans rfl; have hfz29_0 := blk_frozen BK233.out 0; have hfz29_1 := blk_frozen BK233.out 1; obtain ⟨Ao30, co30, eo30⟩ := Kd.R_slice HO229.out; subst eo30) | ((with_reducible refine gate_dst (N := 80) rfl ?_); (try (refine gate_guard (by rfl) ?_; dsimp only)); refine Kd.R_lit k35 _ 35 ?hg (N := 80) ?hd (xs := ([(⟨t223, t225⟩ : S35)] : List (S35))) (inner := [.int .u8 t223, .int .i64 t225]) (ok := fun _ => True) (okp := fun _ => True) ?hr ?hp (fun _ hk => hk) trivial (Below.refl _ _) (Nat.le_refl _) (by simp) ?_; (case hd => rfl); (case hg => rfl); (case hr => first | (go_simp; done) | (go_simp; rfl)); (case hp => exact (Reps.c2 (show Kd.M k35 _ _ _ (⟨t223, t225⟩ : S35) [.int .u8 t223, .int .i64 t225] from (k35_mkM _ _ _ (⟨t223, t225⟩ : S35) )) (Reps.none _ _))); intro v235 w31 ho32 hb hg_ hnew_; clear hg_ hnew_; (first | rw [← Ny234.out] at ho32 | (simp only [Int.reduceToNat] at ho32; rw [← Ny234.out] at ho32)); have n0_ := Aside0.mk (Kd.R_elder' (by (with_reducible repeat (first | apply Kd.R_alloc | apply Kd.R_drewN | apply Kd.R_drew)); exact (Kd.R_mono (Kd.R_far (p := ⟨gb233, 1, none⟩) (Kd.R_far (p := ⟨gb233, 0, none⟩) (Kd.R_types HO_9.out BK233.out (by decide)) (fun _ hk => hk.2) (.int .i64 t226)) (fun _ hk => hk.2) (.slice Ao30 t227.length co30)) (fun _ h_ => h_.1))) (Kd.R_base ho32) hb); have n1_ := Aside0.mk (Kd.R_elder' (by (with_reducible repeat (first | apply Kd.R_alloc | apply Kd.R_drewN | apply Kd.R_drew)); exact (Kd.R_mono (Kd.R_far (p := ⟨gb233, 1, none⟩) (Kd.R_far (p := ⟨gb233, 0, none⟩) (Kd.R_types HO_219001.out BK233.out (by decide)) (fun _ hk => hk.2) (.int .i64 t226)) (fun _ hk => hk.2) (.slice Ao30 t227.length co30)) (fun _ h_ => h_.1))) (Kd.R_base ho32) hb); have n2_ := Aside0.mk (Kd.R_elder' (by (with_reducible repeat (first | apply Kd.R_alloc | apply Kd.R_drewN | apply Kd.R_drew)); exact (Kd.R_mono (Kd.R_far (p := ⟨gb233, 1, none⟩) (Kd.R_far (p := ⟨gb233, 0, none⟩) (Kd.R_types HO229.out BK233.out (by decide)) (fun _ hk => hk.2) (.int .i64 t226)) (fun _ hk => hk.2) (.slice Ao30 t227.length co30)) (fun _ h_ => h_.1))) (Kd.R_base ho32) hb); have n3_ := Aside0.mk (Kd.R_below (by (with_reducible repeat (first | apply Kd.R_alloc | apply Kd.R_drewN | apply Kd.R_drew)); exact (Kd.R_mono (Kd.R_far (p := ⟨gb233, 1, none⟩) (Kd.R_far (p := ⟨gb233, 0, none⟩) (Kd.R_types HO232.out BK233.out (by decide)) (fun _ hk => hk.2) (.int .i64 t226)) (fun _ hk => hk.2) (.slice Ao30 t227.length co30)) (fun _ h_ => h_.1))) hb); have n4_ := Aside0.mk (Kd.R_lower (Kd.R_new' (Kd.R_new' (Kd.R_new' ho32 (Kd.R_lt (by (with_reducible repeat (first | apply Kd.R_alloc | apply Kd.R_drewN | apply Kd.R_drew)); exact (Kd.R_mono (Kd.R_far (p := ⟨gb233, 1, none⟩) (Kd.R_far (p := ⟨gb233, 0, none⟩) (Kd.R_types HO_9.out BK233.out (by decide)) (fun _ hk => hk.2) (.int .i64 t226)) (fun _ hk => hk.2) (.slice Ao30 t227.length co30)) (fun _ h_ => h_.1))))) (Kd.R_lt (by (with_reducible repeat (first | apply Kd.R_alloc | apply Kd.R_drewN | apply Kd.R_drew)); exact (Kd.R_mono (Kd.R_far (p := ⟨gb233, 1, none⟩) (Kd.R_far (p := ⟨gb233, 0, none⟩) (Kd.R_types HO_219001.out BK233.out (by decide)) (fun _ hk => hk.2) (.int .i64 t226)) (fun _ hk => hk.2) (.slice Ao30 t227.length co30)) (fun _ h_ => h_.1))))) (Kd.R_lt (by (with_reducible repeat (first | apply Kd.R_alloc | apply Kd.R_drewN | apply Kd.R_drew)); exact (Kd.R_mono (Kd.R_far (p := ⟨gb233, 1, none⟩) (Kd.R_far (p := ⟨gb233, 0, none⟩) (Kd.R_types HO229.out BK233.out (by decide)) (fun _ hk => hk.2) (.int .i64 t226)) (fun _ hk => hk.2) (.slice Ao30 t227.length co30)) (fun _ h_ => h_.1))))) (below_size (by repeat (first | (with_reducible first | exact HB.out | apply below_alloc | apply pw_below_drewN | apply below_drew1 | refine below_set ?_ GE218.out | refine below_set ?_ GE233.out) | exact HB.out)))); have n5_ := Aside0.mk (blk_below (g := gb218) (o := .cells #[.int .i64 x219000_2, .slice Ao25 x219001_2.length co25] 26 (0, 0)) (by (with_reducible repeat (first | refine blk_drewN ?_ _ | refine blk_drew ?_ | refine blk_alloc ?_ _)); refine blk_far ?_ NB218_233.out _; (with_reducible repeat (first | refine blk_drewN ?_ _ | refine blk_drew ?_ | refine blk_alloc ?_ _)); refine blk_far ?_ NB218_233.out _; (with_reducible repeat (first | refine blk_drewN ?_ _ | refine blk_drew ?_ | refine blk_alloc ?_ _)); exact BK218.out) hb); have n6_ := Aside0.mk (blk_below (g := gb233) (o := .cells #[.int .i64 t226, .slice Ao30 t227.length co30] 26 (0, 0)) (by (with_reducible repeat (first | refine blk_drewN ?_ _ | refine blk_drew ?_ | refine blk_alloc ?_ _)); refine blk_put (cs := #[.int .i64 t226, .slice none 0 0]) ?_ 1 _ rfl; (with_reducible repeat (first | refine blk_drewN ?_ _ | refine blk_drew ?_ | refine blk_alloc ?_ _)); refine blk_put (cs := #[.int .i64 0, .slice none 0 0]) ?_ 0 _ rfl; (with_reducible repeat (first | refine blk_drewN ?_ _ | refine blk_drew ?_ | refine blk_alloc ?_ _)); exact BK233.out) hb); have n7_ := Aside0.mk (below_step (by repeat (first | (with_reducible first | exact HB.out | apply below_alloc | apply pw_below_drewN | apply below_drew1 | refine below_set ?_ GE218.out | refine below_set ?_ GE233.out) | exact HB.out)) hb); clear HO_9; clear HO_219001; clear HO229; clear HO232; clear BK218; clear BK233; clear HB; have HO_9 := n0_; have HO_219001 := n1_; have HO229 := n2_; have HO232 := n3_; have HO236 := n4_; have BK218 := n5_; have BK233 := n6_; have HB := n7_; clear n0_ n1_ n2_ n3_ n4_ n5_ n6_ n7_; clear hb ho32)))
                    go_loopg [17, 18] k2 (fun kq v17 v18 w' => ∃ (x17_3 : List (S35)) (x18_3 : Int), v18 = .int .i64 x18_3 ∧ Aside0 (vmfleetlaw33_SwitchLearns.l1 kq a0 l1 l2 x9_2 x10_2 t222 t223 t225 t230 x17_3 x18_3 t226 t227 = some r) ∧ Aside0 (kq ≤ k2) ∧ Aside0 (Kd.R k35 35 w' w.heap.size (fun k_ => some k_ ≠ (v17 : Value).ownBlock ∧ some k_ ≠ ((.slice Ao25 x219001_2.length co25) : Value).ownBlock ∧ some k_ ≠ ((.slice Ao30 t227.length co30) : Value).ownBlock) u9 x9_2) ∧ Aside0 (Kd.R (Kd.int .i64) 3 w' w.heap.size (fun _ => True) v231 t230) ∧ Aside0 (Kd.R k35 35 w' w.heap.size (fun k_ => some k_ ≠ (u9 : Value).ownBlock ∧ some k_ ≠ ((.slice Ao25 x219001_2.length co25) : Value).ownBlock ∧ some k_ ≠ ((.slice Ao30 t227.length co30) : Value).ownBlock) v17 x17_3) ∧ Aside0 (Kd.R k35 35 w' w.heap.size (fun k_ => some k_ ≠ (u9 : Value).ownBlock ∧ some k_ ≠ (v17 : Value).ownBlock ∧ some k_ ≠ ((.slice Ao30 t227.length co30) : Value).ownBlock) (.slice Ao25 x219001_2.length co25) x219001_2) ∧ Aside0 (Kd.R k35 35 w' w.heap.size (fun k_ => some k_ ≠ (u9 : Value).ownBlock ∧ some k_ ≠ (v17 : Value).ownBlock ∧ some k_ ≠ ((.slice Ao25 x219001_2.length co25) : Value).ownBlock) (.slice Ao30 t227.length co30) t227) ∧ Aside0 (w'.heap[gb218]? = some (.cells #[.int .i64 x219000_2, (.slice Ao25 x219001_2.length co25)] 26 (0, 0))) ∧ Aside0 (w'.heap[gb233]? = some (.cells #[.int .i64 t226, (.slice Ao30 t227.length co30)] 26 (0, 0))) ∧ Aside0 (Below w.heap.size w w'))
                    case atStart => exact ⟨(y234), (0), (by first | rfl | (simp; done) | (simp [*]; done)), H', ⟨Nat.le_refl _⟩, ⟨by (with_reducible repeat (first | apply Kd.R_alloc | apply Kd.R_drewN | apply Kd.R_drew)); exact Kd.R_mono HO_9.out (fun _ hk => ⟨hk.2, ⟨hk.1.1, hk.1.2⟩⟩)⟩, ⟨by (with_reducible repeat (first | apply Kd.R_alloc | apply Kd.R_drewN | apply Kd.R_drew)); exact HO232.out⟩, ⟨by (with_reducible repeat (first | apply Kd.R_alloc | apply Kd.R_drewN | apply Kd.R_drew)); exact Kd.R_mono HO236.out (fun _ hk => ⟨hk.1.1.2, ⟨hk.1.2, hk.2⟩⟩)⟩, ⟨by (with_reducible repeat (first | apply Kd.R_alloc | apply Kd.R_drewN | apply Kd.R_drew)); exact Kd.R_mono HO_219001.out (fun _ hk => ⟨hk.1.1, ⟨hk.2, hk.1.2⟩⟩)⟩, ⟨by (with_reducible repeat (first | apply Kd.R_alloc | apply Kd.R_drewN | apply Kd.R_drew)); exact Kd.R_mono HO229.out (fun _ hk => ⟨hk.1.1.2, ⟨hk.2, hk.1.2⟩⟩)⟩, ⟨by (with_reducible repeat (first | refine blk_drewN ?_ _ | refine blk_drew ?_ | refine blk_alloc ?_ _)); exact BK218.out⟩, ⟨by (with_reducible repeat (first | refine blk_drewN ?_ _ | refine blk_drew ?_ | refine blk_alloc ?_ _)); exact BK233.out⟩, ⟨by repeat (first | (with_reducible first | exact HB.out | apply below_alloc | apply pw_below_drewN | apply below_drew1 | refine below_set ?_ GE218.out | refine below_set ?_ GE233.out) | exact HB.out)⟩⟩
                    case round => as_aux_lemma =>
                      clear H'
                      try clear c1
                      try clear c2
                      try clear p2
                      try clear q2
                      try clear hx2
                      try clear c3
                      try clear c5
                      try clear c5b0
                      try clear c6
                      try clear c6b0
                      try clear c7
                      try clear c7b0
                      try clear c7b1
                      try clear c8
                      try clear c12
                      try clear c17
                      try clear c17b0
                      try clear c18
                      try clear c18b0
                      try clear c20
                      try clear c20b0
                      try clear p22
                      try clear q22
                      try clear hx22
                      try clear c28
                      try clear hcz15_0
                      try clear hcz15_1
                      try clear hcz24_0
                      try clear hcz24_1
                      try clear hcz29_0
                      try clear hcz29_1
                      try clear hfz15_0
                      try clear hfz15_1
                      try clear hfz24_0
                      try clear hfz24_1
                      try clear hfz29_0
                      try clear hfz29_1
                      try clear hx220_0
                      try clear hx224_0
                      try clear p2
                      try clear p220
                      try clear p224
                      try clear q220
                      try clear q224
                      obtain ⟨x17_3, x18_3, rfl, HA, HK3, HO_9, HO_16, HO_17, HO_219001, HO_234001, BK218, BK233, HB⟩ := hrel
                      cases gk with
                      | zero => exact absurd HA.out (by simp [vmfleetlaw33_SwitchLearns.l1])
                      | succ k3 =>
                        have H := HA.out
                        clear HA
                        simp only [vmfleetlaw33_SwitchLearns.l1] at H
                        by_cases c33 : x18_3 < (x9_2.length : Int)
                        · rw [if_pos c33] at H
                          have c33b0 : decide (x18_3 < (x9_2.length : Int)) = true := decide_eq_true c33
                          clear c33
                          by_cases c34 : 0 ≤ x18_3
                          · rw [if_pos c34] at H
                            have c34b0 : decide (0 ≤ x18_3) = true := decide_eq_true c34
                            clear c34
                            by_cases c35 : ((rd_T35 x9_2 x18_3).f0) = t223
                            · rw [if_pos c35] at H
                              have c35b0 : (((rd_T35 x9_2 x18_3).f0) == t223) = true := beq_iff_eq.mpr c35
                              have c35b1 : (((rd_T35 x9_2 x18_3).f0) != t223) = false := bne_eq_false_iff_eq.mpr c35
                              clear c35
                              have H' := Aside0.mk H
                              clear H
                              obtain ⟨Ao36, co36, eo36⟩ := Kd.R_slice HO_9.out
                              subst eo36
                              have p237 : 0 ≤ (x18_3 : Int) := of_decide_eq_true (by first | (with_reducible assumption) | assumption)
                              have q237 : x18_3 < (x9_2.length : Int) := of_decide_eq_true (by first | (with_reducible assumption) | assumption)
                              obtain ⟨ad237, e237, hx237_0, hx237_1⟩ := at_T35 (Kd.R_reads' HO_9.out).2.2 x18_3 p237 q237
                              cases e237
                              replace p237 := eq_true p237
                              replace q237 := eq_true q237
                              as_aux_lemma =>
                              go_wp2
                              repeat (go_quiet (fail); try go_wp2)
                              go_roundg k3
                              case measure => have := HJ3.out; have := HK2.out; have := HK3.out; omega
                              case rel => exact ⟨(x17_3), (wrap64 (x18_3 + 1)), (by first | rfl | (simp; done) | (simp [*]; done)), H', ⟨by have := HJ3.out; have := HK2.out; have := HK3.out; omega⟩, ⟨by (with_reducible repeat (first | apply Kd.R_alloc | apply Kd.R_drewN | apply Kd.R_drew)); exact HO_9.out⟩, ⟨by (with_reducible repeat (first | apply Kd.R_alloc | apply Kd.R_drewN | apply Kd.R_drew)); exact HO_16.out⟩, ⟨by (with_reducible repeat (first | apply Kd.R_alloc | apply Kd.R_drewN | apply Kd.R_drew)); exact HO_17.out⟩, ⟨by (with_reducible repeat (first | apply Kd.R_alloc | apply Kd.R_drewN | apply Kd.R_drew)); exact HO_219001.out⟩, ⟨by (with_reducible repeat (first | apply Kd.R_alloc | apply Kd.R_drewN | apply Kd.R_drew)); exact HO_234001.out⟩, ⟨by (with_reducible repeat (first | refine blk_drewN ?_ _ | refine blk_drew ?_ | refine blk_alloc ?_ _)); exact BK218.out⟩, ⟨by (with_reducible repeat (first | refine blk_drewN ?_ _ | refine blk_drew ?_ | refine blk_alloc ?_ _)); exact BK233.out⟩, ⟨by repeat (first | (with_reducible first | exact HB.out | apply below_alloc | apply pw_below_drewN | apply below_drew1 | refine below_set ?_ GE218.out | refine below_set ?_ GE233.out) | exact HB.out)⟩⟩
                            · rw [if_neg c35] at H
                              have c35b0 : (((rd_T35 x9_2 x18_3).f0) == t223) = false := beq_eq_false_iff_ne.mpr c35
                              have c35b1 : (((rd_T35 x9_2 x18_3).f0) != t223) = true := bne_iff_ne.mpr c35
                              by_cases c37 : x17_3.length < 8796093022208
                              · rw [if_pos c37] at H
                                have LMc37 := Aside0.mk c37
                                clear c37
                                obtain ⟨y239, hy239⟩ : ∃ y_ : List (S35), y_ = (x17_3 ++ [(⟨(rd_T35 x9_2 x18_3).f0, (rd_T35 x9_2 x18_3).f1⟩ : S35)]) := ⟨_, rfl⟩
                                replace H : (vmfleetlaw33_SwitchLearns.l1 k3 a0 l1 l2 x9_2 x10_2 t222 t223 t225 t230 y239 (wrap64 (x18_3 + 1)) t226 t227) = some r := by first | (rw [hy239]; with_reducible exact H) | (have H2_ := (Option.bind_some _ _).symm.trans H; rw [hy239]; with_reducible exact H2_) | (have H2_ := (Option.bind_some _ _).symm.trans H; with_reducible exact H2_) | with_reducible exact H | (rw [hy239]; exact H) | exact H
                                have Ny239 := Aside0.mk hy239
                                clear hy239
                                have H' := Aside0.mk H
                                clear H
                                obtain ⟨Ao38, co38, eo38⟩ := Kd.R_slice HO_9.out
                                subst eo38
                                have p237 : 0 ≤ (x18_3 : Int) := of_decide_eq_true (by first | (with_reducible assumption) | assumption)
                                have q237 : x18_3 < (x9_2.length : Int) := of_decide_eq_true (by first | (with_reducible assumption) | assumption)
                                obtain ⟨ad237, e237, hx237_0, hx237_1⟩ := at_T35 (Kd.R_reads' HO_9.out).2.2 x18_3 p237 q237
                                cases e237
                                replace p237 := eq_true p237
                                replace q237 := eq_true q237
                                have p238 : 0 ≤ (x18_3 : Int) := of_decide_eq_true (by first | (with_reducible assumption) | assumption)
                                have q238 : x18_3 < (x9_2.length : Int) := of_decide_eq_true (by first | (with_reducible assumption) | assumption)
                                obtain ⟨ad238, e238, hx238_0, hx238_1⟩ := at_T35 (Kd.R_reads' HO_9.out).2.2 x18_3 p238 q238
                                obtain rfl : ad237 = ad238 := (by injection e238)
                                replace p238 := eq_true p238
                                replace q238 := eq_true q238
                                go_wp2_with (first | ((with_reducible refine gate_builtin (b := .append) (xs := #[.tmp 94, .tmp 99]) rfl ?_); (try (refine gate_guard (by rfl) ?_; dsimp only)); at_builtin; refine Kd.R_append k35 (w0 := w) w.heap.size rfl (.tmp 94) (.tmp 99) 24 35 (.agg #[(.int .u8 0), (.int .i64 0)]) 16 rfl Try.underlying24 info35 rfl (by decide) (by omega) u17 x17_3 (⟨(rd_T35 x9_2 x18_3).f0, (rd_T35 x9_2 x18_3).f1⟩ : S35) [.int .u8 ((rd_T35 x9_2 x18_3).f0), .int .i64 ((rd_T35 x9_2 x18_3).f1)] (fun k_ => some k_ ≠ (.slice (some ad237) x9_2.length co38 : Value).ownBlock ∧ some k_ ≠ (.slice Ao25 x219001_2.length co25 : Value).ownBlock ∧ some k_ ≠ (.slice Ao30 t227.length co30 : Value).ownBlock) (fun _ => False) rfl rfl ?aP (fun _ hk => hk.elim) ?aF ?aO ?aB ?aS ?aL ?_; (case aP => exact k35_mkM _ _ _ (⟨(rd_T35 x9_2 x18_3).f0, (rd_T35 x9_2 x18_3).f1⟩ : S35)); (case aB => exact (by repeat (first | (with_reducible first | exact HB.out | apply below_alloc | apply pw_below_drewN | apply below_drew1 | refine below_set ?_ GE218.out | refine below_set ?_ GE233.out) | exact HB.out))); (case aF => exact (fun k_ hk => ⟨Kd.fresh' (Kd.R_lt (by (with_reducible repeat (first | apply Kd.R_alloc | apply Kd.R_drewN | apply Kd.R_drew)); exact HO_9.out)) k_ hk, Kd.fresh' (Kd.R_lt (by (with_reducible repeat (first | apply Kd.R_alloc | apply Kd.R_drewN | apply Kd.R_drew)); exact HO_219001.out)) k_ hk, Kd.fresh' (Kd.R_lt (by (with_reducible repeat (first | apply Kd.R_alloc | apply Kd.R_drewN | apply Kd.R_drew)); exact HO_234001.out)) k_ hk⟩)); (case aO => exact (by (with_reducible repeat (first | apply Kd.R_alloc | apply Kd.R_drewN | apply Kd.R_drew)); exact HO_17.out)); (case aS => exact (below_size (by repeat (first | (with_reducible first | exact HB.out | apply below_alloc | apply pw_below_drewN | apply below_drew1 | refine below_set ?_ GE218.out | refine below_set ?_ GE233.out) | exact HB.out)))); (case aL => have := LMc37.out; omega); intro v240 w39 ho hb hg hat; rw [← Ny239.out] at ho; have n0_ := Aside0.mk (Kd.R_after (ok := (fun k_ => some k_ ≠ (.slice Ao25 x219001_2.length co25 : Value).ownBlock ∧ some k_ ≠ (.slice Ao30 t227.length co30 : Value).ownBlock)) (by (with_reducible repeat (first | apply Kd.R_alloc | apply Kd.R_drewN | apply Kd.R_drew)); exact Kd.R_mono HO_9.out (fun _ hk => ⟨⟨hk.2.1, hk.2.2⟩, hk.1⟩)) hg hat); have n1_ := Aside0.mk (Kd.R_over' (by (with_reducible repeat (first | apply Kd.R_alloc | apply Kd.R_drewN | apply Kd.R_drew)); exact HO_16.out) (Kd.R_typed (by (with_reducible repeat (first | apply Kd.R_alloc | apply Kd.R_drewN | apply Kd.R_drew)); exact HO_17.out)) (by decide) hg); have n2_ := Aside0.mk (Kd.R_after (ok := (fun k_ => some k_ ≠ (.slice (some ad237) x9_2.length co38 : Value).ownBlock ∧ some k_ ≠ (.slice Ao30 t227.length co30 : Value).ownBlock)) (by (with_reducible repeat (first | apply Kd.R_alloc | apply Kd.R_drewN | apply Kd.R_drew)); exact Kd.R_mono HO_219001.out (fun _ hk => ⟨⟨hk.1, hk.2.2⟩, hk.2.1⟩)) hg hat); have n3_ := Aside0.mk (Kd.R_after (ok := (fun k_ => some k_ ≠ (.slice (some ad237) x9_2.length co38 : Value).ownBlock ∧ some k_ ≠ (.slice Ao25 x219001_2.length co25 : Value).ownBlock)) (by (with_reducible repeat (first | apply Kd.R_alloc | apply Kd.R_drewN | apply Kd.R_drew)); exact Kd.R_mono HO_234001.out (fun _ hk => ⟨⟨hk.1, hk.2.2⟩, hk.2.1⟩)) hg hat); have n4_ := Aside0.mk (blk_grown (g := gb218) (o := .cells #[.int .i64 x219000_2, .slice Ao25 x219001_2.length co25] 26 (0, 0)) (by (with_reducible repeat (first | refine blk_drewN ?_ _ | refine blk_drew ?_ | refine blk_alloc ?_ _)); exact BK218.out) hg (Kd.R_ne HO_17.out BK218.out (by decide))); have n5_ := Aside0.mk (blk_grown (g := gb233) (o := .cells #[.int .i64 t226, .slice Ao30 t227.length co30] 26 (0, 0)) (by (with_reducible repeat (first | refine blk_drewN ?_ _ | refine blk_drew ?_ | refine blk_alloc ?_ _)); exact BK233.out) hg (Kd.R_ne HO_17.out BK233.out (by decide))); have n6_ := Aside0.mk (hb); have n7_ := Aside0.mk (ho); clear HO_9; clear HO_16; clear HO_219001; clear HO_234001; clear BK218; clear BK233; clear HB; clear HO_17; have HO_9 := n0_; have HO_16 := n1_; have HO_219001 := n2_; have HO_234001 := n3_; have BK218 := n4_; have BK233 := n5_; have HB := n6_; have HO241 := n7_; clear n0_ n1_ n2_ n3_ n4_ n5_ n6_ n7_; clear ho hb hg hat))
                                repeat (go_quiet (first | ((with_reducible refine gate_builtin (b := .append) (xs := #[.tmp 94, .tmp 99]) rfl ?_); (try (refine gate_guard (by rfl) ?_; dsimp only)); at_builtin; refine Kd.R_append k35 (w0 := w) w.heap.size rfl (.tmp 94) (.tmp 99) 24 35 (.agg #[(.int .u8 0), (.int .i64 0)]) 16 rfl Try.underlying24 info35 rfl (by decide) (by omega) u17 x17_3 (⟨(rd_T35 x9_2 x18_3).f0, (rd_T35 x9_2 x18_3).f1⟩ : S35) [.int .u8 ((rd_T35 x9_2 x18_3).f0), .int .i64 ((rd_T35 x9_2 x18_3).f1)] (fun k_ => some k_ ≠ (.slice (some ad237) x9_2.length co38 : Value).ownBlock ∧ some k_ ≠ (.slice Ao25 x219001_2.length co25 : Value).ownBlock ∧ some k_ ≠ (.slice Ao30 t227.length co30 : Value).ownBlock) (fun _ => False) rfl rfl ?aP (fun _ hk => hk.elim) ?aF ?aO ?aB ?aS ?aL ?_; (case aP => exact k35_mkM _ _ _ (⟨(rd_T35 x9_2 x18_3).f0, (rd_T35 x9_2 x18_3).f1⟩ : S35)); (case aB => exact (by repeat (first | (with_reducible first | exact HB.out | apply below_alloc | apply pw_below_drewN | apply below_drew1 | refine below_set ?_ GE218.out | refine below_set ?_ GE233.out) | exact HB.out))); (case aF => exact (fun k_ hk => ⟨Kd.fresh' (Kd.R_lt (by (with_reducible repeat (first | apply Kd.R_alloc | apply Kd.R_drewN | apply Kd.R_drew)); exact HO_9.out)) k_ hk, Kd.fresh' (Kd.R_lt (by (with_reducible repeat (first | apply Kd.R_alloc | apply Kd.R_drewN | apply Kd.R_drew)); exact HO_219001.out)) k_ hk, Kd.fresh' (Kd.R_lt (by (with_reducible repeat (first | apply Kd.R_alloc | apply Kd.R_drewN | apply Kd.R_drew)); exact HO_234001.out)) k_ hk⟩)); (case aO => exact (by (with_reducible repeat (first | apply Kd.R_alloc | apply Kd.R_drewN | apply Kd.R_drew)); exact HO_17.out)); (case aS => exact (below_size (by repeat (first | (with_reducible first | exact HB.out | apply below_alloc | apply pw_below_drewN | apply below_drew1 | refine below_set ?_ GE218.out | refine below_set ?_ GE233.out) | exact HB.out)))); (case aL => have := LMc37.out; omega); intro v240 w39 ho hb hg hat; rw [← Ny239.out] at ho; have n0_ := Aside0.mk (Kd.R_after (ok := (fun k_ => some k_ ≠ (.slice Ao25 x219001_2.length co25 : Value).ownBlock ∧ some k_ ≠ (.slice Ao30 t227.length co30 : Value).ownBlock)) (by (with_reducible repeat (first | apply Kd.R_alloc | apply Kd.R_drewN | apply Kd.R_drew)); exact Kd.R_mono HO_9.out (fun _ hk => ⟨⟨hk.2.1, hk.2.2⟩, hk.1⟩)) hg hat); have n1_ := Aside0.mk (Kd.R_over' (by (with_reducible repeat (first | apply Kd.R_alloc | apply Kd.R_drewN | apply Kd.R_drew)); exact HO_16.out) (Kd.R_typed (by (with_reducible repeat (first | apply Kd.R_alloc | apply Kd.R_drewN | apply Kd.R_drew)); exact HO_17.out)) (by decide) hg); have n2_ := Aside0.mk (Kd.R_after (ok := (fun k_ => some k_ ≠ (.slice (some ad237) x9_2.length co38 : Value).ownBlock ∧ some k_ ≠ (.slice Ao30 t227.length co30 : Value).ownBlock)) (by (with_reducible repeat (first | apply Kd.R_alloc | apply Kd.R_drewN | apply Kd.R_drew)); exact Kd.R_mono HO_219001.out (fun _ hk => ⟨⟨hk.1, hk.2.2⟩, hk.2.1⟩)) hg hat); have n3_ := Aside0.mk (Kd.R_after (ok := (fun k_ => some k_ ≠ (.slice (some ad237) x9_2.length co38 : Value).ownBlock ∧ some k_ ≠ (.slice Ao25 x219001_2.length co25 : Value).ownBlock)) (by (with_reducible repeat (first | apply Kd.R_alloc | apply Kd.R_drewN | apply Kd.R_drew)); exact Kd.R_mono HO_234001.out (fun _ hk => ⟨⟨hk.1, hk.2.2⟩, hk.2.1⟩)) hg hat); have n4_ := Aside0.mk (blk_grown (g := gb218) (o := .cells #[.int .i64 x219000_2, .slice Ao25 x219001_2.length co25] 26 (0, 0)) (by (with_reducible repeat (first | refine blk_drewN ?_ _ | refine blk_drew ?_ | refine blk_alloc ?_ _)); exact BK218.out) hg (Kd.R_ne HO_17.out BK218.out (by decide))); have n5_ := Aside0.mk (blk_grown (g := gb233) (o := .cells #[.int .i64 t226, .slice Ao30 t227.length co30] 26 (0, 0)) (by (with_reducible repeat (first | refine blk_drewN ?_ _ | refine blk_drew ?_ | refine blk_alloc ?_ _)); exact BK233.out) hg (Kd.R_ne HO_17.out BK233.out (by decide))); have n6_ := Aside0.mk (hb); have n7_ := Aside0.mk (ho); clear HO_9; clear HO_16; clear HO_219001; clear HO_234001; clear BK218; clear BK233; clear HB; clear HO_17; have HO_9 := n0_; have HO_16 := n1_; have HO_219001 := n2_; have HO_234001 := n3_; have BK218 := n4_; have BK233 := n5_; have HB := n6_; have HO241 := n7_; clear n0_ n1_ n2_ n3_ n4_ n5_ n6_ n7_; clear ho hb hg hat)); try go_wp2_with (first | ((with_reducible refine gate_builtin (b := .append) (xs := #[.tmp 94, .tmp 99]) rfl ?_); (try (refine gate_guard (by rfl) ?_; dsimp only)); at_builtin; refine Kd.R_append k35 (w0 := w) w.heap.size rfl (.tmp 94) (.tmp 99) 24 35 (.agg #[(.int .u8 0), (.int .i64 0)]) 16 rfl Try.underlying24 info35 rfl (by decide) (by omega) u17 x17_3 (⟨(rd_T35 x9_2 x18_3).f0, (rd_T35 x9_2 x18_3).f1⟩ : S35) [.int .u8 ((rd_T35 x9_2 x18_3).f0), .int .i64 ((rd_T35 x9_2 x18_3).f1)] (fun k_ => some k_ ≠ (.slice (some ad237) x9_2.length co38 : Value).ownBlock ∧ some k_ ≠ (.slice Ao25 x219001_2.length co25 : Value).ownBlock ∧ some k_ ≠ (.slice Ao30 t227.length co30 : Value).ownBlock) (fun _ => False) rfl rfl ?aP (fun _ hk => hk.elim) ?aF ?aO ?aB ?aS ?aL ?_; (case aP => exact k35_mkM _ _ _ (⟨(rd_T35 x9_2 x18_3).f0, (rd_T35 x9_2 x18_3).f1⟩ : S35)); (case aB => exact (by repeat (first | (with_reducible first | exact HB.out | apply below_alloc | apply pw_below_drewN | apply below_drew1 | refine below_set ?_ GE218.out | refine below_set ?_ GE233.out) | exact HB.out))); (case aF => exact (fun k_ hk => ⟨Kd.fresh' (Kd.R_lt (by (with_reducible repeat (first | apply Kd.R_alloc | apply Kd.R_drewN | apply Kd.R_drew)); exact HO_9.out)) k_ hk, Kd.fresh' (Kd.R_lt (by (with_reducible repeat (first | apply Kd.R_alloc | apply Kd.R_drewN | apply Kd.R_drew)); exact HO_219001.out)) k_ hk, Kd.fresh' (Kd.R_lt (by (with_reducible repeat (first | apply Kd.R_alloc | apply Kd.R_drewN | apply Kd.R_drew)); exact HO_234001.out)) k_ hk⟩)); (case aO => exact (by (with_reducible repeat (first | apply Kd.R_alloc | apply Kd.R_drewN | apply Kd.R_drew)); exact HO_17.out)); (case aS => exact (below_size (by repeat (first | (with_reducible first | exact HB.out | apply below_alloc | apply pw_below_drewN | apply below_drew1 | refine below_set ?_ GE218.out | refine below_set ?_ GE233.out) | exact HB.out)))); (case aL => have := LMc37.out; omega); intro v240 w39 ho hb hg hat; rw [← Ny239.out] at ho; have n0_ := Aside0.mk (Kd.R_after (ok := (fun k_ => some k_ ≠ (.slice Ao25 x219001_2.length co25 : Value).ownBlock ∧ some k_ ≠ (.slice Ao30 t227.length co30 : Value).ownBlock)) (by (with_reducible repeat (first | apply Kd.R_alloc | apply Kd.R_drewN | apply Kd.R_drew)); exact Kd.R_mono HO_9.out (fun _ hk => ⟨⟨hk.2.1, hk.2.2⟩, hk.1⟩)) hg hat); have n1_ := Aside0.mk (Kd.R_over' (by (with_reducible repeat (first | apply Kd.R_alloc | apply Kd.R_drewN | apply Kd.R_drew)); exact HO_16.out) (Kd.R_typed (by (with_reducible repeat (first | apply Kd.R_alloc | apply Kd.R_drewN | apply Kd.R_drew)); exact HO_17.out)) (by decide) hg); have n2_ := Aside0.mk (Kd.R_after (ok := (fun k_ => some k_ ≠ (.slice (some ad237) x9_2.length co38 : Value).ownBlock ∧ some k_ ≠ (.slice Ao30 t227.length co30 : Value).ownBlock)) (by (with_reducible repeat (first | apply Kd.R_alloc | apply Kd.R_drewN | apply Kd.R_drew)); exact Kd.R_mono HO_219001.out (fun _ hk => ⟨⟨hk.1, hk.2.2⟩, hk.2.1⟩)) hg hat); have n3_ := Aside0.mk (Kd.R_after (ok := (fun k_ => some k_ ≠ (.slice (some ad237) x9_2.length co38 : Value).ownBlock ∧ some k_ ≠ (.slice Ao25 x219001_2.length co25 : Value).ownBlock)) (by (with_reducible repeat (first | apply Kd.R_alloc | apply Kd.R_drewN | apply Kd.R_drew)); exact Kd.R_mono HO_234001.out (fun _ hk => ⟨⟨hk.1, hk.2.2⟩, hk.2.1⟩)) hg hat); have n4_ := Aside0.mk (blk_grown (g := gb218) (o := .cells #[.int .i64 x219000_2, .slice Ao25 x219001_2.length co25] 26 (0, 0)) (by (with_reducible repeat (first | refine blk_drewN ?_ _ | refine blk_drew ?_ | refine blk_alloc ?_ _)); exact BK218.out) hg (Kd.R_ne HO_17.out BK218.out (by decide))); have n5_ := Aside0.mk (blk_grown (g := gb233) (o := .cells #[.int .i64 t226, .slice Ao30 t227.length co30] 26 (0, 0)) (by (with_reducible repeat (first | refine blk_drewN ?_ _ | refine blk_drew ?_ | refine blk_alloc ?_ _)); exact BK233.out) hg (Kd.R_ne HO_17.out BK233.out (by decide))); have n6_ := Aside0.mk (hb); have n7_ := Aside0.mk (ho); clear HO_9; clear HO_16; clear HO_219001; clear HO_234001; clear BK218; clear BK233; clear HB; clear HO_17; have HO_9 := n0_; have HO_16 := n1_; have HO_219001 := n2_; have HO_234001 := n3_; have BK218 := n4_; have BK233 := n5_; have HB := n6_; have HO241 := n7_; clear n0_ n1_ n2_ n3_ n4_ n5_ n6_ n7_; clear ho hb hg hat)))
                                go_roundg k3
                                case measure => have := HJ3.out; have := HK2.out; have := HK3.out; omega
                                case rel => exact ⟨(y239), (wrap64 (x18_3 + 1)), (by first | rfl | (simp; done) | (simp [*]; done)), H', ⟨by have := HJ3.out; have := HK2.out; have := HK3.out; omega⟩, ⟨by (with_reducible repeat (first | apply Kd.R_alloc | apply Kd.R_drewN | apply Kd.R_drew)); exact Kd.R_mono HO_9.out (fun _ hk => ⟨hk.2, ⟨hk.1.1, hk.1.2⟩⟩)⟩, ⟨by (with_reducible repeat (first | apply Kd.R_alloc | apply Kd.R_drewN | apply Kd.R_drew)); exact HO_16.out⟩, ⟨by (with_reducible repeat (first | apply Kd.R_alloc | apply Kd.R_drewN | apply Kd.R_drew)); exact HO241.out⟩, ⟨by (with_reducible repeat (first | apply Kd.R_alloc | apply Kd.R_drewN | apply Kd.R_drew)); exact Kd.R_mono HO_219001.out (fun _ hk => ⟨hk.1.1, ⟨hk.2, hk.1.2⟩⟩)⟩, ⟨by (with_reducible repeat (first | apply Kd.R_alloc | apply Kd.R_drewN | apply Kd.R_drew)); exact Kd.R_mono HO_234001.out (fun _ hk => ⟨hk.1.1, ⟨hk.2, hk.1.2⟩⟩)⟩, ⟨by (with_reducible repeat (first | refine blk_drewN ?_ _ | refine blk_drew ?_ | refine blk_alloc ?_ _)); exact BK218.out⟩, ⟨by (with_reducible repeat (first | refine blk_drewN ?_ _ | refine blk_drew ?_ | refine blk_alloc ?_ _)); exact BK233.out⟩, ⟨by repeat (first | (with_reducible first | exact HB.out | apply below_alloc | apply pw_below_drewN | apply below_drew1 | refine below_set ?_ GE218.out | refine below_set ?_ GE233.out) | exact HB.out)⟩⟩
                              · rw [if_neg c37] at H
                                exact absurd H (by simp)
                          · rw [if_neg c34] at H
                            exact absurd H (by simp)
                        · rw [if_neg c33] at H
                          have c33b0 : decide (x18_3 < (x9_2.length : Int)) = false := decide_eq_false c33
                          clear c33
                          obtain ⟨ji40, hji40⟩ : ∃ j_ : Int, (mn (x17_3.length : Int) 16) = j_ := ⟨_, rfl⟩
                          replace H : (if 0 ≤ (ji40) then (if (ji40) ≤ (x17_3.length : Int) then (vmfleetlaw33_SwitchLearns.l2 k3 a0 l1 l2 (x17_3.take ((ji40) : Int).toNat) x10_2 t222 t225 t230 (-1) 0 t226 t227) else (none)) else (none)) = some r := by first | (rw [hji40] at H; exact H) | (simp only [hji40] at H ⊢; exact H)
                          have hji40_ : (if 16 < (x17_3.length : Int) then 16 else (x17_3.length : Int)) = ji40 := hji40
                          by_cases c41 : 0 ≤ (ji40)
                          · rw [if_pos c41] at H
                            have c41b0 := eq_true c41
                            have c41b1 : decide (0 ≤ (ji40)) = true := decide_eq_true c41
                            clear c41
                            by_cases c42 : (ji40) ≤ (x17_3.length : Int)
                            · rw [if_pos c42] at H
                              have c42b0 := eq_true c42
                              have c42b1 : decide ((ji40) ≤ (x17_3.length : Int)) = true := decide_eq_true c42
                              clear c42
                              obtain ⟨y242, hy242⟩ : ∃ y_ : List (S35), y_ = (x17_3.take ((ji40) : Int).toNat) := ⟨_, rfl⟩
                              replace H : (vmfleetlaw33_SwitchLearns.l2 k3 a0 l1 l2 y242 x10_2 t222 t225 t230 (-1) 0 t226 t227) = some r := by first | (rw [hy242]; with_reducible exact H) | (have H2_ := (Option.bind_some _ _).symm.trans H; rw [hy242]; with_reducible exact H2_) | (have H2_ := (Option.bind_some _ _).symm.trans H; with_reducible exact H2_) | with_reducible exact H | (rw [hy242]; exact H) | exact H
                              have Ny242 := Aside0.mk hy242
                              clear hy242
                              have H' := Aside0.mk H
                              clear H
                              obtain ⟨Ao43, co43, eo43⟩ := Kd.R_slice HO_9.out
                              subst eo43
                              obtain ⟨Ao44, co44, eo44⟩ := Kd.R_slice HO_17.out
                              subst eo44
                              have q45 : ((ji40) : Int) ≤ ((x17_3.length : Int) : Int) := of_decide_eq_true (by first | (with_reducible assumption) | assumption)
                              obtain ⟨i045, hi045, _, hsz45, _⟩ := info_parts info35
                              have hcut45 := cut_to (P := Try.prog) 24 35 .i64 Try.underlying24 hi045 Ao44 x17_3.length co44 (ji40) (of_decide_eq_true (by first | (with_reducible assumption) | assumption)) q45 (Kd.R_reads' HO_17.out).2.1
                              have hr45 := Kd.R_take (m := ((ji40) : Int).toNat) HO_17.out (by omega)
                              have hy45 : y242.length = ((ji40) : Int).toNat := (by rw [Ny242.out, List.length_take]; omega)
                              rw [← Ny242.out] at hr45
                              rw [← hy45] at hr45 hcut45
                              clear hy45 hi045 hsz45 HO_17
                              have HO244 := Aside0.mk hr45
                              try (have hol_ : (Value.slice Ao44 x17_3.length co44).ownBlock = (Value.slice Ao44 y242.length co44).ownBlock := by cases Ao44 <;> rfl)
                              try rw [hol_] at HO_219001 HO_234001
                              clear hr45
                              replace q45 := eq_true q45
                              go_wp2
                              repeat (go_quiet (fail); try go_wp2)
                              go_loopg [19, 20] k3 (fun kq v19 v20 w' => ∃ (x19_4 : Int) (x20_4 : Int), v19 = .int .i64 x19_4 ∧ v20 = .int .i64 x20_4 ∧ Aside0 (vmfleetlaw33_SwitchLearns.l2 kq a0 l1 l2 y242 x10_2 t222 t225 t230 x19_4 x20_4 t226 t227 = some r) ∧ Aside0 (kq ≤ k3) ∧ Aside0 (Kd.R k35 35 w' w.heap.size (fun k_ => some k_ ≠ ((.slice Ao25 x219001_2.length co25) : Value).ownBlock ∧ some k_ ≠ ((.slice Ao30 t227.length co30) : Value).ownBlock) (.slice Ao44 y242.length co44) y242) ∧ Aside0 (Kd.R (Kd.int .i64) 3 w' w.heap.size (fun _ => True) v231 t230) ∧ Aside0 (Kd.R k35 35 w' w.heap.size (fun k_ => some k_ ≠ ((.slice Ao44 y242.length co44) : Value).ownBlock ∧ some k_ ≠ ((.slice Ao30 t227.length co30) : Value).ownBlock) (.slice Ao25 x219001_2.length co25) x219001_2) ∧ Aside0 (Kd.R k35 35 w' w.heap.size (fun k_ => some k_ ≠ ((.slice Ao44 y242.length co44) : Value).ownBlock ∧ some k_ ≠ ((.slice Ao25 x219001_2.length co25) : Value).ownBlock) (.slice Ao30 t227.length co30) t227) ∧ Aside0 (w'.heap[gb218]? = some (.cells #[.int .i64 x219000_2, (.slice Ao25 x219001_2.length co25)] 26 (0, 0))) ∧ Aside0 (w'.heap[gb233]? = some (.cells #[.int .i64 t226, (.slice Ao30 t227.length co30)] 26 (0, 0))) ∧ Aside0 (Below w.heap.size w w'))
                              case atStart => exact ⟨((-1)), (0), (by first | rfl | (simp; done) | (simp [*]; done)), (by first | rfl | (simp; done) | (simp [*]; done)), H', ⟨Nat.le_refl _⟩, ⟨by (with_reducible repeat (first | apply Kd.R_alloc | apply Kd.R_drewN | apply Kd.R_drew)); exact Kd.R_mono HO244.out (fun _ hk => ⟨hk.2.1, hk.2.2⟩)⟩, ⟨by (with_reducible repeat (first | apply Kd.R_alloc | apply Kd.R_drewN | apply Kd.R_drew)); exact HO_16.out⟩, ⟨by (with_reducible repeat (first | apply Kd.R_alloc | apply Kd.R_drewN | apply Kd.R_drew)); exact Kd.R_mono HO_219001.out (fun _ hk => ⟨hk.2.1, hk.2.2⟩)⟩, ⟨by (with_reducible repeat (first | apply Kd.R_alloc | apply Kd.R_drewN | apply Kd.R_drew)); exact Kd.R_mono HO_234001.out (fun _ hk => ⟨hk.2.1, hk.2.2⟩)⟩, ⟨by (with_reducible repeat (first | refine blk_drewN ?_ _ | refine blk_drew ?_ | refine blk_alloc ?_ _)); exact BK218.out⟩, ⟨by (with_reducible repeat (first | refine blk_drewN ?_ _ | refine blk_drew ?_ | refine blk_alloc ?_ _)); exact BK233.out⟩, ⟨by repeat (first | (with_reducible first | exact HB.out | apply below_alloc | apply pw_below_drewN | apply below_drew1 | refine below_set ?_ GE218.out | refine below_set ?_ GE233.out) | exact HB.out)⟩⟩
                              case round => as_aux_lemma =>
                                clear H'
                                try clear c1
                                try clear c2
                                try clear p2
                                try clear q2
                                try clear hx2
                                try clear c3
                                try clear c4
                                try clear q4
                                try clear c5
                                try clear c5b0
                                try clear c6
                                try clear c6b0
                                try clear p6
                                try clear c7
                                try clear c7b0
                                try clear c7b1
                                try clear c8
                                try clear c12
                                try clear c17
                                try clear c17b0
                                try clear c18
                                try clear c18b0
                                try clear c20
                                try clear c20b0
                                try clear p22
                                try clear q22
                                try clear hx22
                                try clear p23
                                try clear q23
                                try clear hx23
                                try clear c28
                                try clear c33
                                try clear c33b0
                                try clear c34
                                try clear c34b0
                                try clear c35
                                try clear c35b0
                                try clear c35b1
                                try clear c37
                                try clear c41
                                try clear c41b0
                                try clear c41b1
                                try clear c42
                                try clear c42b0
                                try clear c42b1
                                try clear q45
                                try clear hcz15_0
                                try clear hcz15_1
                                try clear hcz24_0
                                try clear hcz24_1
                                try clear hcz29_0
                                try clear hcz29_1
                                try clear hfz15_0
                                try clear hfz15_1
                                try clear hfz24_0
                                try clear hfz24_1
                                try clear hfz29_0
                                try clear hfz29_1
                                try clear hx220_0
                                try clear hx224_0
                                try clear hx237_0
                                try clear hx237_1
                                try clear hx238_0
                                try clear hx238_1
                                try clear p2
                                try clear p22
                                try clear p220
                                try clear p224
                                try clear p237
                                try clear p238
                                try clear q2
                                try clear q22
                                try clear q220
                                try clear q224
                                try clear q237
                                try clear q238
                                try clear q45
                                obtain ⟨x19_4, x20_4, rfl, rfl, HA, HK4, HO_9, HO_16, HO_219001, HO_234001, BK218, BK233, HB⟩ := hrel
                                cases gk with
                                | zero => exact absurd HA.out (by simp [vmfleetlaw33_SwitchLearns.l2])
                                | succ k4 =>
                                  have H := HA.out
                                  clear HA
                                  simp only [vmfleetlaw33_SwitchLearns.l2] at H
                                  by_cases c46 : x20_4 < (y242.length : Int)
                                  · rw [if_pos c46] at H
                                    have c46b0 : decide (x20_4 < (y242.length : Int)) = true := decide_eq_true c46
                                    clear c46
                                    by_cases c47 : 0 ≤ x20_4
                                    · rw [if_pos c47] at H
                                      have c47b0 : decide (0 ≤ x20_4) = true := decide_eq_true c47
                                      clear c47
                                      by_cases c48 : ((rd_T35 y242 x20_4).f0) = t222
                                      · rw [if_pos c48] at H
                                        have c48b0 : (((rd_T35 y242 x20_4).f0) == t222) = true := beq_iff_eq.mpr c48
                                        have c48b1 : (((rd_T35 y242 x20_4).f0) != t222) = false := bne_eq_false_iff_eq.mpr c48
                                        clear c48
                                        have H' := Aside0.mk H
                                        clear H
                                        have p245 : 0 ≤ (x20_4 : Int) := of_decide_eq_true (by first | (with_reducible assumption) | assumption)
                                        have q245 : x20_4 < (y242.length : Int) := of_decide_eq_true (by first | (with_reducible assumption) | assumption)
                                        obtain ⟨ad245, e245, hx245_0, hx245_1⟩ := at_T35 (Kd.R_reads' HO_9.out).2.2 x20_4 p245 q245
                                        cases e245
                                        replace p245 := eq_true p245
                                        replace q245 := eq_true q245
                                        have p246 : 0 ≤ (x20_4 : Int) := of_decide_eq_true (by first | (with_reducible assumption) | assumption)
                                        have q246 : x20_4 < (y242.length : Int) := of_decide_eq_true (by first | (with_reducible assumption) | assumption)
                                        obtain ⟨ad246, e246, hx246_0, hx246_1⟩ := at_T35 (Kd.R_reads' HO_9.out).2.2 x20_4 p246 q246
                                        obtain rfl : ad245 = ad246 := (by injection e246)
                                        replace p246 := eq_true p246
                                        replace q246 := eq_true q246
                                        as_aux_lemma =>
                                        go_wp2
                                        repeat (go_quiet (fail); try go_wp2)
                                        go_roundg k4
                                        case measure => have := HJ3.out; have := HK2.out; have := HK3.out; have := HK4.out; omega
                                        case rel => exact ⟨((rd_T35 y242 x20_4).f1), (wrap64 (x20_4 + 1)), (by first | rfl | (simp; done) | (simp [*]; done)), (by first | rfl | (simp; done) | (simp [*]; done)), H', ⟨by have := HJ3.out; have := HK2.out; have := HK3.out; have := HK4.out; omega⟩, ⟨by (with_reducible repeat (first | apply Kd.R_alloc | apply Kd.R_drewN | apply Kd.R_drew)); exact HO_9.out⟩, ⟨by (with_reducible repeat (first | apply Kd.R_alloc | apply Kd.R_drewN | apply Kd.R_drew)); exact HO_16.out⟩, ⟨by (with_reducible repeat (first | apply Kd.R_alloc | apply Kd.R_drewN | apply Kd.R_drew)); exact HO_219001.out⟩, ⟨by (with_reducible repeat (first | apply Kd.R_alloc | apply Kd.R_drewN | apply Kd.R_drew)); exact HO_234001.out⟩, ⟨by (with_reducible repeat (first | refine blk_drewN ?_ _ | refine blk_drew ?_ | refine blk_alloc ?_ _)); exact BK218.out⟩, ⟨by (with_reducible repeat (first | refine blk_drewN ?_ _ | refine blk_drew ?_ | refine blk_alloc ?_ _)); exact BK233.out⟩, ⟨by repeat (first | (with_reducible first | exact HB.out | apply below_alloc | apply pw_below_drewN | apply below_drew1 | refine below_set ?_ GE218.out | refine below_set ?_ GE233.out) | exact HB.out)⟩⟩
                                      · rw [if_neg c48] at H
                                        have c48b0 : (((rd_T35 y242 x20_4).f0) == t222) = false := beq_eq_false_iff_ne.mpr c48
                                        have c48b1 : (((rd_T35 y242 x20_4).f0) != t222) = true := bne_iff_ne.mpr c48
                                        have H' := Aside0.mk H
                                        clear H
                                        have p245 : 0 ≤ (x20_4 : Int) := of_decide_eq_true (by first | (with_reducible assumption) | assumption)
                                        have q245 : x20_4 < (y242.length : Int) := of_decide_eq_true (by first | (with_reducible assumption) | assumption)
                                        obtain ⟨ad245, e245, hx245_0, hx245_1⟩ := at_T35 (Kd.R_reads' HO_9.out).2.2 x20_4 p245 q245
                                        cases e245
                                        replace p245 := eq_true p245
                                        replace q245 := eq_true q245
                                        as_aux_lemma =>
                                        go_wp2
                                        repeat (go_quiet (fail); try go_wp2)
                                        go_roundg k4
                                        case measure => have := HJ3.out; have := HK2.out; have := HK3.out; have := HK4.out; omega
                                        case rel => exact ⟨(x19_4), (wrap64 (x20_4 + 1)), (by first | rfl | (simp; done) | (simp [*]; done)), (by first | rfl | (simp; done) | (simp [*]; done)), H', ⟨by have := HJ3.out; have := HK2.out; have := HK3.out; have := HK4.out; omega⟩, ⟨by (with_reducible repeat (first | apply Kd.R_alloc | apply Kd.R_drewN | apply Kd.R_drew)); exact HO_9.out⟩, ⟨by (with_reducible repeat (first | apply Kd.R_alloc | apply Kd.R_drewN | apply Kd.R_drew)); exact HO_16.out⟩, ⟨by (with_reducible repeat (first | apply Kd.R_alloc | apply Kd.R_drewN | apply Kd.R_drew)); exact HO_219001.out⟩, ⟨by (with_reducible repeat (first | apply Kd.R_alloc | apply Kd.R_drewN | apply Kd.R_drew)); exact HO_234001.out⟩, ⟨by (with_reducible repeat (first | refine blk_drewN ?_ _ | refine blk_drew ?_ | refine blk_alloc ?_ _)); exact BK218.out⟩, ⟨by (with_reducible repeat (first | refine blk_drewN ?_ _ | refine blk_drew ?_ | refine blk_alloc ?_ _)); exact BK233.out⟩, ⟨by repeat (first | (with_reducible first | exact HB.out | apply below_alloc | apply pw_below_drewN | apply below_drew1 | refine below_set ?_ GE218.out | refine below_set ?_ GE233.out) | exact HB.out)⟩⟩
                                    · rw [if_neg c47] at H
                                      exact absurd H (by simp)
                                  · rw [if_neg c46] at H
                                    have c46b0 : decide (x20_4 < (y242.length : Int)) = false := decide_eq_false c46
                                    clear c46
                                    have HC49 := Aside0.mk H
                                    clear H
                                    go_upto_if 127 with (fail)
                                    repeat (go_quiet (fail); go_upto_if 127 with (fail))
                                    go_cut [21] (fun v21 wc => ∃ (kq : Nat) (x21_48 : Int), v21 = .int .i64 x21_48 ∧ Aside0 (vmfleetlaw33_SwitchLearns.j4 kq a0 l1 l2 y242 x10_2 t225 t230 x19_4 x21_48 t226 t227 = some r) ∧ Aside0 (kq ≤ k4) ∧ Aside0 (Kd.R k35 35 wc w.heap.size (fun k_ => some k_ ≠ ((.slice Ao25 x219001_2.length co25) : Value).ownBlock ∧ some k_ ≠ ((.slice Ao30 t227.length co30) : Value).ownBlock) (.slice Ao44 y242.length co44) y242) ∧ Aside0 (Kd.R (Kd.int .i64) 3 wc w.heap.size (fun _ => True) v231 t230) ∧ Aside0 (Kd.R k35 35 wc w.heap.size (fun k_ => some k_ ≠ ((.slice Ao44 y242.length co44) : Value).ownBlock ∧ some k_ ≠ ((.slice Ao30 t227.length co30) : Value).ownBlock) (.slice Ao25 x219001_2.length co25) x219001_2) ∧ Aside0 (Kd.R k35 35 wc w.heap.size (fun k_ => some k_ ≠ ((.slice Ao44 y242.length co44) : Value).ownBlock ∧ some k_ ≠ ((.slice Ao25 x219001_2.length co25) : Value).ownBlock) (.slice Ao30 t227.length co30) t227) ∧ Aside0 (wc.heap[gb218]? = some (.cells #[.int .i64 x219000_2, (.slice Ao25 x219001_2.length co25)] 26 (0, 0))) ∧ Aside0 (wc.heap[gb233]? = some (.cells #[.int .i64 t226, (.slice Ao30 t227.length co30)] 26 (0, 0))) ∧ Aside0 (Below w.heap.size w wc))
                                    case first =>
                                      have H := HC49.out
                                      clear HC49
                                      by_cases c50 : x19_4 ≥ 0
                                      · rw [if_pos c50] at H
                                        have c50b0 : decide (0 ≤ x19_4) = true := decide_eq_true c50
                                        clear c50
                                        (first | rw [c50b0] | (simp only [i64_w, i32_w]; rw [c50b0]) | skip)
                                        have H' := Aside0.mk H
                                        clear H
                                        go_wp2
                                        repeat (go_quiet (fail); try go_wp2)
                                        go_meet
                                        case rel => exact ⟨_, (1), (by first | rfl | (simp; done) | (simp [*]; done)), H', ⟨by have := HJ3.out; have := HK2.out; have := HK3.out; have := HK4.out; first | omega | exact Nat.le_refl _⟩, ⟨by (with_reducible repeat (first | apply Kd.R_alloc | apply Kd.R_drewN | apply Kd.R_drew)); exact HO_9.out⟩, ⟨by (with_reducible repeat (first | apply Kd.R_alloc | apply Kd.R_drewN | apply Kd.R_drew)); exact HO_16.out⟩, ⟨by (with_reducible repeat (first | apply Kd.R_alloc | apply Kd.R_drewN | apply Kd.R_drew)); exact HO_219001.out⟩, ⟨by (with_reducible repeat (first | apply Kd.R_alloc | apply Kd.R_drewN | apply Kd.R_drew)); exact HO_234001.out⟩, ⟨by (with_reducible repeat (first | refine blk_drewN ?_ _ | refine blk_drew ?_ | refine blk_alloc ?_ _)); exact BK218.out⟩, ⟨by (with_reducible repeat (first | refine blk_drewN ?_ _ | refine blk_drew ?_ | refine blk_alloc ?_ _)); exact BK233.out⟩, ⟨by repeat (first | (with_reducible first | exact HB.out | apply below_alloc | apply pw_below_drewN | apply below_drew1 | refine below_set ?_ GE218.out | refine below_set ?_ GE233.out) | exact HB.out)⟩⟩
                                      · rw [if_neg c50] at H
                                        have c50b0 : decide (0 ≤ x19_4) = false := decide_eq_false c50
                                        clear c50
                                        (first | rw [c50b0] | (simp only [i64_w, i32_w]; rw [c50b0]) | skip)
                                        have H' := Aside0.mk H
                                        clear H
                                        go_wp2
                                        repeat (go_quiet (fail); try go_wp2)
                                        go_meet
                                        case rel => exact ⟨_, (wrap64 (a0 - 1)), (by first | rfl | (simp; done) | (simp [*]; done)), H', ⟨by have := HJ3.out; have := HK2.out; have := HK3.out; have := HK4.out; first | omega | exact Nat.le_refl _⟩, ⟨by (with_reducible repeat (first | apply Kd.R_alloc | apply Kd.R_drewN | apply Kd.R_drew)); exact HO_9.out⟩, ⟨by (with_reducible repeat (first | apply Kd.R_alloc | apply Kd.R_drewN | apply Kd.R_drew)); exact HO_16.out⟩, ⟨by (with_reducible repeat (first | apply Kd.R_alloc | apply Kd.R_drewN | apply Kd.R_drew)); exact HO_219001.out⟩, ⟨by (with_reducible repeat (first | apply Kd.R_alloc | apply Kd.R_drewN | apply Kd.R_drew)); exact HO_234001.out⟩, ⟨by (with_reducible repeat (first | refine blk_drewN ?_ _ | refine blk_drew ?_ | refine blk_alloc ?_ _)); exact BK218.out⟩, ⟨by (with_reducible repeat (first | refine blk_drewN ?_ _ | refine blk_drew ?_ | refine blk_alloc ?_ _)); exact BK233.out⟩, ⟨by repeat (first | (with_reducible first | exact HB.out | apply below_alloc | apply pw_below_drewN | apply below_drew1 | refine below_set ?_ GE218.out | refine below_set ?_ GE233.out) | exact HB.out)⟩⟩
                                    case rest =>
                                      clear HC49
                                      try clear c1
                                      try clear c2
                                      try clear p2
                                      try clear q2
                                      try clear hx2
                                      try clear c3
                                      try clear c4
                                      try clear q4
                                      try clear c5
                                      try clear c5b0
                                      try clear c6
                                      try clear c6b0
                                      try clear p6
                                      try clear c7
                                      try clear c7b0
                                      try clear c7b1
                                      try clear c8
                                      try clear c12
                                      try clear c17
                                      try clear c17b0
                                      try clear c18
                                      try clear c18b0
                                      try clear c20
                                      try clear c20b0
                                      try clear p22
                                      try clear q22
                                      try clear hx22
                                      try clear p23
                                      try clear q23
                                      try clear hx23
                                      try clear p24
                                      try clear q24
                                      try clear hx24
                                      try clear c28
                                      try clear c33
                                      try clear c33b0
                                      try clear c34
                                      try clear c34b0
                                      try clear c35
                                      try clear c35b0
                                      try clear c35b1
                                      try clear c37
                                      try clear c41
                                      try clear c41b0
                                      try clear c41b1
                                      try clear c42
                                      try clear c42b0
                                      try clear c42b1
                                      try clear q45
                                      try clear c46
                                      try clear c46b0
                                      try clear c47
                                      try clear c47b0
                                      try clear c48
                                      try clear c48b0
                                      try clear c48b1
                                      try clear c50
                                      try clear c50b0
                                      try clear hcz15_0
                                      try clear hcz15_1
                                      try clear hcz24_0
                                      try clear hcz24_1
                                      try clear hcz29_0
                                      try clear hcz29_1
                                      try clear hfz15_0
                                      try clear hfz15_1
                                      try clear hfz24_0
                                      try clear hfz24_1
                                      try clear hfz29_0
                                      try clear hfz29_1
                                      try clear hx220_0
                                      try clear hx224_0
                                      try clear hx237_0
                                      try clear hx237_1
                                      try clear hx238_0
                                      try clear hx238_1
                                      try clear hx245_0
                                      try clear hx245_1
                                      try clear hx246_0
                                      try clear hx246_1
                                      try clear p2
                                      try clear p22
                                      try clear p220
                                      try clear p224
                                      try clear p23
                                      try clear p237
                                      try clear p238
                                      try clear p245
                                      try clear p246
                                      try clear p6
                                      try clear q2
                                      try clear q22
                                      try clear q220
                                      try clear q224
                                      try clear q23
                                      try clear q237
                                      try clear q238
                                      try clear q245
                                      try clear q246
                                      try clear q4
                                      try clear q45
                                      obtain ⟨kq, x21_48, rfl, HA, HJ48, HO_9, HO_16, HO_219001, HO_234001, BK218, BK233, HB⟩ := hcut
                                      cases kq with
                                      | zero => exact absurd HA.out (by simp [vmfleetlaw33_SwitchLearns.j4])
                                      | succ kj48 =>
                                        have H := HA.out
                                        clear HA
                                        simp only [vmfleetlaw33_SwitchLearns.j4] at H
                                        have HC51 := Aside0.mk H
                                        clear H
                                        go_upto_if 130 with (fail)
                                        repeat (go_quiet (fail); go_upto_if 130 with (fail))
                                        go_cut [21] (fun v21 wc => ∃ (kq : Nat) (x21_50 : Int), v21 = .int .i64 x21_50 ∧ Aside0 (vmfleetlaw33_SwitchLearns.j5 kq a0 l1 l2 y242 x10_2 t225 t230 x19_4 x21_50 t226 t227 = some r) ∧ Aside0 (kq ≤ kj48) ∧ Aside0 (Kd.R k35 35 wc w.heap.size (fun k_ => some k_ ≠ ((.slice Ao25 x219001_2.length co25) : Value).ownBlock ∧ some k_ ≠ ((.slice Ao30 t227.length co30) : Value).ownBlock) (.slice Ao44 y242.length co44) y242) ∧ Aside0 (Kd.R (Kd.int .i64) 3 wc w.heap.size (fun _ => True) v231 t230) ∧ Aside0 (Kd.R k35 35 wc w.heap.size (fun k_ => some k_ ≠ ((.slice Ao44 y242.length co44) : Value).ownBlock ∧ some k_ ≠ ((.slice Ao30 t227.length co30) : Value).ownBlock) (.slice Ao25 x219001_2.length co25) x219001_2) ∧ Aside0 (Kd.R k35 35 wc w.heap.size (fun k_ => some k_ ≠ ((.slice Ao44 y242.length co44) : Value).ownBlock ∧ some k_ ≠ ((.slice Ao25 x219001_2.length co25) : Value).ownBlock) (.slice Ao30 t227.length co30) t227) ∧ Aside0 (wc.heap[gb218]? = some (.cells #[.int .i64 x219000_2, (.slice Ao25 x219001_2.length co25)] 26 (0, 0))) ∧ Aside0 (wc.heap[gb233]? = some (.cells #[.int .i64 t226, (.slice Ao30 t227.length co30)] 26 (0, 0))) ∧ Aside0 (Below w.heap.size w wc))
                                        case first =>
                                          have H := HC51.out
                                          clear HC51
                                          by_cases c52 : x19_4 = t225
                                          · rw [if_pos c52] at H
                                            have c52b0 : (x19_4 == t225) = true := beq_iff_eq.mpr c52
                                            have c52b1 : (x19_4 != t225) = false := bne_eq_false_iff_eq.mpr c52
                                            clear c52
                                            (first | rw [c52b0] | (simp only [i64_w, i32_w]; rw [c52b0]) | skip)
                                            have H' := Aside0.mk H
                                            clear H
                                            go_wp2
                                            repeat (go_quiet (fail); try go_wp2)
                                            go_meet
                                            case rel => exact ⟨_, (0), (by first | rfl | (simp; done) | (simp [*]; done)), H', ⟨by have := HJ3.out; have := HK2.out; have := HK3.out; have := HK4.out; have := HJ48.out; first | omega | exact Nat.le_refl _⟩, ⟨by (with_reducible repeat (first | apply Kd.R_alloc | apply Kd.R_drewN | apply Kd.R_drew)); exact HO_9.out⟩, ⟨by (with_reducible repeat (first | apply Kd.R_alloc | apply Kd.R_drewN | apply Kd.R_drew)); exact HO_16.out⟩, ⟨by (with_reducible repeat (first | apply Kd.R_alloc | apply Kd.R_drewN | apply Kd.R_drew)); exact HO_219001.out⟩, ⟨by (with_reducible repeat (first | apply Kd.R_alloc | apply Kd.R_drewN | apply Kd.R_drew)); exact HO_234001.out⟩, ⟨by (with_reducible repeat (first | refine blk_drewN ?_ _ | refine blk_drew ?_ | refine blk_alloc ?_ _)); exact BK218.out⟩, ⟨by (with_reducible repeat (first | refine blk_drewN ?_ _ | refine blk_drew ?_ | refine blk_alloc ?_ _)); exact BK233.out⟩, ⟨by repeat (first | (with_reducible first | exact HB.out | apply below_alloc | apply pw_below_drewN | apply below_drew1 | refine below_set ?_ GE218.out | refine below_set ?_ GE233.out) | exact HB.out)⟩⟩
                                          · rw [if_neg c52] at H
                                            have c52b0 : (x19_4 == t225) = false := beq_eq_false_iff_ne.mpr c52
                                            have c52b1 : (x19_4 != t225) = true := bne_iff_ne.mpr c52
                                            (first | rw [c52b0] | (simp only [i64_w, i32_w]; rw [c52b0]) | skip)
                                            have H' := Aside0.mk H
                                            clear H
                                            go_wp2
                                            repeat (go_quiet (fail); try go_wp2)
                                            go_meet
                                            case rel => exact ⟨_, (x21_48), (by first | rfl | (simp; done) | (simp [*]; done)), H', ⟨by have := HJ3.out; have := HK2.out; have := HK3.out; have := HK4.out; have := HJ48.out; first | omega | exact Nat.le_refl _⟩, ⟨by (with_reducible repeat (first | apply Kd.R_alloc | apply Kd.R_drewN | apply Kd.R_drew)); exact HO_9.out⟩, ⟨by (with_reducible repeat (first | apply Kd.R_alloc | apply Kd.R_drewN | apply Kd.R_drew)); exact HO_16.out⟩, ⟨by (with_reducible repeat (first | apply Kd.R_alloc | apply Kd.R_drewN | apply Kd.R_drew)); exact HO_219001.out⟩, ⟨by (with_reducible repeat (first | apply Kd.R_alloc | apply Kd.R_drewN | apply Kd.R_drew)); exact HO_234001.out⟩, ⟨by (with_reducible repeat (first | refine blk_drewN ?_ _ | refine blk_drew ?_ | refine blk_alloc ?_ _)); exact BK218.out⟩, ⟨by (with_reducible repeat (first | refine blk_drewN ?_ _ | refine blk_drew ?_ | refine blk_alloc ?_ _)); exact BK233.out⟩, ⟨by repeat (first | (with_reducible first | exact HB.out | apply below_alloc | apply pw_below_drewN | apply below_drew1 | refine below_set ?_ GE218.out | refine below_set ?_ GE233.out) | exact HB.out)⟩⟩
                                        case rest =>
                                          clear HC51
                                          try clear c1
                                          try clear c2
                                          try clear p2
                                          try clear q2
                                          try clear hx2
                                          try clear c3
                                          try clear c4
                                          try clear q4
                                          try clear c5
                                          try clear c5b0
                                          try clear c6
                                          try clear c6b0
                                          try clear p6
                                          try clear c7
                                          try clear c7b0
                                          try clear c7b1
                                          try clear c8
                                          try clear c12
                                          try clear c17
                                          try clear c17b0
                                          try clear c18
                                          try clear c18b0
                                          try clear c20
                                          try clear c20b0
                                          try clear p22
                                          try clear q22
                                          try clear hx22
                                          try clear p23
                                          try clear q23
                                          try clear hx23
                                          try clear p24
                                          try clear q24
                                          try clear hx24
                                          try clear c28
                                          try clear c33
                                          try clear c33b0
                                          try clear c34
                                          try clear c34b0
                                          try clear c35
                                          try clear c35b0
                                          try clear c35b1
                                          try clear c37
                                          try clear c41
                                          try clear c41b0
                                          try clear c41b1
                                          try clear c42
                                          try clear c42b0
                                          try clear c42b1
                                          try clear q45
                                          try clear c46
                                          try clear c46b0
                                          try clear c47
                                          try clear c47b0
                                          try clear c48
                                          try clear c48b0
                                          try clear c48b1
                                          try clear c50
                                          try clear c50b0
                                          try clear c52
                                          try clear c52b0
                                          try clear c52b1
                                          try clear hcz15_0
                                          try clear hcz15_1
                                          try clear hcz24_0
                                          try clear hcz24_1
                                          try clear hcz29_0
                                          try clear hcz29_1
                                          try clear hfz15_0
                                          try clear hfz15_1
                                          try clear hfz24_0
                                          try clear hfz24_1
                                          try clear hfz29_0
                                          try clear hfz29_1
                                          try clear hx220_0
                                          try clear hx224_0
                                          try clear hx237_0
                                          try clear hx237_1
                                          try clear hx238_0
                                          try clear hx238_1
                                          try clear hx245_0
                                          try clear hx245_1
                                          try clear hx246_0
                                          try clear hx246_1
                                          try clear p2
                                          try clear p22
                                          try clear p220
                                          try clear p224
                                          try clear p23
                                          try clear p237
                                          try clear p238
                                          try clear p24
                                          try clear p245
                                          try clear p246
                                          try clear p6
                                          try clear q2
                                          try clear q22
                                          try clear q220
                                          try clear q224
                                          try clear q23
                                          try clear q237
                                          try clear q238
                                          try clear q24
                                          try clear q245
                                          try clear q246
                                          try clear q4
                                          try clear q45
                                          obtain ⟨kq, x21_50, rfl, HA, HJ50, HO_9, HO_16, HO_219001, HO_234001, BK218, BK233, HB⟩ := hcut
                                          cases kq with
                                          | zero => exact absurd HA.out (by simp [vmfleetlaw33_SwitchLearns.j5])
                                          | succ kj50 =>
                                            have H := HA.out
                                            clear HA
                                            simp only [vmfleetlaw33_SwitchLearns.j5] at H
                                            by_cases c53 : (t230.length : Int) = x21_50
                                            · rw [if_pos c53] at H
                                              have c53b0 : ((t230.length : Int) == x21_50) = true := beq_iff_eq.mpr c53
                                              have c53b1 : ((t230.length : Int) != x21_50) = false := bne_eq_false_iff_eq.mpr c53
                                              clear c53
                                              have H' := Aside0.mk H
                                              clear H
                                              obtain ⟨Ao54, co54, eo54⟩ := Kd.R_slice HO_16.out
                                              subst eo54
                                              go_wp2
                                              repeat (go_quiet (fail); try go_wp2)
                                              go_loopg [22] kj50 (fun kq v22 w' => ∃ (x22_7 : Int), v22 = .int .i64 x22_7 ∧ Aside0 (vmfleetlaw33_SwitchLearns.l3 kq a0 l1 l2 y242 x10_2 t225 t230 x19_4 x22_7 t226 t227 = some r) ∧ Aside0 (kq ≤ kj50) ∧ Aside0 (Kd.R k35 35 w' w.heap.size (fun k_ => some k_ ≠ ((.slice Ao25 x219001_2.length co25) : Value).ownBlock ∧ some k_ ≠ ((.slice Ao30 t227.length co30) : Value).ownBlock) (.slice Ao44 y242.length co44) y242) ∧ Aside0 (Kd.R (Kd.int .i64) 3 w' w.heap.size (fun _ => True) (.slice Ao54 t230.length co54) t230) ∧ Aside0 (Kd.R k35 35 w' w.heap.size (fun k_ => some k_ ≠ ((.slice Ao44 y242.length co44) : Value).ownBlock ∧ some k_ ≠ ((.slice Ao30 t227.length co30) : Value).ownBlock) (.slice Ao25 x219001_2.length co25) x219001_2) ∧ Aside0 (Kd.R k35 35 w' w.heap.size (fun k_ => some k_ ≠ ((.slice Ao44 y242.length co44) : Value).ownBlock ∧ some k_ ≠ ((.slice Ao25 x219001_2.length co25) : Value).ownBlock) (.slice Ao30 t227.length co30) t227) ∧ Aside0 (w'.heap[gb218]? = some (.cells #[.int .i64 x219000_2, (.slice Ao25 x219001_2.length co25)] 26 (0, 0))) ∧ Aside0 (w'.heap[gb233]? = some (.cells #[.int .i64 t226, (.slice Ao30 t227.length co30)] 26 (0, 0))) ∧ Aside0 (Below w.heap.size w w'))
                                              case atStart => exact ⟨(0), (by first | rfl | (simp; done) | (simp [*]; done)), H', ⟨Nat.le_refl _⟩, ⟨by (with_reducible repeat (first | apply Kd.R_alloc | apply Kd.R_drewN | apply Kd.R_drew)); exact HO_9.out⟩, ⟨by (with_reducible repeat (first | apply Kd.R_alloc | apply Kd.R_drewN | apply Kd.R_drew)); exact HO_16.out⟩, ⟨by (with_reducible repeat (first | apply Kd.R_alloc | apply Kd.R_drewN | apply Kd.R_drew)); exact HO_219001.out⟩, ⟨by (with_reducible repeat (first | apply Kd.R_alloc | apply Kd.R_drewN | apply Kd.R_drew)); exact HO_234001.out⟩, ⟨by (with_reducible repeat (first | refine blk_drewN ?_ _ | refine blk_drew ?_ | refine blk_alloc ?_ _)); exact BK218.out⟩, ⟨by (with_reducible repeat (first | refine blk_drewN ?_ _ | refine blk_drew ?_ | refine blk_alloc ?_ _)); exact BK233.out⟩, ⟨by repeat (first | (with_reducible first | exact HB.out | apply below_alloc | apply pw_below_drewN | apply below_drew1 | refine below_set ?_ GE218.out | refine below_set ?_ GE233.out) | exact HB.out)⟩⟩
                                              case round => as_aux_lemma =>
                                                clear H'
                                                try clear c1
                                                try clear c2
                                                try clear p2
                                                try clear q2
                                                try clear hx2
                                                try clear c3
                                                try clear c4
                                                try clear q4
                                                try clear c5
                                                try clear c5b0
                                                try clear c6
                                                try clear c6b0
                                                try clear p6
                                                try clear c7
                                                try clear c7b0
                                                try clear c7b1
                                                try clear c8
                                                try clear c12
                                                try clear c17
                                                try clear c17b0
                                                try clear c18
                                                try clear c18b0
                                                try clear c20
                                                try clear c20b0
                                                try clear p22
                                                try clear q22
                                                try clear hx22
                                                try clear p23
                                                try clear q23
                                                try clear hx23
                                                try clear p24
                                                try clear q24
                                                try clear hx24
                                                try clear c28
                                                try clear c33
                                                try clear c33b0
                                                try clear c34
                                                try clear c34b0
                                                try clear c35
                                                try clear c35b0
                                                try clear c35b1
                                                try clear c37
                                                try clear c41
                                                try clear c41b0
                                                try clear c41b1
                                                try clear c42
                                                try clear c42b0
                                                try clear c42b1
                                                try clear q45
                                                try clear c46
                                                try clear c46b0
                                                try clear c47
                                                try clear c47b0
                                                try clear c48
                                                try clear c48b0
                                                try clear c48b1
                                                try clear c50
                                                try clear c50b0
                                                try clear c52
                                                try clear c52b0
                                                try clear c52b1
                                                try clear c53
                                                try clear c53b0
                                                try clear c53b1
                                                try clear hcz15_0
                                                try clear hcz15_1
                                                try clear hcz24_0
                                                try clear hcz24_1
                                                try clear hcz29_0
                                                try clear hcz29_1
                                                try clear hfz15_0
                                                try clear hfz15_1
                                                try clear hfz24_0
                                                try clear hfz24_1
                                                try clear hfz29_0
                                                try clear hfz29_1
                                                try clear hx220_0
                                                try clear hx224_0
                                                try clear hx237_0
                                                try clear hx237_1
                                                try clear hx238_0
                                                try clear hx238_1
                                                try clear hx245_0
                                                try clear hx245_1
                                                try clear hx246_0
                                                try clear hx246_1
                                                try clear p2
                                                try clear p22
                                                try clear p220
                                                try clear p224
                                                try clear p23
                                                try clear p237
                                                try clear p238
                                                try clear p24
                                                try clear p245
                                                try clear p246
                                                try clear p6
                                                try clear q2
                                                try clear q22
                                                try clear q220
                                                try clear q224
                                                try clear q23
                                                try clear q237
                                                try clear q238
                                                try clear q24
                                                try clear q245
                                                try clear q246
                                                try clear q4
                                                try clear q45
                                                obtain ⟨x22_7, rfl, HA, HK7, HO_9, HO_16, HO_219001, HO_234001, BK218, BK233, HB⟩ := hrel
                                                cases gk with
                                                | zero => exact absurd HA.out (by simp [vmfleetlaw33_SwitchLearns.l3])
                                                | succ k7 =>
                                                  have H := HA.out
                                                  clear HA
                                                  simp only [vmfleetlaw33_SwitchLearns.l3] at H
                                                  by_cases c55 : x22_7 < (t230.length : Int)
                                                  · rw [if_pos c55] at H
                                                    have c55b0 : decide (x22_7 < (t230.length : Int)) = true := decide_eq_true c55
                                                    clear c55
                                                    by_cases c56 : 0 ≤ x22_7
                                                    · rw [if_pos c56] at H
                                                      have c56b0 : decide (0 ≤ x22_7) = true := decide_eq_true c56
                                                      clear c56
                                                      by_cases c57 : (rd t230 x22_7) = t225
                                                      · rw [if_pos c57] at H
                                                        have c57b0 : ((rd t230 x22_7) == t225) = true := beq_iff_eq.mpr c57
                                                        have c57b1 : ((rd t230 x22_7) != t225) = false := bne_eq_false_iff_eq.mpr c57
                                                        clear c57
                                                        obtain rfl := Option.some.inj H
                                                        have p247 : 0 ≤ (x22_7 : Int) := of_decide_eq_true (by first | (with_reducible assumption) | assumption)
                                                        have q247 : x22_7 < (t230.length : Int) := of_decide_eq_true (by first | (with_reducible assumption) | assumption)
                                                        obtain ⟨ad247, e247, hx247_0⟩ := Kd.at_int (Kd.R_reads' HO_16.out).2.2 x22_7 p247 q247
                                                        cases e247
                                                        replace p247 := eq_true p247
                                                        replace q247 := eq_true q247
                                                        as_aux_lemma =>
                                                        go_wp2
                                                        repeat (go_quiet (fail); try go_wp2)
                                                        go_ret
                                                        exact ⟨by first | rfl | (simp [errW_none, errW_some] <;> rfl) | (simp only [← hji40]; first | rfl | (simp [errW_none, errW_some] <;> rfl)) | (simp [*, errW_none, errW_some] <;> rfl), by repeat (first | (with_reducible first | exact HB.out | apply below_alloc | apply pw_below_drewN | apply below_drew1 | refine below_set ?_ GE218.out | refine below_set ?_ GE233.out) | exact HB.out)⟩
                                                      · rw [if_neg c57] at H
                                                        have c57b0 : ((rd t230 x22_7) == t225) = false := beq_eq_false_iff_ne.mpr c57
                                                        have c57b1 : ((rd t230 x22_7) != t225) = true := bne_iff_ne.mpr c57
                                                        by_cases c58 : (rd t230 x22_7) < 0
                                                        · rw [if_pos c58] at H
                                                          have c58b0 : decide ((rd t230 x22_7) < 0) = true := decide_eq_true c58
                                                          clear c58
                                                          obtain rfl := Option.some.inj H
                                                          have p247 : 0 ≤ (x22_7 : Int) := of_decide_eq_true (by first | (with_reducible assumption) | assumption)
                                                          have q247 : x22_7 < (t230.length : Int) := of_decide_eq_true (by first | (with_reducible assumption) | assumption)
                                                          obtain ⟨ad247, e247, hx247_0⟩ := Kd.at_int (Kd.R_reads' HO_16.out).2.2 x22_7 p247 q247
                                                          cases e247
                                                          replace p247 := eq_true p247
                                                          replace q247 := eq_true q247
                                                          have p248 : 0 ≤ (x22_7 : Int) := of_decide_eq_true (by first | (with_reducible assumption) | assumption)
                                                          have q248 : x22_7 < (t230.length : Int) := of_decide_eq_true (by first | (with_reducible assumption) | assumption)
                                                          obtain ⟨ad248, e248, hx248_0⟩ := Kd.at_int (Kd.R_reads' HO_16.out).2.2 x22_7 p248 q248
                                                          obtain rfl : ad247 = ad248 := (by injection e248)
                                                          replace p248 := eq_true p248
                                                          replace q248 := eq_true q248
                                                          as_aux_lemma =>
                                                          go_wp2
                                                          repeat (go_quiet (fail); try go_wp2)
                                                          go_ret
                                                          exact ⟨by first | rfl | (simp [errW_none, errW_some] <;> rfl) | (simp only [← hji40]; first | rfl | (simp [errW_none, errW_some] <;> rfl)) | (simp [*, errW_none, errW_some] <;> rfl), by repeat (first | (with_reducible first | exact HB.out | apply below_alloc | apply pw_below_drewN | apply below_drew1 | refine below_set ?_ GE218.out | refine below_set ?_ GE233.out) | exact HB.out)⟩
                                                        · rw [if_neg c58] at H
                                                          have c58b0 : decide ((rd t230 x22_7) < 0) = false := decide_eq_false c58
                                                          clear c58
                                                          by_cases c59 : (rd t230 x22_7) ≥ a0
                                                          · rw [if_pos c59] at H
                                                            have c59b0 : decide (a0 ≤ (rd t230 x22_7)) = true := decide_eq_true c59
                                                            clear c59
                                                            obtain rfl := Option.some.inj H
                                                            have p247 : 0 ≤ (x22_7 : Int) := of_decide_eq_true (by first | (with_reducible assumption) | assumption)
                                                            have q247 : x22_7 < (t230.length : Int) := of_decide_eq_true (by first | (with_reducible assumption) | assumption)
                                                            obtain ⟨ad247, e247, hx247_0⟩ := Kd.at_int (Kd.R_reads' HO_16.out).2.2 x22_7 p247 q247
                                                            cases e247
                                                            replace p247 := eq_true p247
                                                            replace q247 := eq_true q247
                                                            have p248 : 0 ≤ (x22_7 : Int) := of_decide_eq_true (by first | (with_reducible assumption) | assumption)
                                                            have q248 : x22_7 < (t230.length : Int) := of_decide_eq_true (by first | (with_reducible assumption) | assumption)
                                                            obtain ⟨ad248, e248, hx248_0⟩ := Kd.at_int (Kd.R_reads' HO_16.out).2.2 x22_7 p248 q248
                                                            obtain rfl : ad247 = ad248 := (by injection e248)
                                                            replace p248 := eq_true p248
                                                            replace q248 := eq_true q248
                                                            have p249 : 0 ≤ (x22_7 : Int) := of_decide_eq_true (by first | (with_reducible assumption) | assumption)
                                                            have q249 : x22_7 < (t230.length : Int) := of_decide_eq_true (by first | (with_reducible assumption) | assumption)
                                                            obtain ⟨ad249, e249, hx249_0⟩ := Kd.at_int (Kd.R_reads' HO_16.out).2.2 x22_7 p249 q249
                                                            obtain rfl : ad247 = ad249 := (by injection e249)
                                                            replace p249 := eq_true p249
                                                            replace q249 := eq_true q249
                                                            as_aux_lemma =>
                                                            go_wp2
                                                            repeat (go_quiet (fail); try go_wp2)
                                                            go_ret
                                                            exact ⟨by first | rfl | (simp [errW_none, errW_some] <;> rfl) | (simp only [← hji40]; first | rfl | (simp [errW_none, errW_some] <;> rfl)) | (simp [*, errW_none, errW_some] <;> rfl), by repeat (first | (with_reducible first | exact HB.out | apply below_alloc | apply pw_below_drewN | apply below_drew1 | refine below_set ?_ GE218.out | refine below_set ?_ GE233.out) | exact HB.out)⟩
                                                          · rw [if_neg c59] at H
                                                            have c59b0 : decide (a0 ≤ (rd t230 x22_7)) = false := decide_eq_false c59
                                                            clear c59
                                                            by_cases c60 : x22_7 > 0
                                                            · rw [if_pos c60] at H
                                                              have c60b0 : decide (0 < x22_7) = true := decide_eq_true c60
                                                              clear c60
                                                              obtain ⟨ji61, hji61⟩ : ∃ j_ : Int, (wrap64 (x22_7 - 1)) = j_ := ⟨_, rfl⟩
                                                              replace H : (if 0 ≤ (ji61) then (if (ji61) < (t230.length : Int) then (if (rd t230 x22_7) ≤ (rd t230 (ji61)) then (some false) else (if x19_4 ≥ 0 then (if (rd t230 x22_7) = x19_4 then (vmfleetlaw33_SwitchLearns.l3 k7 a0 l1 l2 y242 x10_2 t225 t230 x19_4 (wrap64 (x22_7 + 1)) t226 t227) else (some false)) else (vmfleetlaw33_SwitchLearns.l3 k7 a0 l1 l2 y242 x10_2 t225 t230 x19_4 (wrap64 (x22_7 + 1)) t226 t227))) else (none)) else (none)) = some r := by first | (rw [hji61] at H; exact H) | (simp only [hji61] at H ⊢; exact H)
                                                              have hji61w : (IntKind.i64.wrap (x22_7 - 1)) = ji61 := (i64_w _).trans hji61
                                                              by_cases c62 : 0 ≤ (ji61)
                                                              · rw [if_pos c62] at H
                                                                have c62b0 : decide (0 ≤ (ji61)) = true := decide_eq_true c62
                                                                clear c62
                                                                by_cases c63 : (ji61) < (t230.length : Int)
                                                                · rw [if_pos c63] at H
                                                                  have c63b0 : decide ((ji61) < (t230.length : Int)) = true := decide_eq_true c63
                                                                  clear c63
                                                                  by_cases c64 : (rd t230 x22_7) ≤ (rd t230 (ji61))
                                                                  · rw [if_pos c64] at H
                                                                    have c64b0 : decide ((rd t230 x22_7) ≤ (rd t230 (ji61))) = true := decide_eq_true c64
                                                                    clear c64
                                                                    obtain rfl := Option.some.inj H
                                                                    have p247 : 0 ≤ (x22_7 : Int) := of_decide_eq_true (by first | (with_reducible assumption) | assumption)
                                                                    have q247 : x22_7 < (t230.length : Int) := of_decide_eq_true (by first | (with_reducible assumption) | assumption)
                                                                    obtain ⟨ad247, e247, hx247_0⟩ := Kd.at_int (Kd.R_reads' HO_16.out).2.2 x22_7 p247 q247
                                                                    cases e247
                                                                    replace p247 := eq_true p247
                                                                    replace q247 := eq_true q247
                                                                    have p248 : 0 ≤ (x22_7 : Int) := of_decide_eq_true (by first | (with_reducible assumption) | assumption)
                                                                    have q248 : x22_7 < (t230.length : Int) := of_decide_eq_true (by first | (with_reducible assumption) | assumption)
                                                                    obtain ⟨ad248, e248, hx248_0⟩ := Kd.at_int (Kd.R_reads' HO_16.out).2.2 x22_7 p248 q248
                                                                    obtain rfl : ad247 = ad248 := (by injection e248)
                                                                    replace p248 := eq_true p248
                                                                    replace q248 := eq_true q248
                                                                    have p249 : 0 ≤ (x22_7 : Int) := of_decide_eq_true (by first | (with_reducible assumption) | assumption)
                                                                    have q249 : x22_7 < (t230.length : Int) := of_decide_eq_true (by first | (with_reducible assumption) | assumption)
                                                                    obtain ⟨ad249, e249, hx249_0⟩ := Kd.at_int (Kd.R_reads' HO_16.out).2.2 x22_7 p249 q249
                                                                    obtain rfl : ad247 = ad249 := (by injection e249)
                                                                    replace p249 := eq_true p249
                                                                    replace q249 := eq_true q249
                                                                    have p250 : 0 ≤ (x22_7 : Int) := of_decide_eq_true (by first | (with_reducible assumption) | assumption)
                                                                    have q250 : x22_7 < (t230.length : Int) := of_decide_eq_true (by first | (with_reducible assumption) | assumption)
                                                                    obtain ⟨ad250, e250, hx250_0⟩ := Kd.at_int (Kd.R_reads' HO_16.out).2.2 x22_7 p250 q250
                                                                    obtain rfl : ad247 = ad250 := (by injection e250)
                                                                    replace p250 := eq_true p250
                                                                    replace q250 := eq_true q250
                                                                    have p251 : 0 ≤ ((ji61) : Int) := of_decide_eq_true (by first | (with_reducible assumption) | assumption)
                                                                    have q251 : (ji61) < (t230.length : Int) := of_decide_eq_true (by first | (with_reducible assumption) | assumption)
                                                                    obtain ⟨ad251, e251, hx251_0⟩ := Kd.at_int (Kd.R_reads' HO_16.out).2.2 (ji61) p251 q251
                                                                    obtain rfl : ad247 = ad251 := (by injection e251)
                                                                    replace p251 := eq_true p251
                                                                    replace q251 := eq_true q251
                                                                    as_aux_lemma =>
                                                                    go_wp2
                                                                    repeat (go_quiet (fail); try go_wp2)
                                                                    go_ret
                                                                    exact ⟨by first | rfl | (simp [errW_none, errW_some] <;> rfl) | (simp only [← hji40, ← hji61]; first | rfl | (simp [errW_none, errW_some] <;> rfl)) | (simp [*, errW_none, errW_some] <;> rfl), by repeat (first | (with_reducible first | exact HB.out | apply below_alloc | apply pw_below_drewN | apply below_drew1 | refine below_set ?_ GE218.out | refine below_set ?_ GE233.out) | exact HB.out)⟩
                                                                  · rw [if_neg c64] at H
                                                                    have c64b0 : decide ((rd t230 x22_7) ≤ (rd t230 (ji61))) = false := decide_eq_false c64
                                                                    clear c64
                                                                    by_cases c65 : x19_4 ≥ 0
                                                                    · rw [if_pos c65] at H
                                                                      have c65b0 : decide (0 ≤ x19_4) = true := decide_eq_true c65
                                                                      clear c65
                                                                      by_cases c66 : (rd t230 x22_7) = x19_4
                                                                      · rw [if_pos c66] at H
                                                                        have c66b0 : ((rd t230 x22_7) == x19_4) = true := beq_iff_eq.mpr c66
                                                                        have c66b1 : ((rd t230 x22_7) != x19_4) = false := bne_eq_false_iff_eq.mpr c66
                                                                        clear c66
                                                                        have H' := Aside0.mk H
                                                                        clear H
                                                                        have p247 : 0 ≤ (x22_7 : Int) := of_decide_eq_true (by first | (with_reducible assumption) | assumption)
                                                                        have q247 : x22_7 < (t230.length : Int) := of_decide_eq_true (by first | (with_reducible assumption) | assumption)
                                                                        obtain ⟨ad247, e247, hx247_0⟩ := Kd.at_int (Kd.R_reads' HO_16.out).2.2 x22_7 p247 q247
                                                                        cases e247
                                                                        replace p247 := eq_true p247
                                                                        replace q247 := eq_true q247
                                                                        have p248 : 0 ≤ (x22_7 : Int) := of_decide_eq_true (by first | (with_reducible assumption) | assumption)
                                                                        have q248 : x22_7 < (t230.length : Int) := of_decide_eq_true (by first | (with_reducible assumption) | assumption)
                                                                        obtain ⟨ad248, e248, hx248_0⟩ := Kd.at_int (Kd.R_reads' HO_16.out).2.2 x22_7 p248 q248
                                                                        obtain rfl : ad247 = ad248 := (by injection e248)
                                                                        replace p248 := eq_true p248
                                                                        replace q248 := eq_true q248
                                                                        have p249 : 0 ≤ (x22_7 : Int) := of_decide_eq_true (by first | (with_reducible assumption) | assumption)
                                                                        have q249 : x22_7 < (t230.length : Int) := of_decide_eq_true (by first | (with_reducible assumption) | assumption)
                                                                        obtain ⟨ad249, e249, hx249_0⟩ := Kd.at_int (Kd.R_reads' HO_16.out).2.2 x22_7 p249 q249
                                                                        obtain rfl : ad247 = ad249 := (by injection e249)
                                                                        replace p249 := eq_true p249
                                                                        replace q249 := eq_true q249
                                                                        have p250 : 0 ≤ (x22_7 : Int) := of_decide_eq_true (by first | (with_reducible assumption) | assumption)
                                                                        have q250 : x22_7 < (t230.length : Int) := of_decide_eq_true (by first | (with_reducible assumption) | assumption)
                                                                        obtain ⟨ad250, e250, hx250_0⟩ := Kd.at_int (Kd.R_reads' HO_16.out).2.2 x22_7 p250 q250
                                                                        obtain rfl : ad247 = ad250 := (by injection e250)
                                                                        replace p250 := eq_true p250
                                                                        replace q250 := eq_true q250
                                                                        have p251 : 0 ≤ ((ji61) : Int) := of_decide_eq_true (by first | (with_reducible assumption) | assumption)
                                                                        have q251 : (ji61) < (t230.length : Int) := of_decide_eq_true (by first | (with_reducible assumption) | assumption)
                                                                        obtain ⟨ad251, e251, hx251_0⟩ := Kd.at_int (Kd.R_reads' HO_16.out).2.2 (ji61) p251 q251
                                                                        obtain rfl : ad247 = ad251 := (by injection e251)
                                                                        replace p251 := eq_true p251
                                                                        replace q251 := eq_true q251
                                                                        have p252 : 0 ≤ (x22_7 : Int) := of_decide_eq_true (by first | (with_reducible assumption) | assumption)
                                                                        have q252 : x22_7 < (t230.length : Int) := of_decide_eq_true (by first | (with_reducible assumption) | assumption)
                                                                        obtain ⟨ad252, e252, hx252_0⟩ := Kd.at_int (Kd.R_reads' HO_16.out).2.2 x22_7 p252 q252
                                                                        obtain rfl : ad247 = ad252 := (by injection e252)
                                                                        replace p252 := eq_true p252
                                                                        replace q252 := eq_true q252
                                                                        as_aux_lemma =>
                                                                        go_wp2
                                                                        repeat (go_quiet (fail); try go_wp2)
                                                                        go_roundg k7
                                                                        case measure => have := HJ3.out; have := HK2.out; have := HK3.out; have := HK4.out; have := HJ48.out; have := HJ50.out; have := HK7.out; omega
                                                                        case rel => exact ⟨(wrap64 (x22_7 + 1)), (by first | rfl | (simp; done) | (simp [*]; done)), H', ⟨by have := HJ3.out; have := HK2.out; have := HK3.out; have := HK4.out; have := HJ48.out; have := HJ50.out; have := HK7.out; omega⟩, ⟨by (with_reducible repeat (first | apply Kd.R_alloc | apply Kd.R_drewN | apply Kd.R_drew)); exact HO_9.out⟩, ⟨by (with_reducible repeat (first | apply Kd.R_alloc | apply Kd.R_drewN | apply Kd.R_drew)); exact HO_16.out⟩, ⟨by (with_reducible repeat (first | apply Kd.R_alloc | apply Kd.R_drewN | apply Kd.R_drew)); exact HO_219001.out⟩, ⟨by (with_reducible repeat (first | apply Kd.R_alloc | apply Kd.R_drewN | apply Kd.R_drew)); exact HO_234001.out⟩, ⟨by (with_reducible repeat (first | refine blk_drewN ?_ _ | refine blk_drew ?_ | refine blk_alloc ?_ _)); exact BK218.out⟩, ⟨by (with_reducible repeat (first | refine blk_drewN ?_ _ | refine blk_drew ?_ | refine blk_alloc ?_ _)); exact BK233.out⟩, ⟨by repeat (first | (with_reducible first | exact HB.out | apply below_alloc | apply pw_below_drewN | apply below_drew1 | refine below_set ?_ GE218.out | refine below_set ?_ GE233.out) | exact HB.out)⟩⟩
                                                                      · rw [if_neg c66] at H
                                                                        have c66b0 : ((rd t230 x22_7) == x19_4) = false := beq_eq_false_iff_ne.mpr c66
                                                                        have c66b1 : ((rd t230 x22_7) != x19_4) = true := bne_iff_ne.mpr c66
                                                                        obtain rfl := Option.some.inj H
                                                                        have p247 : 0 ≤ (x22_7 : Int) := of_decide_eq_true (by first | (with_reducible assumption) | assumption)
                                                                        have q247 : x22_7 < (t230.length : Int) := of_decide_eq_true (by first | (with_reducible assumption) | assumption)
                                                                        obtain ⟨ad247, e247, hx247_0⟩ := Kd.at_int (Kd.R_reads' HO_16.out).2.2 x22_7 p247 q247
                                                                        cases e247
                                                                        replace p247 := eq_true p247
                                                                        replace q247 := eq_true q247
                                                                        have p248 : 0 ≤ (x22_7 : Int) := of_decide_eq_true (by first | (with_reducible assumption) | assumption)
                                                                        have q248 : x22_7 < (t230.length : Int) := of_decide_eq_true (by first | (with_reducible assumption) | assumption)
                                                                        obtain ⟨ad248, e248, hx248_0⟩ := Kd.at_int (Kd.R_reads' HO_16.out).2.2 x22_7 p248 q248
                                                                        obtain rfl : ad247 = ad248 := (by injection e248)
                                                                        replace p248 := eq_true p248
                                                                        replace q248 := eq_true q248
                                                                        have p249 : 0 ≤ (x22_7 : Int) := of_decide_eq_true (by first | (with_reducible assumption) | assumption)
                                                                        have q249 : x22_7 < (t230.length : Int) := of_decide_eq_true (by first | (with_reducible assumption) | assumption)
                                                                        obtain ⟨ad249, e249, hx249_0⟩ := Kd.at_int (Kd.R_reads' HO_16.out).2.2 x22_7 p249 q249
                                                                        obtain rfl : ad247 = ad249 := (by injection e249)
                                                                        replace p249 := eq_true p249
                                                                        replace q249 := eq_true q249
                                                                        have p250 : 0 ≤ (x22_7 : Int) := of_decide_eq_true (by first | (with_reducible assumption) | assumption)
                                                                        have q250 : x22_7 < (t230.length : Int) := of_decide_eq_true (by first | (with_reducible assumption) | assumption)
                                                                        obtain ⟨ad250, e250, hx250_0⟩ := Kd.at_int (Kd.R_reads' HO_16.out).2.2 x22_7 p250 q250
                                                                        obtain rfl : ad247 = ad250 := (by injection e250)
                                                                        replace p250 := eq_true p250
                                                                        replace q250 := eq_true q250
                                                                        have p251 : 0 ≤ ((ji61) : Int) := of_decide_eq_true (by first | (with_reducible assumption) | assumption)
                                                                        have q251 : (ji61) < (t230.length : Int) := of_decide_eq_true (by first | (with_reducible assumption) | assumption)
                                                                        obtain ⟨ad251, e251, hx251_0⟩ := Kd.at_int (Kd.R_reads' HO_16.out).2.2 (ji61) p251 q251
                                                                        obtain rfl : ad247 = ad251 := (by injection e251)
                                                                        replace p251 := eq_true p251
                                                                        replace q251 := eq_true q251
                                                                        have p252 : 0 ≤ (x22_7 : Int) := of_decide_eq_true (by first | (with_reducible assumption) | assumption)
                                                                        have q252 : x22_7 < (t230.length : Int) := of_decide_eq_true (by first | (with_reducible assumption) | assumption)
                                                                        obtain ⟨ad252, e252, hx252_0⟩ := Kd.at_int (Kd.R_reads' HO_16.out).2.2 x22_7 p252 q252
                                                                        obtain rfl : ad247 = ad252 := (by injection e252)
                                                                        replace p252 := eq_true p252
                                                                        replace q252 := eq_true q252
                                                                        as_aux_lemma =>
                                                                        go_wp2
                                                                        repeat (go_quiet (fail); try go_wp2)
                                                                        go_ret
                                                                        exact ⟨by first | rfl | (simp [errW_none, errW_some] <;> rfl) | (simp only [← hji40, ← hji61]; first | rfl | (simp [errW_none, errW_some] <;> rfl)) | (simp [*, errW_none, errW_some] <;> rfl), by repeat (first | (with_reducible first | exact HB.out | apply below_alloc | apply pw_below_drewN | apply below_drew1 | refine below_set ?_ GE218.out | refine below_set ?_ GE233.out) | exact HB.out)⟩
                                                                    · rw [if_neg c65] at H
                                                                      have c65b0 : decide (0 ≤ x19_4) = false := decide_eq_false c65
                                                                      clear c65
                                                                      have H' := Aside0.mk H
                                                                      clear H
                                                                      have p247 : 0 ≤ (x22_7 : Int) := of_decide_eq_true (by first | (with_reducible assumption) | assumption)
                                                                      have q247 : x22_7 < (t230.length : Int) := of_decide_eq_true (by first | (with_reducible assumption) | assumption)
                                                                      obtain ⟨ad247, e247, hx247_0⟩ := Kd.at_int (Kd.R_reads' HO_16.out).2.2 x22_7 p247 q247
                                                                      cases e247
                                                                      replace p247 := eq_true p247
                                                                      replace q247 := eq_true q247
                                                                      have p248 : 0 ≤ (x22_7 : Int) := of_decide_eq_true (by first | (with_reducible assumption) | assumption)
                                                                      have q248 : x22_7 < (t230.length : Int) := of_decide_eq_true (by first | (with_reducible assumption) | assumption)
                                                                      obtain ⟨ad248, e248, hx248_0⟩ := Kd.at_int (Kd.R_reads' HO_16.out).2.2 x22_7 p248 q248
                                                                      obtain rfl : ad247 = ad248 := (by injection e248)
                                                                      replace p248 := eq_true p248
                                                                      replace q248 := eq_true q248
                                                                      have p249 : 0 ≤ (x22_7 : Int) := of_decide_eq_true (by first | (with_reducible assumption) | assumption)
                                                                      have q249 : x22_7 < (t230.length : Int) := of_decide_eq_true (by first | (with_reducible assumption) | assumption)
                                                                      obtain ⟨ad249, e249, hx249_0⟩ := Kd.at_int (Kd.R_reads' HO_16.out).2.2 x22_7 p249 q249
                                                                      obtain rfl : ad247 = ad249 := (by injection e249)
                                                                      replace p249 := eq_true p249
                                                                      replace q249 := eq_true q249
                                                                      have p250 : 0 ≤ (x22_7 : Int) := of_decide_eq_true (by first | (with_reducible assumption) | assumption)
                                                                      have q250 : x22_7 < (t230.length : Int) := of_decide_eq_true (by first | (with_reducible assumption) | assumption)
                                                                      obtain ⟨ad250, e250, hx250_0⟩ := Kd.at_int (Kd.R_reads' HO_16.out).2.2 x22_7 p250 q250
                                                                      obtain rfl : ad247 = ad250 := (by injection e250)
                                                                      replace p250 := eq_true p250
                                                                      replace q250 := eq_true q250
                                                                      have p251 : 0 ≤ ((ji61) : Int) := of_decide_eq_true (by first | (with_reducible assumption) | assumption)
                                                                      have q251 : (ji61) < (t230.length : Int) := of_decide_eq_true (by first | (with_reducible assumption) | assumption)
                                                                      obtain ⟨ad251, e251, hx251_0⟩ := Kd.at_int (Kd.R_reads' HO_16.out).2.2 (ji61) p251 q251
                                                                      obtain rfl : ad247 = ad251 := (by injection e251)
                                                                      replace p251 := eq_true p251
                                                                      replace q251 := eq_true q251
                                                                      as_aux_lemma =>
                                                                      go_wp2
                                                                      repeat (go_quiet (fail); try go_wp2)
                                                                      go_roundg k7
                                                                      case measure => have := HJ3.out; have := HK2.out; have := HK3.out; have := HK4.out; have := HJ48.out; have := HJ50.out; have := HK7.out; omega
                                                                      case rel => exact ⟨(wrap64 (x22_7 + 1)), (by first | rfl | (simp; done) | (simp [*]; done)), H', ⟨by have := HJ3.out; have := HK2.out; have := HK3.out; have := HK4.out; have := HJ48.out; have := HJ50.out; have := HK7.out; omega⟩, ⟨by (with_reducible repeat (first | apply Kd.R_alloc | apply Kd.R_drewN | apply Kd.R_drew)); exact HO_9.out⟩, ⟨by (with_reducible repeat (first | apply Kd.R_alloc | apply Kd.R_drewN | apply Kd.R_drew)); exact HO_16.out⟩, ⟨by (with_reducible repeat (first | apply Kd.R_alloc | apply Kd.R_drewN | apply Kd.R_drew)); exact HO_219001.out⟩, ⟨by (with_reducible repeat (first | apply Kd.R_alloc | apply Kd.R_drewN | apply Kd.R_drew)); exact HO_234001.out⟩, ⟨by (with_reducible repeat (first | refine blk_drewN ?_ _ | refine blk_drew ?_ | refine blk_alloc ?_ _)); exact BK218.out⟩, ⟨by (with_reducible repeat (first | refine blk_drewN ?_ _ | refine blk_drew ?_ | refine blk_alloc ?_ _)); exact BK233.out⟩, ⟨by repeat (first | (with_reducible first | exact HB.out | apply below_alloc | apply pw_below_drewN | apply below_drew1 | refine below_set ?_ GE218.out | refine below_set ?_ GE233.out) | exact HB.out)⟩⟩
                                                                · rw [if_neg c63] at H
                                                                  exact absurd H (by simp)
                                                              · rw [if_neg c62] at H
                                                                exact absurd H (by simp)
                                                            · rw [if_neg c60] at H
                                                              have c60b0 : decide (0 < x22_7) = false := decide_eq_false c60
                                                              clear c60
                                                              by_cases c67 : x19_4 ≥ 0
                                                              · rw [if_pos c67] at H
                                                                have c67b0 : decide (0 ≤ x19_4) = true := decide_eq_true c67
                                                                clear c67
                                                                by_cases c68 : (rd t230 x22_7) = x19_4
                                                                · rw [if_pos c68] at H
                                                                  have c68b0 : ((rd t230 x22_7) == x19_4) = true := beq_iff_eq.mpr c68
                                                                  have c68b1 : ((rd t230 x22_7) != x19_4) = false := bne_eq_false_iff_eq.mpr c68
                                                                  clear c68
                                                                  have H' := Aside0.mk H
                                                                  clear H
                                                                  have p247 : 0 ≤ (x22_7 : Int) := of_decide_eq_true (by first | (with_reducible assumption) | assumption)
                                                                  have q247 : x22_7 < (t230.length : Int) := of_decide_eq_true (by first | (with_reducible assumption) | assumption)
                                                                  obtain ⟨ad247, e247, hx247_0⟩ := Kd.at_int (Kd.R_reads' HO_16.out).2.2 x22_7 p247 q247
                                                                  cases e247
                                                                  replace p247 := eq_true p247
                                                                  replace q247 := eq_true q247
                                                                  have p248 : 0 ≤ (x22_7 : Int) := of_decide_eq_true (by first | (with_reducible assumption) | assumption)
                                                                  have q248 : x22_7 < (t230.length : Int) := of_decide_eq_true (by first | (with_reducible assumption) | assumption)
                                                                  obtain ⟨ad248, e248, hx248_0⟩ := Kd.at_int (Kd.R_reads' HO_16.out).2.2 x22_7 p248 q248
                                                                  obtain rfl : ad247 = ad248 := (by injection e248)
                                                                  replace p248 := eq_true p248
                                                                  replace q248 := eq_true q248
                                                                  have p249 : 0 ≤ (x22_7 : Int) := of_decide_eq_true (by first | (with_reducible assumption) | assumption)
                                                                  have q249 : x22_7 < (t230.length : Int) := of_decide_eq_true (by first | (with_reducible assumption) | assumption)
                                                                  obtain ⟨ad249, e249, hx249_0⟩ := Kd.at_int (Kd.R_reads' HO_16.out).2.2 x22_7 p249 q249
                                                                  obtain rfl : ad247 = ad249 := (by injection e249)
                                                                  replace p249 := eq_true p249
                                                                  replace q249 := eq_true q249
                                                                  have p253 : 0 ≤ (x22_7 : Int) := of_decide_eq_true (by first | (with_reducible assumption) | assumption)
                                                                  have q253 : x22_7 < (t230.length : Int) := of_decide_eq_true (by first | (with_reducible assumption) | assumption)
                                                                  obtain ⟨ad253, e253, hx253_0⟩ := Kd.at_int (Kd.R_reads' HO_16.out).2.2 x22_7 p253 q253
                                                                  obtain rfl : ad247 = ad253 := (by injection e253)
                                                                  replace p253 := eq_true p253
                                                                  replace q253 := eq_true q253
                                                                  as_aux_lemma =>
                                                                  go_wp2
                                                                  repeat (go_quiet (fail); try go_wp2)
                                                                  go_roundg k7
                                                                  case measure => have := HJ3.out; have := HK2.out; have := HK3.out; have := HK4.out; have := HJ48.out; have := HJ50.out; have := HK7.out; omega
                                                                  case rel => exact ⟨(wrap64 (x22_7 + 1)), (by first | rfl | (simp; done) | (simp [*]; done)), H', ⟨by have := HJ3.out; have := HK2.out; have := HK3.out; have := HK4.out; have := HJ48.out; have := HJ50.out; have := HK7.out; omega⟩, ⟨by (with_reducible repeat (first | apply Kd.R_alloc | apply Kd.R_drewN | apply Kd.R_drew)); exact HO_9.out⟩, ⟨by (with_reducible repeat (first | apply Kd.R_alloc | apply Kd.R_drewN | apply Kd.R_drew)); exact HO_16.out⟩, ⟨by (with_reducible repeat (first | apply Kd.R_alloc | apply Kd.R_drewN | apply Kd.R_drew)); exact HO_219001.out⟩, ⟨by (with_reducible repeat (first | apply Kd.R_alloc | apply Kd.R_drewN | apply Kd.R_drew)); exact HO_234001.out⟩, ⟨by (with_reducible repeat (first | refine blk_drewN ?_ _ | refine blk_drew ?_ | refine blk_alloc ?_ _)); exact BK218.out⟩, ⟨by (with_reducible repeat (first | refine blk_drewN ?_ _ | refine blk_drew ?_ | refine blk_alloc ?_ _)); exact BK233.out⟩, ⟨by repeat (first | (with_reducible first | exact HB.out | apply below_alloc | apply pw_below_drewN | apply below_drew1 | refine below_set ?_ GE218.out | refine below_set ?_ GE233.out) | exact HB.out)⟩⟩
                                                                · rw [if_neg c68] at H
                                                                  have c68b0 : ((rd t230 x22_7) == x19_4) = false := beq_eq_false_iff_ne.mpr c68
                                                                  have c68b1 : ((rd t230 x22_7) != x19_4) = true := bne_iff_ne.mpr c68
                                                                  obtain rfl := Option.some.inj H
                                                                  have p247 : 0 ≤ (x22_7 : Int) := of_decide_eq_true (by first | (with_reducible assumption) | assumption)
                                                                  have q247 : x22_7 < (t230.length : Int) := of_decide_eq_true (by first | (with_reducible assumption) | assumption)
                                                                  obtain ⟨ad247, e247, hx247_0⟩ := Kd.at_int (Kd.R_reads' HO_16.out).2.2 x22_7 p247 q247
                                                                  cases e247
                                                                  replace p247 := eq_true p247
                                                                  replace q247 := eq_true q247
                                                                  have p248 : 0 ≤ (x22_7 : Int) := of_decide_eq_true (by first | (with_reducible assumption) | assumption)
                                                                  have q248 : x22_7 < (t230.length : Int) := of_decide_eq_true (by first | (with_reducible assumption) | assumption)
                                                                  obtain ⟨ad248, e248, hx248_0⟩ := Kd.at_int (Kd.R_reads' HO_16.out).2.2 x22_7 p248 q248
                                                                  obtain rfl : ad247 = ad248 := (by injection e248)
                                                                  replace p248 := eq_true p248
                                                                  replace q248 := eq_true q248
                                                                  have p249 : 0 ≤ (x22_7 : Int) := of_decide_eq_true (by first | (with_reducible assumption) | assumption)
                                                                  have q249 : x22_7 < (t230.length : Int) := of_decide_eq_true (by first | (with_reducible assumption) | assumption)
                                                                  obtain ⟨ad249, e249, hx249_0⟩ := Kd.at_int (Kd.R_reads' HO_16.out).2.2 x22_7 p249 q249
                                                                  obtain rfl : ad247 = ad249 := (by injection e249)
                                                                  replace p249 := eq_true p249
                                                                  replace q249 := eq_true q249
                                                                  have p253 : 0 ≤ (x22_7 : Int) := of_decide_eq_true (by first | (with_reducible assumption) | assumption)
                                                                  have q253 : x22_7 < (t230.length : Int) := of_decide_eq_true (by first | (with_reducible assumption) | assumption)
                                                                  obtain ⟨ad253, e253, hx253_0⟩ := Kd.at_int (Kd.R_reads' HO_16.out).2.2 x22_7 p253 q253
                                                                  obtain rfl : ad247 = ad253 := (by injection e253)
                                                                  replace p253 := eq_true p253
                                                                  replace q253 := eq_true q253
                                                                  as_aux_lemma =>
                                                                  go_wp2
                                                                  repeat (go_quiet (fail); try go_wp2)
                                                                  go_ret
                                                                  exact ⟨by first | rfl | (simp [errW_none, errW_some] <;> rfl) | (simp only [← hji40]; first | rfl | (simp [errW_none, errW_some] <;> rfl)) | (simp [*, errW_none, errW_some] <;> rfl), by repeat (first | (with_reducible first | exact HB.out | apply below_alloc | apply pw_below_drewN | apply below_drew1 | refine below_set ?_ GE218.out | refine below_set ?_ GE233.out) | exact HB.out)⟩
                                                              · rw [if_neg c67] at H
                                                                have c67b0 : decide (0 ≤ x19_4) = false := decide_eq_false c67
                                                                clear c67
                                                                have H' := Aside0.mk H
                                                                clear H
                                                                have p247 : 0 ≤ (x22_7 : Int) := of_decide_eq_true (by first | (with_reducible assumption) | assumption)
                                                                have q247 : x22_7 < (t230.length : Int) := of_decide_eq_true (by first | (with_reducible assumption) | assumption)
                                                                obtain ⟨ad247, e247, hx247_0⟩ := Kd.at_int (Kd.R_reads' HO_16.out).2.2 x22_7 p247 q247
                                                                cases e247
                                                                replace p247 := eq_true p247
                                                                replace q247 := eq_true q247
                                                                have p248 : 0 ≤ (x22_7 : Int) := of_decide_eq_true (by first | (with_reducible assumption) | assumption)
                                                                have q248 : x22_7 < (t230.length : Int) := of_decide_eq_true (by first | (with_reducible assumption) | assumption)
                                                                obtain ⟨ad248, e248, hx248_0⟩ := Kd.at_int (Kd.R_reads' HO_16.out).2.2 x22_7 p248 q248
                                                                obtain rfl : ad247 = ad248 := (by injection e248)
                                                                replace p248 := eq_true p248
                                                                replace q248 := eq_true q248
                                                                have p249 : 0 ≤ (x22_7 : Int) := of_decide_eq_true (by first | (with_reducible assumption) | assumption)
                                                                have q249 : x22_7 < (t230.length : Int) := of_decide_eq_true (by first | (with_reducible assumption) | assumption)
                                                                obtain ⟨ad249, e249, hx249_0⟩ := Kd.at_int (Kd.R_reads' HO_16.out).2.2 x22_7 p249 q249
                                                                obtain rfl : ad247 = ad249 := (by injection e249)
                                                                replace p249 := eq_true p249
                                                                replace q249 := eq_true q249
                                                                as_aux_lemma =>
                                                                go_wp2
                                                                repeat (go_quiet (fail); try go_wp2)
                                                                go_roundg k7
                                                                case measure => have := HJ3.out; have := HK2.out; have := HK3.out; have := HK4.out; have := HJ48.out; have := HJ50.out; have := HK7.out; omega
                                                                case rel => exact ⟨(wrap64 (x22_7 + 1)), (by first | rfl | (simp; done) | (simp [*]; done)), H', ⟨by have := HJ3.out; have := HK2.out; have := HK3.out; have := HK4.out; have := HJ48.out; have := HJ50.out; have := HK7.out; omega⟩, ⟨by (with_reducible repeat (first | apply Kd.R_alloc | apply Kd.R_drewN | apply Kd.R_drew)); exact HO_9.out⟩, ⟨by (with_reducible repeat (first | apply Kd.R_alloc | apply Kd.R_drewN | apply Kd.R_drew)); exact HO_16.out⟩, ⟨by (with_reducible repeat (first | apply Kd.R_alloc | apply Kd.R_drewN | apply Kd.R_drew)); exact HO_219001.out⟩, ⟨by (with_reducible repeat (first | apply Kd.R_alloc | apply Kd.R_drewN | apply Kd.R_drew)); exact HO_234001.out⟩, ⟨by (with_reducible repeat (first | refine blk_drewN ?_ _ | refine blk_drew ?_ | refine blk_alloc ?_ _)); exact BK218.out⟩, ⟨by (with_reducible repeat (first | refine blk_drewN ?_ _ | refine blk_drew ?_ | refine blk_alloc ?_ _)); exact BK233.out⟩, ⟨by repeat (first | (with_reducible first | exact HB.out | apply below_alloc | apply pw_below_drewN | apply below_drew1 | refine below_set ?_ GE218.out | refine below_set ?_ GE233.out) | exact HB.out)⟩⟩
                                                    · rw [if_neg c56] at H
                                                      exact absurd H (by simp)
                                                  · rw [if_neg c55] at H
                                                    have c55b0 : decide (x22_7 < (t230.length : Int)) = false := decide_eq_false c55
                                                    clear c55
                                                    replace H := Option.bind_eq_some_iff.mp H
                                                    obtain ⟨t254, A690, H⟩ := H
                                                    replace H : (if t254 = true then (if (t227.length : Int) = (y242.length : Int) then (vmfleetlaw33_SwitchLearns.l0 k7 a0 l1 l2 y242 (wrap64 (x10_2 + 1)) t226 t227) else (some false)) else (some false)) = some r := H
                                                    have A69 := Aside0.mk A690
                                                    clear A690
                                                    by_cases c70 : t254 = true
                                                    · subst c70
                                                      have H1 : (if (t227.length : Int) = (y242.length : Int) then (vmfleetlaw33_SwitchLearns.l0 k7 a0 l1 l2 y242 (wrap64 (x10_2 + 1)) t226 t227) else (some false)) = some r := by rw [if_pos rfl] at H; exact H
                                                      clear H
                                                      have H := H1
                                                      clear H1
                                                      by_cases c71 : (t227.length : Int) = (y242.length : Int)
                                                      · rw [if_pos c71] at H
                                                        have c71b0 : ((t227.length : Int) == (y242.length : Int)) = true := beq_iff_eq.mpr c71
                                                        have c71b1 : ((t227.length : Int) != (y242.length : Int)) = false := bne_eq_false_iff_eq.mpr c71
                                                        have c71b2 : (t227.length == y242.length) = true := by first | simpa using c71 | (simp at c71 ⊢; omega)
                                                        clear c71
                                                        have H' := Aside0.mk H
                                                        clear H
                                                        have hnb72 := NB233_218.out
                                                        have hnc72 := NB218_233.out
                                                        have hcz73_0 : wr.cell? ⟨gb233, 0, none⟩ = some (.int .i64 t226) := (blk_cell BK233.out 0).trans rfl
                                                        have hcz73_1 : wr.cell? ⟨gb233, 1, none⟩ = some (.slice Ao30 t227.length co30) := (blk_cell BK233.out 1).trans rfl
                                                        have hfz73_0 := blk_frozen BK233.out 0
                                                        have hfz73_1 := blk_frozen BK233.out 1
                                                        have hcz74_0 : wr.cell? ⟨gb218, 0, none⟩ = some (.int .i64 x219000_2) := (blk_cell BK218.out 0).trans rfl
                                                        have hcz74_1 : wr.cell? ⟨gb218, 1, none⟩ = some (.slice Ao25 x219001_2.length co25) := (blk_cell BK218.out 1).trans rfl
                                                        have hfz74_0 := blk_frozen BK218.out 0
                                                        have hfz74_1 := blk_frozen BK218.out 1
                                                        go_wp2_with (first | (go_at_call 10; (with_reducible refine (network_Valid.calls k7 t226 _ _ t227 true _ ?side1 ?side2 A69.out).mono ?_); (case side1 => refine (Kd.R_reads' (e := 35) (base := w.heap.size) (ok := fun k_ => (some k_ ≠ (.slice Ao44 y242.length co44 : Value).ownBlock ∧ some k_ ≠ (.slice Ao25 x219001_2.length co25 : Value).ownBlock)) (n := t227.length) (c := co30) ?_).2.2; exact (by (with_reducible repeat (first | apply Kd.R_alloc | apply Kd.R_drewN | apply Kd.R_drew)); exact (Kd.R_mono (Kd.R_far (p := ⟨gb218, 1, none⟩) (Kd.R_far (p := ⟨gb218, 0, none⟩) (Kd.R_types HO_234001.out BK218.out (by decide)) (fun _ hk => hk.2) (.int .i64 t226)) (fun _ hk => hk.2) (.slice Ao30 t227.length co30)) (fun _ h_ => h_.1)))); (case side2 => exact (Kd.R_reads' HO_234001.out).2.1); rintro e w75 ⟨rfl, hb⟩; have n0_ := Aside0.mk (Kd.R_below (by (with_reducible repeat (first | apply Kd.R_alloc | apply Kd.R_drewN | apply Kd.R_drew)); exact (Kd.R_mono (Kd.R_far (p := ⟨gb218, 1, none⟩) (Kd.R_far (p := ⟨gb218, 0, none⟩) (Kd.R_types HO_9.out BK218.out (by decide)) (fun _ hk => hk.2) (.int .i64 t226)) (fun _ hk => hk.2) (.slice Ao30 t227.length co30)) (fun _ h_ => h_.1))) hb); have n1_ := Aside0.mk (Kd.R_below (by (with_reducible repeat (first | apply Kd.R_alloc | apply Kd.R_drewN | apply Kd.R_drew)); exact (Kd.R_mono (Kd.R_far (p := ⟨gb218, 1, none⟩) (Kd.R_far (p := ⟨gb218, 0, none⟩) (Kd.R_types HO_16.out BK218.out (by decide)) (fun _ hk => hk.2) (.int .i64 t226)) (fun _ hk => hk.2) (.slice Ao30 t227.length co30)) (fun _ h_ => h_.1))) hb); have n2_ := Aside0.mk (Kd.R_below (by (with_reducible repeat (first | apply Kd.R_alloc | apply Kd.R_drewN | apply Kd.R_drew)); exact (Kd.R_mono (Kd.R_far (p := ⟨gb218, 1, none⟩) (Kd.R_far (p := ⟨gb218, 0, none⟩) (Kd.R_types HO_219001.out BK218.out (by decide)) (fun _ hk => hk.2) (.int .i64 t226)) (fun _ hk => hk.2) (.slice Ao30 t227.length co30)) (fun _ h_ => h_.1))) hb); have n3_ := Aside0.mk (Kd.R_below (by (with_reducible repeat (first | apply Kd.R_alloc | apply Kd.R_drewN | apply Kd.R_drew)); exact (Kd.R_mono (Kd.R_far (p := ⟨gb218, 1, none⟩) (Kd.R_far (p := ⟨gb218, 0, none⟩) (Kd.R_types HO_234001.out BK218.out (by decide)) (fun _ hk => hk.2) (.int .i64 t226)) (fun _ hk => hk.2) (.slice Ao30 t227.length co30)) (fun _ h_ => h_.1))) hb); have n4_ := Aside0.mk (blk_below (g := gb218) (o := .cells #[.int .i64 t226, .slice Ao30 t227.length co30] 26 (0, 0)) (by (with_reducible repeat (first | refine blk_drewN ?_ _ | refine blk_drew ?_ | refine blk_alloc ?_ _)); refine blk_put (cs := #[.int .i64 t226, .slice Ao25 x219001_2.length co25]) ?_ 1 _ rfl; (with_reducible repeat (first | refine blk_drewN ?_ _ | refine blk_drew ?_ | refine blk_alloc ?_ _)); refine blk_put (cs := #[.int .i64 x219000_2, .slice Ao25 x219001_2.length co25]) ?_ 0 _ rfl; (with_reducible repeat (first | refine blk_drewN ?_ _ | refine blk_drew ?_ | refine blk_alloc ?_ _)); exact BK218.out) hb); have n5_ := Aside0.mk (blk_below (g := gb233) (o := .cells #[.int .i64 t226, .slice Ao30 t227.length co30] 26 (0, 0)) (by (with_reducible repeat (first | refine blk_drewN ?_ _ | refine blk_drew ?_ | refine blk_alloc ?_ _)); refine blk_far ?_ NB233_218.out _; (with_reducible repeat (first | refine blk_drewN ?_ _ | refine blk_drew ?_ | refine blk_alloc ?_ _)); refine blk_far ?_ NB233_218.out _; (with_reducible repeat (first | refine blk_drewN ?_ _ | refine blk_drew ?_ | refine blk_alloc ?_ _)); exact BK233.out) hb); have n6_ := Aside0.mk (below_step (by repeat (first | (with_reducible first | exact HB.out | apply below_alloc | apply pw_below_drewN | apply below_drew1 | refine below_set ?_ GE218.out | refine below_set ?_ GE233.out) | exact HB.out)) hb); clear HO_9; clear HO_16; clear HO_219001; clear HO_234001; clear BK218; clear BK233; clear HB; have HO_9 := n0_; have HO_16 := n1_; have HO_219001 := n2_; have HO_234001 := n3_; have BK218 := n4_; have BK233 := n5_; have HB := n6_; clear n0_ n1_ n2_ n3_ n4_ n5_ n6_; (try clear hb); (try clear hb2); (try clear hk); (try clear hi); have hcz76_0 : w75.cell? ⟨gb218, 0, none⟩ = some (.int .i64 t226) := (blk_cell BK218.out 0).trans rfl; have hcz76_1 : w75.cell? ⟨gb218, 1, none⟩ = some (.slice Ao30 t227.length co30) := (blk_cell BK218.out 1).trans rfl; have hfz76_0 := blk_frozen BK218.out 0; have hfz76_1 := blk_frozen BK218.out 1))
                                                        repeat (go_quiet (first | (go_at_call 10; (with_reducible refine (network_Valid.calls k7 t226 _ _ t227 true _ ?side1 ?side2 A69.out).mono ?_); (case side1 => refine (Kd.R_reads' (e := 35) (base := w.heap.size) (ok := fun k_ => (some k_ ≠ (.slice Ao44 y242.length co44 : Value).ownBlock ∧ some k_ ≠ (.slice Ao25 x219001_2.length co25 : Value).ownBlock)) (n := t227.length) (c := co30) ?_).2.2; exact (by (with_reducible repeat (first | apply Kd.R_alloc | apply Kd.R_drewN | apply Kd.R_drew)); exact (Kd.R_mono (Kd.R_far (p := ⟨gb218, 1, none⟩) (Kd.R_far (p := ⟨gb218, 0, none⟩) (Kd.R_types HO_234001.out BK218.out (by decide)) (fun _ hk => hk.2) (.int .i64 t226)) (fun _ hk => hk.2) (.slice Ao30 t227.length co30)) (fun _ h_ => h_.1)))); (case side2 => exact (Kd.R_reads' HO_234001.out).2.1); rintro e w75 ⟨rfl, hb⟩; have n0_ := Aside0.mk (Kd.R_below (by (with_reducible repeat (first | apply Kd.R_alloc | apply Kd.R_drewN | apply Kd.R_drew)); exact (Kd.R_mono (Kd.R_far (p := ⟨gb218, 1, none⟩) (Kd.R_far (p := ⟨gb218, 0, none⟩) (Kd.R_types HO_9.out BK218.out (by decide)) (fun _ hk => hk.2) (.int .i64 t226)) (fun _ hk => hk.2) (.slice Ao30 t227.length co30)) (fun _ h_ => h_.1))) hb); have n1_ := Aside0.mk (Kd.R_below (by (with_reducible repeat (first | apply Kd.R_alloc | apply Kd.R_drewN | apply Kd.R_drew)); exact (Kd.R_mono (Kd.R_far (p := ⟨gb218, 1, none⟩) (Kd.R_far (p := ⟨gb218, 0, none⟩) (Kd.R_types HO_16.out BK218.out (by decide)) (fun _ hk => hk.2) (.int .i64 t226)) (fun _ hk => hk.2) (.slice Ao30 t227.length co30)) (fun _ h_ => h_.1))) hb); have n2_ := Aside0.mk (Kd.R_below (by (with_reducible repeat (first | apply Kd.R_alloc | apply Kd.R_drewN | apply Kd.R_drew)); exact (Kd.R_mono (Kd.R_far (p := ⟨gb218, 1, none⟩) (Kd.R_far (p := ⟨gb218, 0, none⟩) (Kd.R_types HO_219001.out BK218.out (by decide)) (fun _ hk => hk.2) (.int .i64 t226)) (fun _ hk => hk.2) (.slice Ao30 t227.length co30)) (fun _ h_ => h_.1))) hb); have n3_ := Aside0.mk (Kd.R_below (by (with_reducible repeat (first | apply Kd.R_alloc | apply Kd.R_drewN | apply Kd.R_drew)); exact (Kd.R_mono (Kd.R_far (p := ⟨gb218, 1, none⟩) (Kd.R_far (p := ⟨gb218, 0, none⟩) (Kd.R_types HO_234001.out BK218.out (by decide)) (fun _ hk => hk.2) (.int .i64 t226)) (fun _ hk => hk.2) (.slice Ao30 t227.length co30)) (fun _ h_ => h_.1))) hb); have n4_ := Aside0.mk (blk_below (g := gb218) (o := .cells #[.int .i64 t226, .slice Ao30 t227.length co30] 26 (0, 0)) (by (with_reducible repeat (first | refine blk_drewN ?_ _ | refine blk_drew ?_ | refine blk_alloc ?_ _)); refine blk_put (cs := #[.int .i64 t226, .slice Ao25 x219001_2.length co25]) ?_ 1 _ rfl; (with_reducible repeat (first | refine blk_drewN ?_ _ | refine blk_drew ?_ | refine blk_alloc ?_ _)); refine blk_put (cs := #[.int .i64 x219000_2, .slice Ao25 x219001_2.length co25]) ?_ 0 _ rfl; (with_reducible repeat (first | refine blk_drewN ?_ _ | refine blk_drew ?_ | refine blk_alloc ?_ _)); exact BK218.out) hb); have n5_ := Aside0.mk (blk_below (g := gb233) (o := .cells #[.int .i64 t226, .slice Ao30 t227.length co30] 26 (0, 0)) (by (with_reducible repeat (first | refine blk_drewN ?_ _ | refine blk_drew ?_ | refine blk_alloc ?_ _)); refine blk_far ?_ NB233_218.out _; (with_reducible repeat (first | refine blk_drewN ?_ _ | refine blk_drew ?_ | refine blk_alloc ?_ _)); refine blk_far ?_ NB233_218.out _; (with_reducible repeat (first | refine blk_drewN ?_ _ | refine blk_drew ?_ | refine blk_alloc ?_ _)); exact BK233.out) hb); have n6_ := Aside0.mk (below_step (by repeat (first | (with_reducible first | exact HB.out | apply below_alloc | apply pw_below_drewN | apply below_drew1 | refine below_set ?_ GE218.out | refine below_set ?_ GE233.out) | exact HB.out)) hb); clear HO_9; clear HO_16; clear HO_219001; clear HO_234001; clear BK218; clear BK233; clear HB; have HO_9 := n0_; have HO_16 := n1_; have HO_219001 := n2_; have HO_234001 := n3_; have BK218 := n4_; have BK233 := n5_; have HB := n6_; clear n0_ n1_ n2_ n3_ n4_ n5_ n6_; (try clear hb); (try clear hb2); (try clear hk); (try clear hi); have hcz76_0 : w75.cell? ⟨gb218, 0, none⟩ = some (.int .i64 t226) := (blk_cell BK218.out 0).trans rfl; have hcz76_1 : w75.cell? ⟨gb218, 1, none⟩ = some (.slice Ao30 t227.length co30) := (blk_cell BK218.out 1).trans rfl; have hfz76_0 := blk_frozen BK218.out 0; have hfz76_1 := blk_frozen BK218.out 1)); try go_wp2_with (first | (go_at_call 10; (with_reducible refine (network_Valid.calls k7 t226 _ _ t227 true _ ?side1 ?side2 A69.out).mono ?_); (case side1 => refine (Kd.R_reads' (e := 35) (base := w.heap.size) (ok := fun k_ => (some k_ ≠ (.slice Ao44 y242.length co44 : Value).ownBlock ∧ some k_ ≠ (.slice Ao25 x219001_2.length co25 : Value).ownBlock)) (n := t227.length) (c := co30) ?_).2.2; exact (by (with_reducible repeat (first | apply Kd.R_alloc | apply Kd.R_drewN | apply Kd.R_drew)); exact (Kd.R_mono (Kd.R_far (p := ⟨gb218, 1, none⟩) (Kd.R_far (p := ⟨gb218, 0, none⟩) (Kd.R_types HO_234001.out BK218.out (by decide)) (fun _ hk => hk.2) (.int .i64 t226)) (fun _ hk => hk.2) (.slice Ao30 t227.length co30)) (fun _ h_ => h_.1)))); (case side2 => exact (Kd.R_reads' HO_234001.out).2.1); rintro e w75 ⟨rfl, hb⟩; have n0_ := Aside0.mk (Kd.R_below (by (with_reducible repeat (first | apply Kd.R_alloc | apply Kd.R_drewN | apply Kd.R_drew)); exact (Kd.R_mono (Kd.R_far (p := ⟨gb218, 1, none⟩) (Kd.R_far (p := ⟨gb218, 0, none⟩) (Kd.R_types HO_9.out BK218.out (by decide)) (fun _ hk => hk.2) (.int .i64 t226)) (fun _ hk => hk.2) (.slice Ao30 t227.length co30)) (fun _ h_ => h_.1))) hb); have n1_ := Aside0.mk (Kd.R_below (by (with_reducible repeat (first | apply Kd.R_alloc | apply Kd.R_drewN | apply Kd.R_drew)); exact (Kd.R_mono (Kd.R_far (p := ⟨gb218, 1, none⟩) (Kd.R_far (p := ⟨gb218, 0, none⟩) (Kd.R_types HO_16.out BK218.out (by decide)) (fun _ hk => hk.2) (.int .i64 t226)) (fun _ hk => hk.2) (.slice Ao30 t227.length co30)) (fun _ h_ => h_.1))) hb); have n2_ := Aside0.mk (Kd.R_below (by (with_reducible repeat (first | apply Kd.R_alloc | apply Kd.R_drewN | apply Kd.R_drew)); exact (Kd.R_mono (Kd.R_far (p := ⟨gb218, 1, none⟩) (Kd.R_far (p := ⟨gb218, 0, none⟩) (Kd.R_types HO_219001.out BK218.out (by decide)) (fun _ hk => hk.2) (.int .i64 t226)) (fun _ hk => hk.2) (.slice Ao30 t227.length co30)) (fun _ h_ => h_.1))) hb); have n3_ := Aside0.mk (Kd.R_below (by (with_reducible repeat (first | apply Kd.R_alloc | apply Kd.R_drewN | apply Kd.R_drew)); exact (Kd.R_mono (Kd.R_far (p := ⟨gb218, 1, none⟩) (Kd.R_far (p := ⟨gb218, 0, none⟩) (Kd.R_types HO_234001.out BK218.out (by decide)) (fun _ hk => hk.2) (.int .i64 t226)) (fun _ hk => hk.2) (.slice Ao30 t227.length co30)) (fun _ h_ => h_.1))) hb); have n4_ := Aside0.mk (blk_below (g := gb218) (o := .cells #[.int .i64 t226, .slice Ao30 t227.length co30] 26 (0, 0)) (by (with_reducible repeat (first | refine blk_drewN ?_ _ | refine blk_drew ?_ | refine blk_alloc ?_ _)); refine blk_put (cs := #[.int .i64 t226, .slice Ao25 x219001_2.length co25]) ?_ 1 _ rfl; (with_reducible repeat (first | refine blk_drewN ?_ _ | refine blk_drew ?_ | refine blk_alloc ?_ _)); refine blk_put (cs := #[.int .i64 x219000_2, .slice Ao25 x219001_2.length co25]) ?_ 0 _ rfl; (with_reducible repeat (first | refine blk_drewN ?_ _ | refine blk_drew ?_ | refine blk_alloc ?_ _)); exact BK218.out) hb); have n5_ := Aside0.mk (blk_below (g := gb233) (o := .cells #[.int .i64 t226, .slice Ao30 t227.length co30] 26 (0, 0)) (by (with_reducible repeat (first | refine blk_drewN ?_ _ | refine blk_drew ?_ | refine blk_alloc ?_ _)); refine blk_far ?_ NB233_218.out _; (with_reducible repeat (first | refine blk_drewN ?_ _ | refine blk_drew ?_ | refine blk_alloc ?_ _)); refine blk_far ?_ NB233_218.out _; (with_reducible repeat (first | refine blk_drewN ?_ _ | refine blk_drew ?_ | refine blk_alloc ?_ _)); exact BK233.out) hb); have n6_ := Aside0.mk (below_step (by repeat (first | (with_reducible first | exact HB.out | apply below_alloc | apply pw_below_drewN | apply below_drew1 | refine below_set ?_ GE218.out | refine below_set ?_ GE233.out) | exact HB.out)) hb); clear HO_9; clear HO_16; clear HO_219001; clear HO_234001; clear BK218; clear BK233; clear HB; have HO_9 := n0_; have HO_16 := n1_; have HO_219001 := n2_; have HO_234001 := n3_; have BK218 := n4_; have BK233 := n5_; have HB := n6_; clear n0_ n1_ n2_ n3_ n4_ n5_ n6_; (try clear hb); (try clear hb2); (try clear hk); (try clear hi); have hcz76_0 : w75.cell? ⟨gb218, 0, none⟩ = some (.int .i64 t226) := (blk_cell BK218.out 0).trans rfl; have hcz76_1 : w75.cell? ⟨gb218, 1, none⟩ = some (.slice Ao30 t227.length co30) := (blk_cell BK218.out 1).trans rfl; have hfz76_0 := blk_frozen BK218.out 0; have hfz76_1 := blk_frozen BK218.out 1)))
                                                        go_roundg k7
                                                        case measure => have := HJ3.out; have := HK2.out; have := HK3.out; have := HK4.out; have := HJ48.out; have := HJ50.out; have := HK7.out; omega
                                                        case rel => exact ⟨(y242), (wrap64 (x10_2 + 1)), (t226), (t227), (.slice Ao30 t227.length co30), (by first | rfl | (simp; done) | (simp [*]; done)), H', ⟨by have := HJ3.out; have := HK2.out; have := HK3.out; have := HK4.out; have := HJ48.out; have := HJ50.out; have := HK7.out; omega⟩, ⟨by (with_reducible repeat (first | apply Kd.R_alloc | apply Kd.R_drewN | apply Kd.R_drew)); exact Kd.R_mono HO_9.out (fun _ hk => hk.2)⟩, ⟨by (with_reducible repeat (first | apply Kd.R_alloc | apply Kd.R_drewN | apply Kd.R_drew)); first | exact HO_234001.out | exact Kd.R_mono HO_234001.out (fun _ hk => hk.1)⟩, ⟨by (with_reducible repeat (first | refine blk_drewN ?_ _ | refine blk_drew ?_ | refine blk_alloc ?_ _)); exact BK218.out⟩, ⟨by repeat (first | (with_reducible first | exact HB.out | apply below_alloc | apply pw_below_drewN | apply below_drew1 | refine below_set ?_ GE218.out | refine below_set ?_ GE233.out) | exact HB.out)⟩⟩
                                                      · rw [if_neg c71] at H
                                                        have c71b0 : ((t227.length : Int) == (y242.length : Int)) = false := beq_eq_false_iff_ne.mpr c71
                                                        have c71b1 : ((t227.length : Int) != (y242.length : Int)) = true := bne_iff_ne.mpr c71
                                                        have c71b2 : (t227.length == y242.length) = false := by first | simpa using c71 | (simp at c71 ⊢; omega)
                                                        obtain rfl := Option.some.inj H
                                                        have hnb77 := NB233_218.out
                                                        have hnc77 := NB218_233.out
                                                        have hcz78_0 : wr.cell? ⟨gb233, 0, none⟩ = some (.int .i64 t226) := (blk_cell BK233.out 0).trans rfl
                                                        have hcz78_1 : wr.cell? ⟨gb233, 1, none⟩ = some (.slice Ao30 t227.length co30) := (blk_cell BK233.out 1).trans rfl
                                                        have hfz78_0 := blk_frozen BK233.out 0
                                                        have hfz78_1 := blk_frozen BK233.out 1
                                                        have hcz79_0 : wr.cell? ⟨gb218, 0, none⟩ = some (.int .i64 x219000_2) := (blk_cell BK218.out 0).trans rfl
                                                        have hcz79_1 : wr.cell? ⟨gb218, 1, none⟩ = some (.slice Ao25 x219001_2.length co25) := (blk_cell BK218.out 1).trans rfl
                                                        have hfz79_0 := blk_frozen BK218.out 0
                                                        have hfz79_1 := blk_frozen BK218.out 1
                                                        go_wp2_with (first | (go_at_call 10; (with_reducible refine (network_Valid.calls k7 t226 _ _ t227 true _ ?side1 ?side2 A69.out).mono ?_); (case side1 => refine (Kd.R_reads' (e := 35) (base := w.heap.size) (ok := fun k_ => (some k_ ≠ (.slice Ao44 y242.length co44 : Value).ownBlock ∧ some k_ ≠ (.slice Ao25 x219001_2.length co25 : Value).ownBlock)) (n := t227.length) (c := co30) ?_).2.2; exact (by (with_reducible repeat (first | apply Kd.R_alloc | apply Kd.R_drewN | apply Kd.R_drew)); exact (Kd.R_mono (Kd.R_far (p := ⟨gb218, 1, none⟩) (Kd.R_far (p := ⟨gb218, 0, none⟩) (Kd.R_types HO_234001.out BK218.out (by decide)) (fun _ hk => hk.2) (.int .i64 t226)) (fun _ hk => hk.2) (.slice Ao30 t227.length co30)) (fun _ h_ => h_.1)))); (case side2 => exact (Kd.R_reads' HO_234001.out).2.1); rintro e w80 ⟨rfl, hb⟩; have n0_ := Aside0.mk (Kd.R_below (by (with_reducible repeat (first | apply Kd.R_alloc | apply Kd.R_drewN | apply Kd.R_drew)); exact (Kd.R_mono (Kd.R_far (p := ⟨gb218, 1, none⟩) (Kd.R_far (p := ⟨gb218, 0, none⟩) (Kd.R_types HO_9.out BK218.out (by decide)) (fun _ hk => hk.2) (.int .i64 t226)) (fun _ hk => hk.2) (.slice Ao30 t227.length co30)) (fun _ h_ => h_.1))) hb); have n1_ := Aside0.mk (Kd.R_below (by (with_reducible repeat (first | apply Kd.R_alloc | apply Kd.R_drewN | apply Kd.R_drew)); exact (Kd.R_mono (Kd.R_far (p := ⟨gb218, 1, none⟩) (Kd.R_far (p := ⟨gb218, 0, none⟩) (Kd.R_types HO_16.out BK218.out (by decide)) (fun _ hk => hk.2) (.int .i64 t226)) (fun _ hk => hk.2) (.slice Ao30 t227.length co30)) (fun _ h_ => h_.1))) hb); have n2_ := Aside0.mk (Kd.R_below (by (with_reducible repeat (first | apply Kd.R_alloc | apply Kd.R_drewN | apply Kd.R_drew)); exact (Kd.R_mono (Kd.R_far (p := ⟨gb218, 1, none⟩) (Kd.R_far (p := ⟨gb218, 0, none⟩) (Kd.R_types HO_219001.out BK218.out (by decide)) (fun _ hk => hk.2) (.int .i64 t226)) (fun _ hk => hk.2) (.slice Ao30 t227.length co30)) (fun _ h_ => h_.1))) hb); have n3_ := Aside0.mk (Kd.R_below (by (with_reducible repeat (first | apply Kd.R_alloc | apply Kd.R_drewN | apply Kd.R_drew)); exact (Kd.R_mono (Kd.R_far (p := ⟨gb218, 1, none⟩) (Kd.R_far (p := ⟨gb218, 0, none⟩) (Kd.R_types HO_234001.out BK218.out (by decide)) (fun _ hk => hk.2) (.int .i64 t226)) (fun _ hk => hk.2) (.slice Ao30 t227.length co30)) (fun _ h_ => h_.1))) hb); have n4_ := Aside0.mk (blk_below (g := gb218) (o := .cells #[.int .i64 t226, .slice Ao30 t227.length co30] 26 (0, 0)) (by (with_reducible repeat (first | refine blk_drewN ?_ _ | refine blk_drew ?_ | refine blk_alloc ?_ _)); refine blk_put (cs := #[.int .i64 t226, .slice Ao25 x219001_2.length co25]) ?_ 1 _ rfl; (with_reducible repeat (first | refine blk_drewN ?_ _ | refine blk_drew ?_ | refine blk_alloc ?_ _)); refine blk_put (cs := #[.int .i64 x219000_2, .slice Ao25 x219001_2.length co25]) ?_ 0 _ rfl; (with_reducible repeat (first | refine blk_drewN ?_ _ | refine blk_drew ?_ | refine blk_alloc ?_ _)); exact BK218.out) hb); have n5_ := Aside0.mk (blk_below (g := gb233) (o := .cells #[.int .i64 t226, .slice Ao30 t227.length co30] 26 (0, 0)) (by (with_reducible repeat (first | refine blk_drewN ?_ _ | refine blk_drew ?_ | refine blk_alloc ?_ _)); refine blk_far ?_ NB233_218.out _; (with_reducible repeat (first | refine blk_drewN ?_ _ | refine blk_drew ?_ | refine blk_alloc ?_ _)); refine blk_far ?_ NB233_218.out _; (with_reducible repeat (first | refine blk_drewN ?_ _ | refine blk_drew ?_ | refine blk_alloc ?_ _)); exact BK233.out) hb); have n6_ := Aside0.mk (below_step (by repeat (first | (with_reducible first | exact HB.out | apply below_alloc | apply pw_below_drewN | apply below_drew1 | refine below_set ?_ GE218.out | refine below_set ?_ GE233.out) | exact HB.out)) hb); clear HO_9; clear HO_16; clear HO_219001; clear HO_234001; clear BK218; clear BK233; clear HB; have HO_9 := n0_; have HO_16 := n1_; have HO_219001 := n2_; have HO_234001 := n3_; have BK218 := n4_; have BK233 := n5_; have HB := n6_; clear n0_ n1_ n2_ n3_ n4_ n5_ n6_; (try clear hb); (try clear hb2); (try clear hk); (try clear hi); have hcz81_0 : w80.cell? ⟨gb218, 0, none⟩ = some (.int .i64 t226) := (blk_cell BK218.out 0).trans rfl; have hcz81_1 : w80.cell? ⟨gb218, 1, none⟩ = some (.slice Ao30 t227.length co30) := (blk_cell BK218.out 1).trans rfl; have hfz81_0 := blk_frozen BK218.out 0; have hfz81_1 := blk_frozen BK218.out 1))
                                                        repeat (go_quiet (first | (go_at_call 10; (with_reducible refine (network_Valid.calls k7 t226 _ _ t227 true _ ?side1 ?side2 A69.out).mono ?_); (case side1 => refine (Kd.R_reads' (e := 35) (base := w.heap.size) (ok := fun k_ => (some k_ ≠ (.slice Ao44 y242.length co44 : Value).ownBlock ∧ some k_ ≠ (.slice Ao25 x219001_2.length co25 : Value).ownBlock)) (n := t227.length) (c := co30) ?_).2.2; exact (by (with_reducible repeat (first | apply Kd.R_alloc | apply Kd.R_drewN | apply Kd.R_drew)); exact (Kd.R_mono (Kd.R_far (p := ⟨gb218, 1, none⟩) (Kd.R_far (p := ⟨gb218, 0, none⟩) (Kd.R_types HO_234001.out BK218.out (by decide)) (fun _ hk => hk.2) (.int .i64 t226)) (fun _ hk => hk.2) (.slice Ao30 t227.length co30)) (fun _ h_ => h_.1)))); (case side2 => exact (Kd.R_reads' HO_234001.out).2.1); rintro e w80 ⟨rfl, hb⟩; have n0_ := Aside0.mk (Kd.R_below (by (with_reducible repeat (first | apply Kd.R_alloc | apply Kd.R_drewN | apply Kd.R_drew)); exact (Kd.R_mono (Kd.R_far (p := ⟨gb218, 1, none⟩) (Kd.R_far (p := ⟨gb218, 0, none⟩) (Kd.R_types HO_9.out BK218.out (by decide)) (fun _ hk => hk.2) (.int .i64 t226)) (fun _ hk => hk.2) (.slice Ao30 t227.length co30)) (fun _ h_ => h_.1))) hb); have n1_ := Aside0.mk (Kd.R_below (by (with_reducible repeat (first | apply Kd.R_alloc | apply Kd.R_drewN | apply Kd.R_drew)); exact (Kd.R_mono (Kd.R_far (p := ⟨gb218, 1, none⟩) (Kd.R_far (p := ⟨gb218, 0, none⟩) (Kd.R_types HO_16.out BK218.out (by decide)) (fun _ hk => hk.2) (.int .i64 t226)) (fun _ hk => hk.2) (.slice Ao30 t227.length co30)) (fun _ h_ => h_.1))) hb); have n2_ := Aside0.mk (Kd.R_below (by (with_reducible repeat (first | apply Kd.R_alloc | apply Kd.R_drewN | apply Kd.R_drew)); exact (Kd.R_mono (Kd.R_far (p := ⟨gb218, 1, none⟩) (Kd.R_far (p := ⟨gb218, 0, none⟩) (Kd.R_types HO_219001.out BK218.out (by decide)) (fun _ hk => hk.2) (.int .i64 t226)) (fun _ hk => hk.2) (.slice Ao30 t227.length co30)) (fun _ h_ => h_.1))) hb); have n3_ := Aside0.mk (Kd.R_below (by (with_reducible repeat (first | apply Kd.R_alloc | apply Kd.R_drewN | apply Kd.R_drew)); exact (Kd.R_mono (Kd.R_far (p := ⟨gb218, 1, none⟩) (Kd.R_far (p := ⟨gb218, 0, none⟩) (Kd.R_types HO_234001.out BK218.out (by decide)) (fun _ hk => hk.2) (.int .i64 t226)) (fun _ hk => hk.2) (.slice Ao30 t227.length co30)) (fun _ h_ => h_.1))) hb); have n4_ := Aside0.mk (blk_below (g := gb218) (o := .cells #[.int .i64 t226, .slice Ao30 t227.length co30] 26 (0, 0)) (by (with_reducible repeat (first | refine blk_drewN ?_ _ | refine blk_drew ?_ | refine blk_alloc ?_ _)); refine blk_put (cs := #[.int .i64 t226, .slice Ao25 x219001_2.length co25]) ?_ 1 _ rfl; (with_reducible repeat (first | refine blk_drewN ?_ _ | refine blk_drew ?_ | refine blk_alloc ?_ _)); refine blk_put (cs := #[.int .i64 x219000_2, .slice Ao25 x219001_2.length co25]) ?_ 0 _ rfl; (with_reducible repeat (first | refine blk_drewN ?_ _ | refine blk_drew ?_ | refine blk_alloc ?_ _)); exact BK218.out) hb); have n5_ := Aside0.mk (blk_below (g := gb233) (o := .cells #[.int .i64 t226, .slice Ao30 t227.length co30] 26 (0, 0)) (by (with_reducible repeat (first | refine blk_drewN ?_ _ | refine blk_drew ?_ | refine blk_alloc ?_ _)); refine blk_far ?_ NB233_218.out _; (with_reducible repeat (first | refine blk_drewN ?_ _ | refine blk_drew ?_ | refine blk_alloc ?_ _)); refine blk_far ?_ NB233_218.out _; (with_reducible repeat (first | refine blk_drewN ?_ _ | refine blk_drew ?_ | refine blk_alloc ?_ _)); exact BK233.out) hb); have n6_ := Aside0.mk (below_step (by repeat (first | (with_reducible first | exact HB.out | apply below_alloc | apply pw_below_drewN | apply below_drew1 | refine below_set ?_ GE218.out | refine below_set ?_ GE233.out) | exact HB.out)) hb); clear HO_9; clear HO_16; clear HO_219001; clear HO_234001; clear BK218; clear BK233; clear HB; have HO_9 := n0_; have HO_16 := n1_; have HO_219001 := n2_; have HO_234001 := n3_; have BK218 := n4_; have BK233 := n5_; have HB := n6_; clear n0_ n1_ n2_ n3_ n4_ n5_ n6_; (try clear hb); (try clear hb2); (try clear hk); (try clear hi); have hcz81_0 : w80.cell? ⟨gb218, 0, none⟩ = some (.int .i64 t226) := (blk_cell BK218.out 0).trans rfl; have hcz81_1 : w80.cell? ⟨gb218, 1, none⟩ = some (.slice Ao30 t227.length co30) := (blk_cell BK218.out 1).trans rfl; have hfz81_0 := blk_frozen BK218.out 0; have hfz81_1 := blk_frozen BK218.out 1)); try go_wp2_with (first | (go_at_call 10; (with_reducible refine (network_Valid.calls k7 t226 _ _ t227 true _ ?side1 ?side2 A69.out).mono ?_); (case side1 => refine (Kd.R_reads' (e := 35) (base := w.heap.size) (ok := fun k_ => (some k_ ≠ (.slice Ao44 y242.length co44 : Value).ownBlock ∧ some k_ ≠ (.slice Ao25 x219001_2.length co25 : Value).ownBlock)) (n := t227.length) (c := co30) ?_).2.2; exact (by (with_reducible repeat (first | apply Kd.R_alloc | apply Kd.R_drewN | apply Kd.R_drew)); exact (Kd.R_mono (Kd.R_far (p := ⟨gb218, 1, none⟩) (Kd.R_far (p := ⟨gb218, 0, none⟩) (Kd.R_types HO_234001.out BK218.out (by decide)) (fun _ hk => hk.2) (.int .i64 t226)) (fun _ hk => hk.2) (.slice Ao30 t227.length co30)) (fun _ h_ => h_.1)))); (case side2 => exact (Kd.R_reads' HO_234001.out).2.1); rintro e w80 ⟨rfl, hb⟩; have n0_ := Aside0.mk (Kd.R_below (by (with_reducible repeat (first | apply Kd.R_alloc | apply Kd.R_drewN | apply Kd.R_drew)); exact (Kd.R_mono (Kd.R_far (p := ⟨gb218, 1, none⟩) (Kd.R_far (p := ⟨gb218, 0, none⟩) (Kd.R_types HO_9.out BK218.out (by decide)) (fun _ hk => hk.2) (.int .i64 t226)) (fun _ hk => hk.2) (.slice Ao30 t227.length co30)) (fun _ h_ => h_.1))) hb); have n1_ := Aside0.mk (Kd.R_below (by (with_reducible repeat (first | apply Kd.R_alloc | apply Kd.R_drewN | apply Kd.R_drew)); exact (Kd.R_mono (Kd.R_far (p := ⟨gb218, 1, none⟩) (Kd.R_far (p := ⟨gb218, 0, none⟩) (Kd.R_types HO_16.out BK218.out (by decide)) (fun _ hk => hk.2) (.int .i64 t226)) (fun _ hk => hk.2) (.slice Ao30 t227.length co30)) (fun _ h_ => h_.1))) hb); have n2_ := Aside0.mk (Kd.R_below (by (with_reducible repeat (first | apply Kd.R_alloc | apply Kd.R_drewN | apply Kd.R_drew)); exact (Kd.R_mono (Kd.R_far (p := ⟨gb218, 1, none⟩) (Kd.R_far (p := ⟨gb218, 0, none⟩) (Kd.R_types HO_219001.out BK218.out (by decide)) (fun _ hk => hk.2) (.int .i64 t226)) (fun _ hk => hk.2) (.slice Ao30 t227.length co30)) (fun _ h_ => h_.1))) hb); have n3_ := Aside0.mk (Kd.R_below (by (with_reducible repeat (first | apply Kd.R_alloc | apply Kd.R_drewN | apply Kd.R_drew)); exact (Kd.R_mono (Kd.R_far (p := ⟨gb218, 1, none⟩) (Kd.R_far (p := ⟨gb218, 0, none⟩) (Kd.R_types HO_234001.out BK218.out (by decide)) (fun _ hk => hk.2) (.int .i64 t226)) (fun _ hk => hk.2) (.slice Ao30 t227.length co30)) (fun _ h_ => h_.1))) hb); have n4_ := Aside0.mk (blk_below (g := gb218) (o := .cells #[.int .i64 t226, .slice Ao30 t227.length co30] 26 (0, 0)) (by (with_reducible repeat (first | refine blk_drewN ?_ _ | refine blk_drew ?_ | refine blk_alloc ?_ _)); refine blk_put (cs := #[.int .i64 t226, .slice Ao25 x219001_2.length co25]) ?_ 1 _ rfl; (with_reducible repeat (first | refine blk_drewN ?_ _ | refine blk_drew ?_ | refine blk_alloc ?_ _)); refine blk_put (cs := #[.int .i64 x219000_2, .slice Ao25 x219001_2.length co25]) ?_ 0 _ rfl; (with_reducible repeat (first | refine blk_drewN ?_ _ | refine blk_drew ?_ | refine blk_alloc ?_ _)); exact BK218.out) hb); have n5_ := Aside0.mk (blk_below (g := gb233) (o := .cells #[.int .i64 t226, .slice Ao30 t227.length co30] 26 (0, 0)) (by (with_reducible repeat (first | refine blk_drewN ?_ _ | refine blk_drew ?_ | refine blk_alloc ?_ _)); refine blk_far ?_ NB233_218.out _; (with_reducible repeat (first | refine blk_drewN ?_ _ | refine blk_drew ?_ | refine blk_alloc ?_ _)); refine blk_far ?_ NB233_218.out _; (with_reducible repeat (first | refine blk_drewN ?_ _ | refine blk_drew ?_ | refine blk_alloc ?_ _)); exact BK233.out) hb); have n6_ := Aside0.mk (below_step (by repeat (first | (with_reducible first | exact HB.out | apply below_alloc | apply pw_below_drewN | apply below_drew1 | refine below_set ?_ GE218.out | refine below_set ?_ GE233.out) | exact HB.out)) hb); clear HO_9; clear HO_16; clear HO_219001; clear HO_234001; clear BK218; clear BK233; clear HB; have HO_9 := n0_; have HO_16 := n1_; have HO_219001 := n2_; have HO_234001 := n3_; have BK218 := n4_; have BK233 := n5_; have HB := n6_; clear n0_ n1_ n2_ n3_ n4_ n5_ n6_; (try clear hb); (try clear hb2); (try clear hk); (try clear hi); have hcz81_0 : w80.cell? ⟨gb218, 0, none⟩ = some (.int .i64 t226) := (blk_cell BK218.out 0).trans rfl; have hcz81_1 : w80.cell? ⟨gb218, 1, none⟩ = some (.slice Ao30 t227.length co30) := (blk_cell BK218.out 1).trans rfl; have hfz81_0 := blk_frozen BK218.out 0; have hfz81_1 := blk_frozen BK218.out 1)))
                                                        go_ret
                                                        exact ⟨by first | rfl | (simp [errW_none, errW_some] <;> rfl) | (simp only [← hji40]; first | rfl | (simp [errW_none, errW_some] <;> rfl)) | (simp [*, errW_none, errW_some] <;> rfl), by repeat (first | (with_reducible first | exact HB.out | apply below_alloc | apply pw_below_drewN | apply below_drew1 | refine below_set ?_ GE218.out | refine below_set ?_ GE233.out) | exact HB.out)⟩
                                                    · replace c70 := Bool.eq_false_iff.mpr c70
                                                      subst c70
                                                      have H1 : (some false) = some r := by rw [if_neg (show ¬ (false = true) by decide)] at H; exact H
                                                      clear H
                                                      have H := H1
                                                      clear H1
                                                      obtain rfl := Option.some.inj H
                                                      have hnb82 := NB233_218.out
                                                      have hnc82 := NB218_233.out
                                                      have hcz83_0 : wr.cell? ⟨gb233, 0, none⟩ = some (.int .i64 t226) := (blk_cell BK233.out 0).trans rfl
                                                      have hcz83_1 : wr.cell? ⟨gb233, 1, none⟩ = some (.slice Ao30 t227.length co30) := (blk_cell BK233.out 1).trans rfl
                                                      have hfz83_0 := blk_frozen BK233.out 0
                                                      have hfz83_1 := blk_frozen BK233.out 1
                                                      have hcz84_0 : wr.cell? ⟨gb218, 0, none⟩ = some (.int .i64 x219000_2) := (blk_cell BK218.out 0).trans rfl
                                                      have hcz84_1 : wr.cell? ⟨gb218, 1, none⟩ = some (.slice Ao25 x219001_2.length co25) := (blk_cell BK218.out 1).trans rfl
                                                      have hfz84_0 := blk_frozen BK218.out 0
                                                      have hfz84_1 := blk_frozen BK218.out 1
                                                      go_wp2_with (first | (go_at_call 10; (with_reducible refine (network_Valid.calls k7 t226 _ _ t227 false _ ?side1 ?side2 A69.out).mono ?_); (case side1 => refine (Kd.R_reads' (e := 35) (base := w.heap.size) (ok := fun k_ => (some k_ ≠ (.slice Ao44 y242.length co44 : Value).ownBlock ∧ some k_ ≠ (.slice Ao25 x219001_2.length co25 : Value).ownBlock)) (n := t227.length) (c := co30) ?_).2.2; exact (by (with_reducible repeat (first | apply Kd.R_alloc | apply Kd.R_drewN | apply Kd.R_drew)); exact (Kd.R_mono (Kd.R_far (p := ⟨gb218, 1, none⟩) (Kd.R_far (p := ⟨gb218, 0, none⟩) (Kd.R_types HO_234001.out BK218.out (by decide)) (fun _ hk => hk.2) (.int .i64 t226)) (fun _ hk => hk.2) (.slice Ao30 t227.length co30)) (fun _ h_ => h_.1)))); (case side2 => exact (Kd.R_reads' HO_234001.out).2.1); rintro e w85 ⟨rfl, hb⟩; have n0_ := Aside0.mk (Kd.R_below (by (with_reducible repeat (first | apply Kd.R_alloc | apply Kd.R_drewN | apply Kd.R_drew)); exact (Kd.R_mono (Kd.R_far (p := ⟨gb218, 1, none⟩) (Kd.R_far (p := ⟨gb218, 0, none⟩) (Kd.R_types HO_9.out BK218.out (by decide)) (fun _ hk => hk.2) (.int .i64 t226)) (fun _ hk => hk.2) (.slice Ao30 t227.length co30)) (fun _ h_ => h_.1))) hb); have n1_ := Aside0.mk (Kd.R_below (by (with_reducible repeat (first | apply Kd.R_alloc | apply Kd.R_drewN | apply Kd.R_drew)); exact (Kd.R_mono (Kd.R_far (p := ⟨gb218, 1, none⟩) (Kd.R_far (p := ⟨gb218, 0, none⟩) (Kd.R_types HO_16.out BK218.out (by decide)) (fun _ hk => hk.2) (.int .i64 t226)) (fun _ hk => hk.2) (.slice Ao30 t227.length co30)) (fun _ h_ => h_.1))) hb); have n2_ := Aside0.mk (Kd.R_below (by (with_reducible repeat (first | apply Kd.R_alloc | apply Kd.R_drewN | apply Kd.R_drew)); exact (Kd.R_mono (Kd.R_far (p := ⟨gb218, 1, none⟩) (Kd.R_far (p := ⟨gb218, 0, none⟩) (Kd.R_types HO_219001.out BK218.out (by decide)) (fun _ hk => hk.2) (.int .i64 t226)) (fun _ hk => hk.2) (.slice Ao30 t227.length co30)) (fun _ h_ => h_.1))) hb); have n3_ := Aside0.mk (Kd.R_below (by (with_reducible repeat (first | apply Kd.R_alloc | apply Kd.R_drewN | apply Kd.R_drew)); exact (Kd.R_mono (Kd.R_far (p := ⟨gb218, 1, none⟩) (Kd.R_far (p := ⟨gb218, 0, none⟩) (Kd.R_types HO_234001.out BK218.out (by decide)) (fun _ hk => hk.2) (.int .i64 t226)) (fun _ hk => hk.2) (.slice Ao30 t227.length co30)) (fun _ h_ => h_.1))) hb); have n4_ := Aside0.mk (blk_below (g := gb218) (o := .cells #[.int .i64 t226, .slice Ao30 t227.length co30] 26 (0, 0)) (by (with_reducible repeat (first | refine blk_drewN ?_ _ | refine blk_drew ?_ | refine blk_alloc ?_ _)); refine blk_put (cs := #[.int .i64 t226, .slice Ao25 x219001_2.length co25]) ?_ 1 _ rfl; (with_reducible repeat (first | refine blk_drewN ?_ _ | refine blk_drew ?_ | refine blk_alloc ?_ _)); refine blk_put (cs := #[.int .i64 x219000_2, .slice Ao25 x219001_2.length co25]) ?_ 0 _ rfl; (with_reducible repeat (first | refine blk_drewN ?_ _ | refine blk_drew ?_ | refine blk_alloc ?_ _)); exact BK218.out) hb); have n5_ := Aside0.mk (blk_below (g := gb233) (o := .cells #[.int .i64 t226, .slice Ao30 t227.length co30] 26 (0, 0)) (by (with_reducible repeat (first | refine blk_drewN ?_ _ | refine blk_drew ?_ | refine blk_alloc ?_ _)); refine blk_far ?_ NB233_218.out _; (with_reducible repeat (first | refine blk_drewN ?_ _ | refine blk_drew ?_ | refine blk_alloc ?_ _)); refine blk_far ?_ NB233_218.out _; (with_reducible repeat (first | refine blk_drewN ?_ _ | refine blk_drew ?_ | refine blk_alloc ?_ _)); exact BK233.out) hb); have n6_ := Aside0.mk (below_step (by repeat (first | (with_reducible first | exact HB.out | apply below_alloc | apply pw_below_drewN | apply below_drew1 | refine below_set ?_ GE218.out | refine below_set ?_ GE233.out) | exact HB.out)) hb); clear HO_9; clear HO_16; clear HO_219001; clear HO_234001; clear BK218; clear BK233; clear HB; have HO_9 := n0_; have HO_16 := n1_; have HO_219001 := n2_; have HO_234001 := n3_; have BK218 := n4_; have BK233 := n5_; have HB := n6_; clear n0_ n1_ n2_ n3_ n4_ n5_ n6_; (try clear hb); (try clear hb2); (try clear hk); (try clear hi)))
                                                      repeat (go_quiet (first | (go_at_call 10; (with_reducible refine (network_Valid.calls k7 t226 _ _ t227 false _ ?side1 ?side2 A69.out).mono ?_); (case side1 => refine (Kd.R_reads' (e := 35) (base := w.heap.size) (ok := fun k_ => (some k_ ≠ (.slice Ao44 y242.length co44 : Value).ownBlock ∧ some k_ ≠ (.slice Ao25 x219001_2.length co25 : Value).ownBlock)) (n := t227.length) (c := co30) ?_).2.2; exact (by (with_reducible repeat (first | apply Kd.R_alloc | apply Kd.R_drewN | apply Kd.R_drew)); exact (Kd.R_mono (Kd.R_far (p := ⟨gb218, 1, none⟩) (Kd.R_far (p := ⟨gb218, 0, none⟩) (Kd.R_types HO_234001.out BK218.out (by decide)) (fun _ hk => hk.2) (.int .i64 t226)) (fun _ hk => hk.2) (.slice Ao30 t227.length co30)) (fun _ h_ => h_.1)))); (case side2 => exact (Kd.R_reads' HO_234001.out).2.1); rintro e w85 ⟨rfl, hb⟩; have n0_ := Aside0.mk (Kd.R_below (by (with_reducible repeat (first | apply Kd.R_alloc | apply Kd.R_drewN | apply Kd.R_drew)); exact (Kd.R_mono (Kd.R_far (p := ⟨gb218, 1, none⟩) (Kd.R_far (p := ⟨gb218, 0, none⟩) (Kd.R_types HO_9.out BK218.out (by decide)) (fun _ hk => hk.2) (.int .i64 t226)) (fun _ hk => hk.2) (.slice Ao30 t227.length co30)) (fun _ h_ => h_.1))) hb); have n1_ := Aside0.mk (Kd.R_below (by (with_reducible repeat (first | apply Kd.R_alloc | apply Kd.R_drewN | apply Kd.R_drew)); exact (Kd.R_mono (Kd.R_far (p := ⟨gb218, 1, none⟩) (Kd.R_far (p := ⟨gb218, 0, none⟩) (Kd.R_types HO_16.out BK218.out (by decide)) (fun _ hk => hk.2) (.int .i64 t226)) (fun _ hk => hk.2) (.slice Ao30 t227.length co30)) (fun _ h_ => h_.1))) hb); have n2_ := Aside0.mk (Kd.R_below (by (with_reducible repeat (first | apply Kd.R_alloc | apply Kd.R_drewN | apply Kd.R_drew)); exact (Kd.R_mono (Kd.R_far (p := ⟨gb218, 1, none⟩) (Kd.R_far (p := ⟨gb218, 0, none⟩) (Kd.R_types HO_219001.out BK218.out (by decide)) (fun _ hk => hk.2) (.int .i64 t226)) (fun _ hk => hk.2) (.slice Ao30 t227.length co30)) (fun _ h_ => h_.1))) hb); have n3_ := Aside0.mk (Kd.R_below (by (with_reducible repeat (first | apply Kd.R_alloc | apply Kd.R_drewN | apply Kd.R_drew)); exact (Kd.R_mono (Kd.R_far (p := ⟨gb218, 1, none⟩) (Kd.R_far (p := ⟨gb218, 0, none⟩) (Kd.R_types HO_234001.out BK218.out (by decide)) (fun _ hk => hk.2) (.int .i64 t226)) (fun _ hk => hk.2) (.slice Ao30 t227.length co30)) (fun _ h_ => h_.1))) hb); have n4_ := Aside0.mk (blk_below (g := gb218) (o := .cells #[.int .i64 t226, .slice Ao30 t227.length co30] 26 (0, 0)) (by (with_reducible repeat (first | refine blk_drewN ?_ _ | refine blk_drew ?_ | refine blk_alloc ?_ _)); refine blk_put (cs := #[.int .i64 t226, .slice Ao25 x219001_2.length co25]) ?_ 1 _ rfl; (with_reducible repeat (first | refine blk_drewN ?_ _ | refine blk_drew ?_ | refine blk_alloc ?_ _)); refine blk_put (cs := #[.int .i64 x219000_2, .slice Ao25 x219001_2.length co25]) ?_ 0 _ rfl; (with_reducible repeat (first | refine blk_drewN ?_ _ | refine blk_drew ?_ | refine blk_alloc ?_ _)); exact BK218.out) hb); have n5_ := Aside0.mk (blk_below (g := gb233) (o := .cells #[.int .i64 t226, .slice Ao30 t227.length co30] 26 (0, 0)) (by (with_reducible repeat (first | refine blk_drewN ?_ _ | refine blk_drew ?_ | refine blk_alloc ?_ _)); refine blk_far ?_ NB233_218.out _; (with_reducible repeat (first | refine blk_drewN ?_ _ | refine blk_drew ?_ | refine blk_alloc ?_ _)); refine blk_far ?_ NB233_218.out _; (with_reducible repeat (first | refine blk_drewN ?_ _ | refine blk_drew ?_ | refine blk_alloc ?_ _)); exact BK233.out) hb); have n6_ := Aside0.mk (below_step (by repeat (first | (with_reducible first | exact HB.out | apply below_alloc | apply pw_below_drewN | apply below_drew1 | refine below_set ?_ GE218.out | refine below_set ?_ GE233.out) | exact HB.out)) hb); clear HO_9; clear HO_16; clear HO_219001; clear HO_234001; clear BK218; clear BK233; clear HB; have HO_9 := n0_; have HO_16 := n1_; have HO_219001 := n2_; have HO_234001 := n3_; have BK218 := n4_; have BK233 := n5_; have HB := n6_; clear n0_ n1_ n2_ n3_ n4_ n5_ n6_; (try clear hb); (try clear hb2); (try clear hk); (try clear hi))); try go_wp2_with (first | (go_at_call 10; (with_reducible refine (network_Valid.calls k7 t226 _ _ t227 false _ ?side1 ?side2 A69.out).mono ?_); (case side1 => refine (Kd.R_reads' (e := 35) (base := w.heap.size) (ok := fun k_ => (some k_ ≠ (.slice Ao44 y242.length co44 : Value).ownBlock ∧ some k_ ≠ (.slice Ao25 x219001_2.length co25 : Value).ownBlock)) (n := t227.length) (c := co30) ?_).2.2; exact (by (with_reducible repeat (first | apply Kd.R_alloc | apply Kd.R_drewN | apply Kd.R_drew)); exact (Kd.R_mono (Kd.R_far (p := ⟨gb218, 1, none⟩) (Kd.R_far (p := ⟨gb218, 0, none⟩) (Kd.R_types HO_234001.out BK218.out (by decide)) (fun _ hk => hk.2) (.int .i64 t226)) (fun _ hk => hk.2) (.slice Ao30 t227.length co30)) (fun _ h_ => h_.1)))); (case side2 => exact (Kd.R_reads' HO_234001.out).2.1); rintro e w85 ⟨rfl, hb⟩; have n0_ := Aside0.mk (Kd.R_below (by (with_reducible repeat (first | apply Kd.R_alloc | apply Kd.R_drewN | apply Kd.R_drew)); exact (Kd.R_mono (Kd.R_far (p := ⟨gb218, 1, none⟩) (Kd.R_far (p := ⟨gb218, 0, none⟩) (Kd.R_types HO_9.out BK218.out (by decide)) (fun _ hk => hk.2) (.int .i64 t226)) (fun _ hk => hk.2) (.slice Ao30 t227.length co30)) (fun _ h_ => h_.1))) hb); have n1_ := Aside0.mk (Kd.R_below (by (with_reducible repeat (first | apply Kd.R_alloc | apply Kd.R_drewN | apply Kd.R_drew)); exact (Kd.R_mono (Kd.R_far (p := ⟨gb218, 1, none⟩) (Kd.R_far (p := ⟨gb218, 0, none⟩) (Kd.R_types HO_16.out BK218.out (by decide)) (fun _ hk => hk.2) (.int .i64 t226)) (fun _ hk => hk.2) (.slice Ao30 t227.length co30)) (fun _ h_ => h_.1))) hb); have n2_ := Aside0.mk (Kd.R_below (by (with_reducible repeat (first | apply Kd.R_alloc | apply Kd.R_drewN | apply Kd.R_drew)); exact (Kd.R_mono (Kd.R_far (p := ⟨gb218, 1, none⟩) (Kd.R_far (p := ⟨gb218, 0, none⟩) (Kd.R_types HO_219001.out BK218.out (by decide)) (fun _ hk => hk.2) (.int .i64 t226)) (fun _ hk => hk.2) (.slice Ao30 t227.length co30)) (fun _ h_ => h_.1))) hb); have n3_ := Aside0.mk (Kd.R_below (by (with_reducible repeat (first | apply Kd.R_alloc | apply Kd.R_drewN | apply Kd.R_drew)); exact (Kd.R_mono (Kd.R_far (p := ⟨gb218, 1, none⟩) (Kd.R_far (p := ⟨gb218, 0, none⟩) (Kd.R_types HO_234001.out BK218.out (by decide)) (fun _ hk => hk.2) (.int .i64 t226)) (fun _ hk => hk.2) (.slice Ao30 t227.length co30)) (fun _ h_ => h_.1))) hb); have n4_ := Aside0.mk (blk_below (g := gb218) (o := .cells #[.int .i64 t226, .slice Ao30 t227.length co30] 26 (0, 0)) (by (with_reducible repeat (first | refine blk_drewN ?_ _ | refine blk_drew ?_ | refine blk_alloc ?_ _)); refine blk_put (cs := #[.int .i64 t226, .slice Ao25 x219001_2.length co25]) ?_ 1 _ rfl; (with_reducible repeat (first | refine blk_drewN ?_ _ | refine blk_drew ?_ | refine blk_alloc ?_ _)); refine blk_put (cs := #[.int .i64 x219000_2, .slice Ao25 x219001_2.length co25]) ?_ 0 _ rfl; (with_reducible repeat (first | refine blk_drewN ?_ _ | refine blk_drew ?_ | refine blk_alloc ?_ _)); exact BK218.out) hb); have n5_ := Aside0.mk (blk_below (g := gb233) (o := .cells #[.int .i64 t226, .slice Ao30 t227.length co30] 26 (0, 0)) (by (with_reducible repeat (first | refine blk_drewN ?_ _ | refine blk_drew ?_ | refine blk_alloc ?_ _)); refine blk_far ?_ NB233_218.out _; (with_reducible repeat (first | refine blk_drewN ?_ _ | refine blk_drew ?_ | refine blk_alloc ?_ _)); refine blk_far ?_ NB233_218.out _; (with_reducible repeat (first | refine blk_drewN ?_ _ | refine blk_drew ?_ | refine blk_alloc ?_ _)); exact BK233.out) hb); have n6_ := Aside0.mk (below_step (by repeat (first | (with_reducible first | exact HB.out | apply below_alloc | apply pw_below_drewN | apply below_drew1 | refine below_set ?_ GE218.out | refine below_set ?_ GE233.out) | exact HB.out)) hb); clear HO_9; clear HO_16; clear HO_219001; clear HO_234001; clear BK218; clear BK233; clear HB; have HO_9 := n0_; have HO_16 := n1_; have HO_219001 := n2_; have HO_234001 := n3_; have BK218 := n4_; have BK233 := n5_; have HB := n6_; clear n0_ n1_ n2_ n3_ n4_ n5_ n6_; (try clear hb); (try clear hb2); (try clear hk); (try clear hi))))
                                                      go_ret
                                                      exact ⟨by first | rfl | (simp [errW_none, errW_some] <;> rfl) | (simp only [← hji40]; first | rfl | (simp [errW_none, errW_some] <;> rfl)) | (simp [*, errW_none, errW_some] <;> rfl), by repeat (first | (with_reducible first | exact HB.out | apply below_alloc | apply pw_below_drewN | apply below_drew1 | refine below_set ?_ GE218.out | refine below_set ?_ GE233.out) | exact HB.out)⟩
                                            · rw [if_neg c53] at H
                                              have c53b0 : ((t230.length : Int) == x21_50) = false := beq_eq_false_iff_ne.mpr c53
                                              have c53b1 : ((t230.length : Int) != x21_50) = true := bne_iff_ne.mpr c53
                                              obtain rfl := Option.some.inj H
                                              obtain ⟨Ao86, co86, eo86⟩ := Kd.R_slice HO_16.out
                                              subst eo86
                                              as_aux_lemma =>
                                              go_wp2
                                              repeat (go_quiet (fail); try go_wp2)
                                              go_ret
                                              exact ⟨by first | rfl | (simp [errW_none, errW_some] <;> rfl) | (simp only [← hji40]; first | rfl | (simp [errW_none, errW_some] <;> rfl)) | (simp [*, errW_none, errW_some] <;> rfl), by repeat (first | (with_reducible first | exact HB.out | apply below_alloc | apply pw_below_drewN | apply below_drew1 | refine below_set ?_ GE218.out | refine below_set ?_ GE233.out) | exact HB.out)⟩
                            · rw [if_neg c42] at H
                              exact absurd H (by simp)
                          · rw [if_neg c41] at H
                            exact absurd H (by simp)
                  · rw [if_neg c20] at H
                    exact absurd H (by simp)
                · rw [if_neg c18] at H
                  exact absurd H (by simp)
              · rw [if_neg c17] at H
                have c17b0 : decide (x10_2 < (l1.length : Int)) = false := decide_eq_false c17
                clear c17
                replace H := Option.bind_eq_some_iff.mp H
                obtain ⟨t219, A870, H⟩ := H
                replace H : (some t219) = some r := H
                have A87 := Aside0.mk A870
                clear A870
                obtain rfl := Option.some.inj H
                go_wp2_with (first | (go_at_call 5; (with_reducible refine (vmfleetlaw33_awake.calls k2  t219 _ A87.out).mono ?_); rintro e w88 ⟨rfl, hb⟩; have n0_ := Aside0.mk (Kd.R_below (by (with_reducible repeat (first | apply Kd.R_alloc | apply Kd.R_drewN | apply Kd.R_drew)); exact HO_9.out) hb); have n1_ := Aside0.mk (Kd.R_below (by (with_reducible repeat (first | apply Kd.R_alloc | apply Kd.R_drewN | apply Kd.R_drew)); exact HO_219001.out) hb); have n2_ := Aside0.mk (blk_below (g := gb218) (o := .cells #[.int .i64 x219000_2, u219001] 26 (0, 0)) (by (with_reducible repeat (first | refine blk_drewN ?_ _ | refine blk_drew ?_ | refine blk_alloc ?_ _)); exact BK218.out) hb); have n3_ := Aside0.mk (below_step (by repeat (first | (with_reducible first | exact HB.out | apply below_alloc | apply pw_below_drewN | apply below_drew1 | refine below_set ?_ GE218.out) | exact HB.out)) hb); clear HO_9; clear HO_219001; clear BK218; clear HB; have HO_9 := n0_; have HO_219001 := n1_; have BK218 := n2_; have HB := n3_; clear n0_ n1_ n2_ n3_; (try clear hb); (try clear hb2); (try clear hk); (try clear hi)))
                repeat (go_quiet (first | (go_at_call 5; (with_reducible refine (vmfleetlaw33_awake.calls k2  t219 _ A87.out).mono ?_); rintro e w88 ⟨rfl, hb⟩; have n0_ := Aside0.mk (Kd.R_below (by (with_reducible repeat (first | apply Kd.R_alloc | apply Kd.R_drewN | apply Kd.R_drew)); exact HO_9.out) hb); have n1_ := Aside0.mk (Kd.R_below (by (with_reducible repeat (first | apply Kd.R_alloc | apply Kd.R_drewN | apply Kd.R_drew)); exact HO_219001.out) hb); have n2_ := Aside0.mk (blk_below (g := gb218) (o := .cells #[.int .i64 x219000_2, u219001] 26 (0, 0)) (by (with_reducible repeat (first | refine blk_drewN ?_ _ | refine blk_drew ?_ | refine blk_alloc ?_ _)); exact BK218.out) hb); have n3_ := Aside0.mk (below_step (by repeat (first | (with_reducible first | exact HB.out | apply below_alloc | apply pw_below_drewN | apply below_drew1 | refine below_set ?_ GE218.out) | exact HB.out)) hb); clear HO_9; clear HO_219001; clear BK218; clear HB; have HO_9 := n0_; have HO_219001 := n1_; have BK218 := n2_; have HB := n3_; clear n0_ n1_ n2_ n3_; (try clear hb); (try clear hb2); (try clear hk); (try clear hi))); try go_wp2_with (first | (go_at_call 5; (with_reducible refine (vmfleetlaw33_awake.calls k2  t219 _ A87.out).mono ?_); rintro e w88 ⟨rfl, hb⟩; have n0_ := Aside0.mk (Kd.R_below (by (with_reducible repeat (first | apply Kd.R_alloc | apply Kd.R_drewN | apply Kd.R_drew)); exact HO_9.out) hb); have n1_ := Aside0.mk (Kd.R_below (by (with_reducible repeat (first | apply Kd.R_alloc | apply Kd.R_drewN | apply Kd.R_drew)); exact HO_219001.out) hb); have n2_ := Aside0.mk (blk_below (g := gb218) (o := .cells #[.int .i64 x219000_2, u219001] 26 (0, 0)) (by (with_reducible repeat (first | refine blk_drewN ?_ _ | refine blk_drew ?_ | refine blk_alloc ?_ _)); exact BK218.out) hb); have n3_ := Aside0.mk (below_step (by repeat (first | (with_reducible first | exact HB.out | apply below_alloc | apply pw_below_drewN | apply below_drew1 | refine below_set ?_ GE218.out) | exact HB.out)) hb); clear HO_9; clear HO_219001; clear BK218; clear HB; have HO_9 := n0_; have HO_219001 := n1_; have BK218 := n2_; have HB := n3_; clear n0_ n1_ n2_ n3_; (try clear hb); (try clear hb2); (try clear hk); (try clear hi))))
                go_ret
                exact ⟨by first | rfl | (simp [errW_none, errW_some] <;> rfl) | (simp [*, errW_none, errW_some] <;> rfl), by repeat (first | (with_reducible first | exact HB.out | apply below_alloc | apply pw_below_drewN | apply below_drew1 | refine below_set ?_ GE218.out) | exact HB.out)⟩
        · replace c12 := Bool.eq_false_iff.mpr c12
          subst c12
          have H1 : (some false) = some r := by rw [if_neg (show ¬ (false = true) by decide)] at H; exact H
          clear H
          have H := H1
          clear H1
          obtain rfl := Option.some.inj H
          go_wp2_with (first | (go_at_call 6; (with_reducible refine (network_New.calls a0 t213 t214 false _ A11.out).mono ?_); rintro e w89 ⟨v215, rfl, ho0, hb⟩; have n0_ := Aside0.mk (Kd.R_lower ho0 (below_size (by repeat (first | (with_reducible first | exact HB.out | apply below_alloc | apply pw_below_drewN | apply below_drew1) | exact HB.out)))); have n1_ := Aside0.mk (below_step (by repeat (first | (with_reducible first | exact HB.out | apply below_alloc | apply pw_below_drewN | apply below_drew1) | exact HB.out)) hb); clear HB; have HO216 := n0_; have HB := n1_; clear n0_ n1_; (try clear hb); (try clear hb2); (try clear hk); (try clear hi); (try clear ho0)) | ((with_reducible refine gate_dst (N := 7) rfl ?_); (try (refine gate_guard (by rfl) ?_; dsimp only)); refine box_event ?hg (N := 7) ?hd (cs := #[.int .i64 0, .slice none 0 0]) (t := 26) ?hr ?_; (case hd => rfl); (case hg => rfl); (case hr => first | (go_simp; done) | (go_simp; rfl)); intro gb218 hg w90 hbox hb; have n0_ := Aside0.mk (Kd.R_below (by (with_reducible repeat (first | apply Kd.R_alloc | apply Kd.R_drewN | apply Kd.R_drew)); exact HO216.out) hb); have n1_ := Aside0.mk (below_step (by repeat (first | (with_reducible first | exact HB.out | apply below_alloc | apply pw_below_drewN | apply below_drew1) | exact HB.out)) hb); have n2_ := Aside0.mk (hbox); have n3_ := Aside0.mk ((by rw [hg]; exact (below_size (by repeat (first | (with_reducible first | exact HB.out | apply below_alloc | apply pw_below_drewN | apply below_drew1) | exact HB.out))) : w.heap.size ≤ gb218)); have n4_ := Aside0.mk ((by rw [hg]; exact (below_size (by repeat (first | (with_reducible first | exact HB.out | apply below_alloc | apply pw_below_drewN | apply below_drew1) | exact HB.out))) : w.heap.size ≤ gb218)); clear HO216; clear HB; have HO216 := n0_; have HB := n1_; have BK218 := n2_; have GW218 := n3_; have GE218 := n4_; clear n0_ n1_ n2_ n3_ n4_; clear hb hbox hg; have hcz91_0 : w90.cell? ⟨gb218, 0, none⟩ = some (.int .i64 0) := (blk_cell BK218.out 0).trans rfl; have hcz91_1 : w90.cell? ⟨gb218, 1, none⟩ = some (.slice none 0 0) := (blk_cell BK218.out 1).trans rfl; have hfz91_0 := blk_frozen BK218.out 0; have hfz91_1 := blk_frozen BK218.out 1; obtain ⟨Ao92, co92, eo92⟩ := Kd.R_slice HO216.out; subst eo92))
          repeat (go_quiet (first | (go_at_call 6; (with_reducible refine (network_New.calls a0 t213 t214 false _ A11.out).mono ?_); rintro e w89 ⟨v215, rfl, ho0, hb⟩; have n0_ := Aside0.mk (Kd.R_lower ho0 (below_size (by repeat (first | (with_reducible first | exact HB.out | apply below_alloc | apply pw_below_drewN | apply below_drew1) | exact HB.out)))); have n1_ := Aside0.mk (below_step (by repeat (first | (with_reducible first | exact HB.out | apply below_alloc | apply pw_below_drewN | apply below_drew1) | exact HB.out)) hb); clear HB; have HO216 := n0_; have HB := n1_; clear n0_ n1_; (try clear hb); (try clear hb2); (try clear hk); (try clear hi); (try clear ho0)) | ((with_reducible refine gate_dst (N := 7) rfl ?_); (try (refine gate_guard (by rfl) ?_; dsimp only)); refine box_event ?hg (N := 7) ?hd (cs := #[.int .i64 0, .slice none 0 0]) (t := 26) ?hr ?_; (case hd => rfl); (case hg => rfl); (case hr => first | (go_simp; done) | (go_simp; rfl)); intro gb218 hg w90 hbox hb; have n0_ := Aside0.mk (Kd.R_below (by (with_reducible repeat (first | apply Kd.R_alloc | apply Kd.R_drewN | apply Kd.R_drew)); exact HO216.out) hb); have n1_ := Aside0.mk (below_step (by repeat (first | (with_reducible first | exact HB.out | apply below_alloc | apply pw_below_drewN | apply below_drew1) | exact HB.out)) hb); have n2_ := Aside0.mk (hbox); have n3_ := Aside0.mk ((by rw [hg]; exact (below_size (by repeat (first | (with_reducible first | exact HB.out | apply below_alloc | apply pw_below_drewN | apply below_drew1) | exact HB.out))) : w.heap.size ≤ gb218)); have n4_ := Aside0.mk ((by rw [hg]; exact (below_size (by repeat (first | (with_reducible first | exact HB.out | apply below_alloc | apply pw_below_drewN | apply below_drew1) | exact HB.out))) : w.heap.size ≤ gb218)); clear HO216; clear HB; have HO216 := n0_; have HB := n1_; have BK218 := n2_; have GW218 := n3_; have GE218 := n4_; clear n0_ n1_ n2_ n3_ n4_; clear hb hbox hg; have hcz91_0 : w90.cell? ⟨gb218, 0, none⟩ = some (.int .i64 0) := (blk_cell BK218.out 0).trans rfl; have hcz91_1 : w90.cell? ⟨gb218, 1, none⟩ = some (.slice none 0 0) := (blk_cell BK218.out 1).trans rfl; have hfz91_0 := blk_frozen BK218.out 0; have hfz91_1 := blk_frozen BK218.out 1; obtain ⟨Ao92, co92, eo92⟩ := Kd.R_slice HO216.out; subst eo92)); try go_wp2_with (first | (go_at_call 6; (with_reducible refine (network_New.calls a0 t213 t214 false _ A11.out).mono ?_); rintro e w89 ⟨v215, rfl, ho0, hb⟩; have n0_ := Aside0.mk (Kd.R_lower ho0 (below_size (by repeat (first | (with_reducible first | exact HB.out | apply below_alloc | apply pw_below_drewN | apply below_drew1) | exact HB.out)))); have n1_ := Aside0.mk (below_step (by repeat (first | (with_reducible first | exact HB.out | apply below_alloc | apply pw_below_drewN | apply below_drew1) | exact HB.out)) hb); clear HB; have HO216 := n0_; have HB := n1_; clear n0_ n1_; (try clear hb); (try clear hb2); (try clear hk); (try clear hi); (try clear ho0)) | ((with_reducible refine gate_dst (N := 7) rfl ?_); (try (refine gate_guard (by rfl) ?_; dsimp only)); refine box_event ?hg (N := 7) ?hd (cs := #[.int .i64 0, .slice none 0 0]) (t := 26) ?hr ?_; (case hd => rfl); (case hg => rfl); (case hr => first | (go_simp; done) | (go_simp; rfl)); intro gb218 hg w90 hbox hb; have n0_ := Aside0.mk (Kd.R_below (by (with_reducible repeat (first | apply Kd.R_alloc | apply Kd.R_drewN | apply Kd.R_drew)); exact HO216.out) hb); have n1_ := Aside0.mk (below_step (by repeat (first | (with_reducible first | exact HB.out | apply below_alloc | apply pw_below_drewN | apply below_drew1) | exact HB.out)) hb); have n2_ := Aside0.mk (hbox); have n3_ := Aside0.mk ((by rw [hg]; exact (below_size (by repeat (first | (with_reducible first | exact HB.out | apply below_alloc | apply pw_below_drewN | apply below_drew1) | exact HB.out))) : w.heap.size ≤ gb218)); have n4_ := Aside0.mk ((by rw [hg]; exact (below_size (by repeat (first | (with_reducible first | exact HB.out | apply below_alloc | apply pw_below_drewN | apply below_drew1) | exact HB.out))) : w.heap.size ≤ gb218)); clear HO216; clear HB; have HO216 := n0_; have HB := n1_; have BK218 := n2_; have GW218 := n3_; have GE218 := n4_; clear n0_ n1_ n2_ n3_ n4_; clear hb hbox hg; have hcz91_0 : w90.cell? ⟨gb218, 0, none⟩ = some (.int .i64 0) := (blk_cell BK218.out 0).trans rfl; have hcz91_1 : w90.cell? ⟨gb218, 1, none⟩ = some (.slice none 0 0) := (blk_cell BK218.out 1).trans rfl; have hfz91_0 := blk_frozen BK218.out 0; have hfz91_1 := blk_frozen BK218.out 1; obtain ⟨Ao92, co92, eo92⟩ := Kd.R_slice HO216.out; subst eo92)))
          go_ret
          exact ⟨by first | rfl | (simp [errW_none, errW_some] <;> rfl) | (simp [*, errW_none, errW_some] <;> rfl), by repeat (first | (with_reducible first | exact HB.out | apply below_alloc | apply pw_below_drewN | apply below_drew1 | refine below_set ?_ GE218.out) | exact HB.out)⟩

/-- THE ONE PURE STATEMENT of vmfleetlaw33_SwitchLearns: yours. -/
def vmfleetlaw33_SwitchLearns.Pure : Prop := ∀ (a0 : Int) (l1 : List Int) (l2 : List Int), (Lit.int .i64 a0).wf = true → l1.length ≤ maxLen → l1.length * 8 ≤ 140737488351232 → (∀ x ∈ l1, (Lit.int .i64 x).wf = true) → l2.length ≤ maxLen → l2.length * 8 ≤ 140737488351232 → (∀ x ∈ l2, (Lit.int .i64 x).wf = true) → ∃ k, vmfleetlaw33_SwitchLearns.f k a0 l1 l2 = some true
theorem vmfleetlaw33_SwitchLearns.walk (P : vmfleetlaw33_SwitchLearns.Pure) (a0 : Int) (a1 : Option Addr) (len1 cap1 : Nat) (z1 : List Int) (a2 : Option Addr) (len2 cap2 : Nat) (z2 : List Int) (w : World) (w0 : (Lit.int .i64 a0).wf = true) (w1 : (a1 = none ∧ len1 = 0 ∧ cap1 = 0 ∧ z1 = []) ∨ ∃ x, a1 = some x ∧ len1 ≤ cap1 ∧ cap1 ≤ maxLen ∧ z1.length = cap1 ∧ (∀ i, i < z1.length → w.cell? (x.add i) = some (.int .i64 (z1.getD i 0))) ∧ ∀ n ∈ z1, (Lit.int .i64 n).wf = true) (y1 : len1 * 8 ≤ 140737488351232) (w2 : (a2 = none ∧ len2 = 0 ∧ cap2 = 0 ∧ z2 = []) ∨ ∃ x, a2 = some x ∧ len2 ≤ cap2 ∧ cap2 ≤ maxLen ∧ z2.length = cap2 ∧ (∀ i, i < z2.length → w.cell? (x.add i) = some (.int .i64 (z2.getD i 0))) ∧ ∀ n ∈ z2, (Lit.int .i64 n).wf = true) (y2 : len2 * 8 ≤ 140737488351232) :
    Calls Try.prog 3 #[.int .i64 a0, .slice a1 len1 cap1, .slice a2 len2 cap2] w fun e w' => e = .returned (.bool true) ∧ Below w.heap.size w w' := by
  obtain ⟨l1, rfl, hr1, hm1, hw1, hc1⟩ := ReadsInt.ofRowC w1
  obtain ⟨l2, rfl, hr2, hm2, hw2, hc2⟩ := ReadsInt.ofRowC w2
  obtain ⟨k, h⟩ := P a0 l1 l2 w0 hm1 y1 hw1 hm2 y2 hw2
  refine (vmfleetlaw33_SwitchLearns.calls k a0 _ _ l1 _ _ l2 true w (Kd.C_of_reads (d := (0 : Int)) (h1 := fun _ => rfl) hr1) hc1 (Kd.C_of_reads (d := (0 : Int)) (h1 := fun _ => rfl) hr2) hc2 h).mono ?_
  rintro e w' ⟨rfl, hd⟩
  exact ⟨rfl, hd⟩

end Go.Proofs.Ytdkbhjmoiblobaa.HSwitchLearns
