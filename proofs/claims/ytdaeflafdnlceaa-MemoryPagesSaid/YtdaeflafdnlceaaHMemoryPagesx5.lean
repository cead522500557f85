-- Written for this claim by wip/hook.py, by means of the kit's print and of hand-proved contracts.
import Derived.Test.YtdaeflafdnlceaaHMemoryPagesx0
import Derived.Test.YtdaeflafdnlceaaHMemoryPagesx1
import Derived.Test.YtdaeflafdnlceaaHMemoryPagesx2
import Derived.Test.YtdaeflafdnlceaaHMemoryPagesx3
import Derived.Test.YtdaeflafdnlceaaHMemoryPagesx4
namespace Go.Proofs.Ytdaeflafdnlceaa.HMemoryPages
open Go.RowKit Go.Proofs.YtdaeflafdnlceaaW.PrintWords Go.Proofs.YtdaeflafdnlceaaW.PrintLast Go.Proofs.YtdaeflafdnlceaaW.PrintMore
attribute [local go_sem] max2_int min2_int max_two min_two max_three min_three max_four min_four   -- for this text's walks alone
set_option linter.unusedVariables false
set_option linter.unusedSimpArgs false

/-! ### vmfleetref1_SetPage: function 27 -/
def vmfleetref1_SetPage.f (k : Nat) (l0 : List Int) (a1 : Int) (a2 : ByteArray) : Option (List Int × Bool) := (vmfleetref1_Copy.f l0).bind fun t177 => (if a1 < 0 then (some (t177, false)) else ((vmfleetref1_Pages.f l0).bind fun t180 => (if a1 ≥ t180 then (some (t177, false)) else (if (a2.size : Int) = 128 then ((vmfleetref1_Fill.f k t177 a1 a2).bind fun t181 => (some (t181, true))) else (some (t177, false))))))
theorem vmfleetref1_SetPage.mono : ∀ a0 a1 a2 k, LeO (vmfleetref1_SetPage.f k a0 a1 a2) (vmfleetref1_SetPage.f (k + 1) a0 a1 a2) := by
  intro a0 a1 a2 k
  unfold vmfleetref1_SetPage.f
  repeat' first
      | (with_reducible exact vmfleetref1_Fill.mono _ _ _ _)
      | (with_reducible exact LeO.refl _)
      | (with_reducible exact LeO.none _)
      | (with_reducible refine LeO.ite ?_ ?_)
      | (with_reducible refine LeO.bind ?_ (fun _ => ?_))
      | exact vmfleetref1_Fill.mono _ _ _ _
      | exact LeO.none _
      | refine LeO.ite ?_ ?_
      | refine LeO.bind ?_ (fun _ => ?_)
set_option maxHeartbeats 8000000 in
set_option maxRecDepth 100000 in
theorem vmfleetref1_SetPage.calls (k : Nat) (A0 : Option Addr) (c0 : Nat) (l0 : List Int) (a1 : Int) (a2 : ByteArray) (r1 : List Int) (r2 : Bool) (w : World) (hr0 : Kd.C (Kd.int .u32) w A0 l0.length l0) (hc0 : l0.length ≤ c0) (h : vmfleetref1_SetPage.f k l0 a1 a2 = some (r1, r2)) :
    Calls Try.prog 27 #[.slice A0 l0.length c0, .int .i64 a1, .string a2] w fun e w' => ∃ v0_ : Value, e = .returned (.tuple #[v0_, .bool r2]) ∧ Kd.R (Kd.int .u32) 24 w' w.heap.size (fun _ => True) v0_ r1 ∧ Below w.heap.size w w' := by
  have HR0 := Aside0.mk hr0
  have HC0 := Aside0.mk hc0
  clear hr0 hc0
  have HB := Aside0.mk (Below.refl w.heap.size w)
  have H : ((vmfleetref1_Copy.f l0).bind fun t177 => (if a1 < 0 then (some (t177, false)) else ((vmfleetref1_Pages.f l0).bind fun t180 => (if a1 ≥ t180 then (some (t177, false)) else (if (a2.size : Int) = 128 then ((vmfleetref1_Fill.f k t177 a1 a2).bind fun t181 => (some (t181, true))) else (some (t177, false))))))) = some (r1, r2) := h
  clear h
  replace H := Option.bind_eq_some_iff.mp H
  obtain ⟨t177, A40, H⟩ := H
  replace H : (if a1 < 0 then (some (t177, false)) else ((vmfleetref1_Pages.f l0).bind fun t180 => (if a1 ≥ t180 then (some (t177, false)) else (if (a2.size : Int) = 128 then ((vmfleetref1_Fill.f k t177 a1 a2).bind fun t181 => (some (t181, true))) else (some (t177, false)))))) = some (r1, r2) := H
  have A4 := Aside0.mk A40
  clear A40
  by_cases c5 : a1 < 0
  · rw [if_pos c5] at H
    have c5b0 : decide (a1 < 0) = true := decide_eq_true c5
    clear c5
    simp only [Option.some.injEq, Prod.mk.injEq] at H
    obtain ⟨rfl, rfl⟩ := H
    go_enter Try.func27, Try.ntmps27
    go_wp2_with (first | ((with_reducible refine gate_callee (f := 38) rfl ?_); refine goesL_ (some 10) rfl rfl Try.func38 (by kernel_rfl) rfl #[.slice A0 l0.length c0] rfl (by (try simp only [List.map_toArray, List.map_cons, List.map_nil]); first | done | rfl | (simp only [List.length_drop, List.length_take]; rfl)) ?_; (with_reducible refine (vmfleetref1_Copy.calls _ _ l0 t177 _ ?side1 ?side2 A4.out).mono ?_); (case side1 => repeat (first | exact HR0.out | (with_reducible refine Kd.C_alloc ?_ _) | (with_reducible refine Kd.C_drewN ?_ _) | (with_reducible refine Kd.C_drew ?_))); (case side2 => exact HC0.out); rintro e w6 ⟨v178, rfl, ho0, hb⟩; refine ⟨_, rfl, ?_⟩; have n0_ := Aside0.mk (Kd.R_lower ho0 (below_size (by repeat (first | (with_reducible first | exact HB.out | apply below_alloc | apply pw_below_drewN | apply below_drew1) | exact HB.out)))); have n1_ := Aside0.mk (below_step (by repeat (first | (with_reducible first | exact HB.out | apply below_alloc | apply pw_below_drewN | apply below_drew1) | exact HB.out)) hb); clear HB; have HO179 := n0_; have HB := n1_; clear n0_ n1_; (try clear hb); (try clear hb2); (try clear hk); (try clear hi); (try clear ho0)))
    go_ret2
    exact ⟨_, by first | rfl | (simp [errW_none, errW_some] <;> rfl) | (simp [*, errW_none, errW_some] <;> rfl), by (with_reducible repeat (first | apply Kd.R_alloc | apply Kd.R_drewN | apply Kd.R_drew)); exact HO179.out, by repeat (first | (with_reducible first | exact HB.out | apply below_alloc | apply pw_below_drewN | apply below_drew1) | exact HB.out)⟩
  · rw [if_neg c5] at H
    have c5b0 : decide (a1 < 0) = false := decide_eq_false c5
    clear c5
    replace H := Option.bind_eq_some_iff.mp H
    obtain ⟨t180, A70, H⟩ := H
    replace H : (if a1 ≥ t180 then (some (t177, false)) else (if (a2.size : Int) = 128 then ((vmfleetref1_Fill.f k t177 a1 a2).bind fun t181 => (some (t181, true))) else (some (t177, false)))) = some (r1, r2) := H
    have A7 := Aside0.mk A70
    clear A70
    by_cases c8 : a1 ≥ t180
    · rw [if_pos c8] at H
      have c8b0 : decide (t180 ≤ a1) = true := decide_eq_true c8
      clear c8
      simp only [Option.some.injEq, Prod.mk.injEq] at H
      obtain ⟨rfl, rfl⟩ := H
      go_enter Try.func27, Try.ntmps27
      go_wp2_with (first | ((with_reducible refine gate_callee (f := 38) rfl ?_); refine goesL_ (some 10) rfl rfl Try.func38 (by kernel_rfl) rfl #[.slice A0 l0.length c0] rfl (by (try simp only [List.map_toArray, List.map_cons, List.map_nil]); first | done | rfl | (simp only [List.length_drop, List.length_take]; rfl)) ?_; (with_reducible refine (vmfleetref1_Copy.calls _ _ l0 t177 _ ?side1 ?side2 A4.out).mono ?_); (case side1 => repeat (first | exact HR0.out | (with_reducible refine Kd.C_alloc ?_ _) | (with_reducible refine Kd.C_drewN ?_ _) | (with_reducible refine Kd.C_drew ?_))); (case side2 => exact HC0.out); rintro e w9 ⟨v178, rfl, ho0, hb⟩; refine ⟨_, rfl, ?_⟩; have n0_ := Aside0.mk (Kd.R_lower ho0 (below_size (by repeat (first | (with_reducible first | exact HB.out | apply below_alloc | apply pw_below_drewN | apply below_drew1) | exact HB.out)))); have n1_ := Aside0.mk (below_step (by repeat (first | (with_reducible first | exact HB.out | apply below_alloc | apply pw_below_drewN | apply below_drew1) | exact HB.out)) hb); clear HB; have HO179 := n0_; have HB := n1_; clear n0_ n1_; (try clear hb); (try clear hb2); (try clear hk); (try clear hi); (try clear ho0)) | (go_at_call 18; (with_reducible refine (vmfleetref1_Pages.calls _ _ l0 t180 _ ?side1 ?side2 A7.out).mono ?_); (case side1 => repeat (first | exact (Kd.C_below HR0.out HB.out) | (with_reducible refine Kd.C_alloc ?_ _) | (with_reducible refine Kd.C_drewN ?_ _) | (with_reducible refine Kd.C_drew ?_))); (case side2 => exact HC0.out); rintro e w' ⟨rfl, ⟨nd, rfl⟩⟩))
      go_ret2
      exact ⟨_, by first | rfl | (simp [errW_none, errW_some] <;> rfl) | (simp [*, errW_none, errW_some] <;> rfl), by (with_reducible repeat (first | apply Kd.R_alloc | apply Kd.R_drewN | apply Kd.R_drew)); exact HO179.out, by repeat (first | (with_reducible first | exact HB.out | apply below_alloc | apply pw_below_drewN | apply below_drew1) | exact HB.out)⟩
    · rw [if_neg c8] at H
      have c8b0 : decide (t180 ≤ a1) = false := decide_eq_false c8
      clear c8
      by_cases c10 : (a2.size : Int) = 128
      · rw [if_pos c10] at H
        have c10b0 : ((a2.size : Int) == 128) = true := beq_iff_eq.mpr c10
        have c10b1 : ((a2.size : Int) != 128) = false := bne_eq_false_iff_eq.mpr c10
        clear c10
        replace H := Option.bind_eq_some_iff.mp H
        obtain ⟨t181, A110, H⟩ := H
        replace H : (some (t181, true)) = some (r1, r2) := H
        have A11 := Aside0.mk A110
        clear A110
        simp only [Option.some.injEq, Prod.mk.injEq] at H
        obtain ⟨rfl, rfl⟩ := H
        go_enter Try.func27, Try.ntmps27
        go_wp2_with (first | ((with_reducible refine gate_callee (f := 38) rfl ?_); refine goesL_ (some 10) rfl rfl Try.func38 (by kernel_rfl) rfl #[.slice A0 l0.length c0] rfl (by (try simp only [List.map_toArray, List.map_cons, List.map_nil]); first | done | rfl | (simp only [List.length_drop, List.length_take]; rfl)) ?_; (with_reducible refine (vmfleetref1_Copy.calls _ _ l0 t177 _ ?side1 ?side2 A4.out).mono ?_); (case side1 => repeat (first | exact HR0.out | (with_reducible refine Kd.C_alloc ?_ _) | (with_reducible refine Kd.C_drewN ?_ _) | (with_reducible refine Kd.C_drew ?_))); (case side2 => exact HC0.out); rintro e w12 ⟨v178, rfl, ho0, hb⟩; refine ⟨_, rfl, ?_⟩; have n0_ := Aside0.mk (Kd.R_lower ho0 (below_size (by repeat (first | (with_reducible first | exact HB.out | apply below_alloc | apply pw_below_drewN | apply below_drew1) | exact HB.out)))); have n1_ := Aside0.mk (below_step (by repeat (first | (with_reducible first | exact HB.out | apply below_alloc | apply pw_below_drewN | apply below_drew1) | exact HB.out)) hb); clear HB; have HO179 := n0_; have HB := n1_; clear n0_ n1_; (try clear hb); (try clear hb2); (try clear hk); (try clear hi); (try clear ho0)) | (go_at_call 18; (with_reducible refine (vmfleetref1_Pages.calls _ _ l0 t180 _ ?side1 ?side2 A7.out).mono ?_); (case side1 => repeat (first | exact (Kd.C_below HR0.out HB.out) | (with_reducible refine Kd.C_alloc ?_ _) | (with_reducible refine Kd.C_drewN ?_ _) | (with_reducible refine Kd.C_drew ?_))); (case side2 => exact HC0.out); rintro e w' ⟨rfl, ⟨nd, rfl⟩⟩; obtain ⟨Ao13, co13, eo13⟩ := Kd.R_slice HO179.out; subst eo13) | ((with_reducible refine gate_callee (f := 44) rfl ?_); refine goesL_ (some 28) rfl rfl Try.func44 (by kernel_rfl) rfl #[.slice Ao13 t177.length co13, .int .i64 a1, .string a2] rfl (by (try simp only [List.map_toArray, List.map_cons, List.map_nil]); first | done | rfl | (simp only [List.length_drop, List.length_take]; rfl)) ?_; (with_reducible refine (vmfleetref1_Fill.calls k (fun k_ => some k_ = (.slice Ao13 t177.length co13 : Value).ownBlock) (.slice Ao13 t177.length co13) t177 a1 a2 t181 w _ ?side1 ?side2 A11.out).mono ?_); (case side1 => repeat (first | (with_reducible first | exact HB.out | apply below_alloc | apply pw_below_drewN | apply below_drew1) | exact HB.out)); (case side2 => exact Kd.R_tight rfl HO179.out); rintro e w14 ⟨rfl, hy0, hb, hkp⟩; refine ⟨_, rfl, ?_⟩; have n0_ := Aside0.mk (Kd.R_reok rfl hy0 (fun k_ e_ => HO179.out.1 k_ e_)); have n1_ := Aside0.mk (hb); clear HO179; clear HB; have HO179 := n0_; have HB := n1_; clear n0_ n1_; (try clear hb); (try clear hkp); (try clear hy0)))
        go_ret2
        exact ⟨_, by first | rfl | (simp [errW_none, errW_some] <;> rfl) | (simp [*, errW_none, errW_some] <;> rfl), by (with_reducible repeat (first | apply Kd.R_alloc | apply Kd.R_drewN | apply Kd.R_drew)); exact HO179.out, by repeat (first | (with_reducible first | exact HB.out | apply below_alloc | apply pw_below_drewN | apply below_drew1) | exact HB.out)⟩
      · rw [if_neg c10] at H
        have c10b0 : ((a2.size : Int) == 128) = false := beq_eq_false_iff_ne.mpr c10
        have c10b1 : ((a2.size : Int) != 128) = true := bne_iff_ne.mpr c10
        simp only [Option.some.injEq, Prod.mk.injEq] at H
        obtain ⟨rfl, rfl⟩ := H
        go_enter Try.func27, Try.ntmps27
        go_wp2_with (first | ((with_reducible refine gate_callee (f := 38) rfl ?_); refine goesL_ (some 10) rfl rfl Try.func38 (by kernel_rfl) rfl #[.slice A0 l0.length c0] rfl (by (try simp only [List.map_toArray, List.map_cons, List.map_nil]); first | done | rfl | (simp only [List.length_drop, List.length_take]; rfl)) ?_; (with_reducible refine (vmfleetref1_Copy.calls _ _ l0 t177 _ ?side1 ?side2 A4.out).mono ?_); (case side1 => repeat (first | exact HR0.out | (with_reducible refine Kd.C_alloc ?_ _) | (with_reducible refine Kd.C_drewN ?_ _) | (with_reducible refine Kd.C_drew ?_))); (case side2 => exact HC0.out); rintro e w15 ⟨v178, rfl, ho0, hb⟩; refine ⟨_, rfl, ?_⟩; have n0_ := Aside0.mk (Kd.R_lower ho0 (below_size (by repeat (first | (with_reducible first | exact HB.out | apply below_alloc | apply pw_below_drewN | apply below_drew1) | exact HB.out)))); have n1_ := Aside0.mk (below_step (by repeat (first | (with_reducible first | exact HB.out | apply below_alloc | apply pw_below_drewN | apply below_drew1) | exact HB.out)) hb); clear HB; have HO179 := n0_; have HB := n1_; clear n0_ n1_; (try clear hb); (try clear hb2); (try clear hk); (try clear hi); (try clear ho0)) | (go_at_call 18; (with_reducible refine (vmfleetref1_Pages.calls _ _ l0 t180 _ ?side1 ?side2 A7.out).mono ?_); (case side1 => repeat (first | exact (Kd.C_below HR0.out HB.out) | (with_reducible refine Kd.C_alloc ?_ _) | (with_reducible refine Kd.C_drewN ?_ _) | (with_reducible refine Kd.C_drew ?_))); (case side2 => exact HC0.out); rintro e w' ⟨rfl, ⟨nd, rfl⟩⟩))
        go_ret2
        exact ⟨_, by first | rfl | (simp [errW_none, errW_some] <;> rfl) | (simp [*, errW_none, errW_some] <;> rfl), by (with_reducible repeat (first | apply Kd.R_alloc | apply Kd.R_drewN | apply Kd.R_drew)); exact HO179.out, by repeat (first | (with_reducible first | exact HB.out | apply below_alloc | apply pw_below_drewN | apply below_drew1) | exact HB.out)⟩

/-! ### vmfleetlaw4_MemoryPages: function 6 -/
mutual
def vmfleetlaw4_MemoryPages.j0 : Nat → List Int → Int → Int → ByteArray → Option (Bool)
  | 0, _, _, _, _ => none
  | k + 1, x0, x4, x5, x6 => if (x6.size : Int) > 300 then ((vmfleetlaw4_awake.f).bind fun t186 => (some t186)) else (if (Go.bits .and .i64 x5 2) = 2 then ((vmfleetmake_Round.f x4 7).bind fun t187 => (vmfleetlaw4_MemoryPages.j1 k x0 t187 x6)) else (vmfleetlaw4_MemoryPages.j1 k x0 x4 x6))
def vmfleetlaw4_MemoryPages.j1 : Nat → List Int → Int → ByteArray → Option (Bool)
  | 0, _, _, _ => none
  | k + 1, x0, x4, x6 => (memory_Page.f x0 x4).bind fun bt188 => ((vmfleetref1_Page.f k x0 x4).bind fun bt190 => ((memory_SetPage.f k x0 x4 x6).bind fun bt192 => ((vmfleetref1_SetPage.f k x0 x4 x6).bind fun bt196 => (if bt188.1.toList = bt190.1.toList then (if (bt188.2 != bt190.2) = true then (vmfleetlaw4_MemoryPages.j2 k x4 x6 bt192.1 bt192.2 true) else (if (bt192.2 != bt196.2) = true then (vmfleetlaw4_MemoryPages.j2 k x4 x6 bt192.1 bt192.2 true) else ((vmfleetref1_SameWords.f k bt192.1 bt196.1).bind fun t200 => (vmfleetlaw4_MemoryPages.j2 k x4 x6 bt192.1 bt192.2 (!t200))))) else (vmfleetlaw4_MemoryPages.j2 k x4 x6 bt192.1 bt192.2 true)))))
def vmfleetlaw4_MemoryPages.j2 : Nat → Int → ByteArray → List Int → Bool → Bool → Option (Bool)
  | 0, _, _, _, _, _ => none
  | k + 1, x4, x6, x19, x20, x88 => if x88 = true then (some false) else ((memory_Page.f x19 x4).bind fun bt201 => (if x20 = true then (if bt201.2 = true then (if bt201.1.toList = x6.toList then ((vmfleetlaw4_awake.f).bind fun t203 => (some t203)) else (some false)) else (some false)) else ((vmfleetlaw4_awake.f).bind fun t204 => (some t204))))
end
def vmfleetlaw4_MemoryPages.f (k : Nat) (l0 : List Int) (a1 : Bool) (l2 : List Int) (a3 : Int) (a4 : Int) (a5 : Int) (a6 : ByteArray) : Option (Bool) := (vmfleetlaw4_shaped.f k l0 a1 l2 a3).bind fun t182 => (if (Go.bits .and .i64 a5 1) = 1 then ((vmfleetmake_Data.f k a5 128).bind fun t185 => (vmfleetlaw4_MemoryPages.j0 k t182 a4 a5 t185)) else (vmfleetlaw4_MemoryPages.j0 k t182 a4 a5 a6))
theorem vmfleetlaw4_MemoryPages.mono_l : ∀ k, (∀ y0 y1 y2 y3, LeO (vmfleetlaw4_MemoryPages.j0 k y0 y1 y2 y3) (vmfleetlaw4_MemoryPages.j0 (k + 1) y0 y1 y2 y3)) ∧ (∀ y0 y1 y2, LeO (vmfleetlaw4_MemoryPages.j1 k y0 y1 y2) (vmfleetlaw4_MemoryPages.j1 (k + 1) y0 y1 y2)) ∧ (∀ y0 y1 y2 y3 y4, LeO (vmfleetlaw4_MemoryPages.j2 k y0 y1 y2 y3 y4) (vmfleetlaw4_MemoryPages.j2 (k + 1) y0 y1 y2 y3 y4))
  | 0 => ⟨fun _ _ _ _ r h => by simp [vmfleetlaw4_MemoryPages.j0] at h, fun _ _ _ r h => by simp [vmfleetlaw4_MemoryPages.j1] at h, fun _ _ _ _ _ r h => by simp [vmfleetlaw4_MemoryPages.j2] at h⟩
  | k + 1 => by
    obtain ⟨ih0, ih1, ih2⟩ := vmfleetlaw4_MemoryPages.mono_l k
    refine ⟨?_, ?_, ?_⟩
    · intro y0 y1 y2 y3
      unfold vmfleetlaw4_MemoryPages.j0
      repeat' first
      | (with_reducible exact ih0 _ _ _ _)
      | (with_reducible exact ih1 _ _ _)
      | (with_reducible exact ih2 _ _ _ _ _)
      | (with_reducible exact memory_SetPage.mono _ _ _ _)
      | (with_reducible exact vmfleetlaw4_shaped.mono _ _ _ _ _)
      | (with_reducible exact vmfleetmake_Data.mono _ _ _)
      | (with_reducible exact vmfleetref1_Page.mono _ _ _)
      | (with_reducible exact vmfleetref1_SameWords.mono _ _ _)
      | (with_reducible exact vmfleetref1_SetPage.mono _ _ _ _)
      | (with_reducible exact LeO.refl _)
      | (with_reducible exact LeO.none _)
      | (with_reducible refine LeO.ite ?_ ?_)
      | (with_reducible refine LeO.bind ?_ (fun _ => ?_))
      | exact ih0 _ _ _ _
      | exact ih1 _ _ _
      | exact ih2 _ _ _ _ _
      | exact memory_SetPage.mono _ _ _ _
      | exact vmfleetlaw4_shaped.mono _ _ _ _ _
      | exact vmfleetmake_Data.mono _ _ _
      | exact vmfleetref1_Page.mono _ _ _
      | exact vmfleetref1_SameWords.mono _ _ _
      | exact vmfleetref1_SetPage.mono _ _ _ _
      | exact LeO.none _
      | refine LeO.ite ?_ ?_
      | refine LeO.bind ?_ (fun _ => ?_)
    · intro y0 y1 y2
      unfold vmfleetlaw4_MemoryPages.j1
      repeat' first
      | (with_reducible exact ih0 _ _ _ _)
      | (with_reducible exact ih1 _ _ _)
      | (with_reducible exact ih2 _ _ _ _ _)
      | (with_reducible exact memory_SetPage.mono _ _ _ _)
      | (with_reducible exact vmfleetlaw4_shaped.mono _ _ _ _ _)
      | (with_reducible exact vmfleetmake_Data.mono _ _ _)
      | (with_reducible exact vmfleetref1_Page.mono _ _ _)
      | (with_reducible exact vmfleetref1_SameWords.mono _ _ _)
      | (with_reducible exact vmfleetref1_SetPage.mono _ _ _ _)
      | (with_reducible exact LeO.refl _)
      | (with_reducible exact LeO.none _)
      | (with_reducible refine LeO.ite ?_ ?_)
      | (with_reducible refine LeO.bind ?_ (fun _ => ?_))
      | exact ih0 _ _ _ _
      | exact ih1 _ _ _
      | exact ih2 _ _ _ _ _
      | exact memory_SetPage.mono _ _ _ _
      | exact vmfleetlaw4_shaped.mono _ _ _ _ _
      | exact vmfleetmake_Data.mono _ _ _
      | exact vmfleetref1_Page.mono _ _ _
      | exact vmfleetref1_SameWords.mono _ _ _
      | exact vmfleetref1_SetPage.mono _ _ _ _
      | exact LeO.none _
      | refine LeO.ite ?_ ?_
      | refine LeO.bind ?_ (fun _ => ?_)
    · intro y0 y1 y2 y3 y4
      unfold vmfleetlaw4_MemoryPages.j2
      repeat' first
      | (with_reducible exact ih0 _ _ _ _)
      | (with_reducible exact ih1 _ _ _)
      | (with_reducible exact ih2 _ _ _ _ _)
      | (with_reducible exact memory_SetPage.mono _ _ _ _)
      | (with_reducible exact vmfleetlaw4_shaped.mono _ _ _ _ _)
      | (with_reducible exact vmfleetmake_Data.mono _ _ _)
      | (with_reducible exact vmfleetref1_Page.mono _ _ _)
      | (with_reducible exact vmfleetref1_SameWords.mono _ _ _)
      | (with_reducible exact vmfleetref1_SetPage.mono _ _ _ _)
      | (with_reducible exact LeO.refl _)
      | (with_reducible exact LeO.none _)
      | (with_reducible refine LeO.ite ?_ ?_)
      | (with_reducible refine LeO.bind ?_ (fun _ => ?_))
      | exact ih0 _ _ _ _
      | exact ih1 _ _ _
      | exact ih2 _ _ _ _ _
      | exact memory_SetPage.mono _ _ _ _
      | exact vmfleetlaw4_shaped.mono _ _ _ _ _
      | exact vmfleetmake_Data.mono _ _ _
      | exact vmfleetref1_Page.mono _ _ _
      | exact vmfleetref1_SameWords.mono _ _ _
      | exact vmfleetref1_SetPage.mono _ _ _ _
      | exact LeO.none _
      | refine LeO.ite ?_ ?_
      | refine LeO.bind ?_ (fun _ => ?_)
theorem vmfleetlaw4_MemoryPages.mono : ∀ a0 a1 a2 a3 a4 a5 a6 k, LeO (vmfleetlaw4_MemoryPages.f k a0 a1 a2 a3 a4 a5 a6) (vmfleetlaw4_MemoryPages.f (k + 1) a0 a1 a2 a3 a4 a5 a6) := by
  intro a0 a1 a2 a3 a4 a5 a6 k
  obtain ⟨ih0, ih1, ih2⟩ := vmfleetlaw4_MemoryPages.mono_l k
  unfold vmfleetlaw4_MemoryPages.f
  repeat' first
      | (with_reducible exact ih0 _ _ _ _)
      | (with_reducible exact ih1 _ _ _)
      | (with_reducible exact ih2 _ _ _ _ _)
      | (with_reducible exact memory_SetPage.mono _ _ _ _)
      | (with_reducible exact vmfleetlaw4_shaped.mono _ _ _ _ _)
      | (with_reducible exact vmfleetmake_Data.mono _ _ _)
      | (with_reducible exact vmfleetref1_Page.mono _ _ _)
      | (with_reducible exact vmfleetref1_SameWords.mono _ _ _)
      | (with_reducible exact vmfleetref1_SetPage.mono _ _ _ _)
      | (with_reducible exact LeO.refl _)
      | (with_reducible exact LeO.none _)
      | (with_reducible refine LeO.ite ?_ ?_)
      | (with_reducible refine LeO.bind ?_ (fun _ => ?_))
      | exact ih0 _ _ _ _
      | exact ih1 _ _ _
      | exact ih2 _ _ _ _ _
      | exact memory_SetPage.mono _ _ _ _
      | exact vmfleetlaw4_shaped.mono _ _ _ _ _
      | exact vmfleetmake_Data.mono _ _ _
      | exact vmfleetref1_Page.mono _ _ _
      | exact vmfleetref1_SameWords.mono _ _ _
      | exact vmfleetref1_SetPage.mono _ _ _ _
      | exact LeO.none _
      | refine LeO.ite ?_ ?_
      | refine LeO.bind ?_ (fun _ => ?_)
set_option maxHeartbeats 8000000 in
set_option maxRecDepth 100000 in
theorem vmfleetlaw4_MemoryPages.calls (k : Nat) (A0 : Option Addr) (c0 : Nat) (l0 : List Int) (a1 : Bool) (A2 : Option Addr) (c2 : Nat) (l2 : List Int) (a3 : Int) (a4 : Int) (a5 : Int) (a6 : ByteArray) (r : Bool) (w : World) (hr0 : Kd.C (Kd.int .u32) w A0 l0.length l0) (hc0 : l0.length ≤ c0) (hr2 : Kd.C (Kd.int .i64) w A2 l2.length l2) (hc2 : l2.length ≤ c2) (h : vmfleetlaw4_MemoryPages.f k l0 a1 l2 a3 a4 a5 a6 = some r) :
    Calls Try.prog 6 #[.slice A0 l0.length c0, .bool a1, .slice A2 l2.length c2, .int .i64 a3, .int .i64 a4, .int .i64 a5, .string a6] w fun e w' => e = .returned (.bool r) ∧ Below w.heap.size w w' := by
  have HR0 := Aside0.mk hr0
  have HC0 := Aside0.mk hc0
  clear hr0 hc0
  have HR2 := Aside0.mk hr2
  have HC2 := Aside0.mk hc2
  clear hr2 hc2
  have HB := Aside0.mk (Below.refl w.heap.size w)
  have H : ((vmfleetlaw4_shaped.f k l0 a1 l2 a3).bind fun t182 => (if (Go.bits .and .i64 a5 1) = 1 then ((vmfleetmake_Data.f k a5 128).bind fun t185 => (vmfleetlaw4_MemoryPages.j0 k t182 a4 a5 t185)) else (vmfleetlaw4_MemoryPages.j0 k t182 a4 a5 a6))) = some r := h
  clear h
  replace H := Option.bind_eq_some_iff.mp H
  obtain ⟨t182, A80, H⟩ := H
  replace H : (if (Go.bits .and .i64 a5 1) = 1 then ((vmfleetmake_Data.f k a5 128).bind fun t185 => (vmfleetlaw4_MemoryPages.j0 k t182 a4 a5 t185)) else (vmfleetlaw4_MemoryPages.j0 k t182 a4 a5 a6)) = some r := H
  have A8 := Aside0.mk A80
  clear A80
  have HC9 := Aside0.mk H
  clear H
  go_enter Try.func6, Try.ntmps6
  go_upto_if 32 with (first | ((with_reducible refine gate_callee (f := 10) rfl ?_); refine goesL_ (some 29) rfl rfl Try.func10 (by kernel_rfl) rfl #[.slice A0 l0.length c0, .bool a1, .slice A2 l2.length c2, .int .i64 a3] rfl (by (try simp only [List.map_toArray, List.map_cons, List.map_nil]); first | done | rfl | (simp only [List.length_drop, List.length_take]; rfl)) ?_; (with_reducible refine (vmfleetlaw4_shaped.calls k (fun k_ => k_ < w.heap.size) _ _ l0 a1 _ _ l2 a3 t182 _ ?side1 ?side2 ?side3 A8.out).mono ?_); (case side1 => exact Kd.V_mk HC0.out (Kd.F_below (Kd.C_F (Kd.heap_int .u32) HR0.out) (by repeat (first | (with_reducible first | exact HB.out | apply below_alloc | apply pw_below_drewN | apply below_drew1) | exact HB.out)))); (case side2 => repeat (first | exact HR2.out | (with_reducible refine Kd.C_alloc ?_ _) | (with_reducible refine Kd.C_drewN ?_ _) | (with_reducible refine Kd.C_drew ?_))); (case side3 => exact HC2.out); rintro e w10 ⟨v183, rfl, ho0, hb⟩; refine ⟨_, rfl, ?_⟩; have n0_ := Aside0.mk (Kd.V_lower (Kd.V_mono (ok' := fun k_ => True) ho0 (fun k_ hk_ => trivial)) (below_size (by repeat (first | (with_reducible first | exact HB.out | apply below_alloc | apply pw_below_drewN | apply below_drew1) | exact HB.out)))); have n1_ := Aside0.mk (below_step (by repeat (first | (with_reducible first | exact HB.out | apply below_alloc | apply pw_below_drewN | apply below_drew1) | exact HB.out)) hb); clear HB; have HO184 := n0_; have HB := n1_; clear n0_ n1_; (try clear hb); (try clear hb2); (try clear hk); (try clear hi); (try clear ho0)))
  (try simp only [Act.put, List.setIfInBounds_toArray, List.set_cons_zero, List.set_cons_succ])
  go_cut [6] (fun v6 wc => ∃ (kq : Nat) (x6_8 : ByteArray), v6 = .string x6_8 ∧ Aside0 (vmfleetlaw4_MemoryPages.j0 kq t182 a4 a5 x6_8 = some r) ∧ Aside0 (kq ≤ k) ∧ Aside0 (Kd.V (Kd.int .u32) 24 wc w.heap.size (fun _ => True) v183 t182) ∧ Aside0 (Below w.heap.size w wc))
  case first =>
    have H := HC9.out
    clear HC9
    by_cases c11 : (Go.bits .and .i64 a5 1) = 1
    · rw [if_pos c11] at H
      have c11b0 : ((Go.bits .and .i64 a5 1) == 1) = true := beq_iff_eq.mpr c11
      have c11b1 : ((Go.bits .and .i64 a5 1) != 1) = false := bne_eq_false_iff_eq.mpr c11
      clear c11
      (first | rw [c11b0] | (simp only [i64_w, i32_w]; rw [c11b0]) | skip)
      replace H := Option.bind_eq_some_iff.mp H
      obtain ⟨t185, A120, H⟩ := H
      replace H : (vmfleetlaw4_MemoryPages.j0 k t182 a4 a5 t185) = some r := H
      have A12 := Aside0.mk A120
      clear A120
      have H' := Aside0.mk H
      clear H
      go_wp2_with (first | ((with_reducible refine gate_callee (f := 24) rfl ?_); refine goesL_ (some 34) rfl rfl Try.func24 (by kernel_rfl) rfl #[.int .i64 a5, .int .i64 128] rfl (by (try simp only [List.map_toArray, List.map_cons, List.map_nil]); first | done | rfl | (simp only [List.length_drop, List.length_take]; rfl)) ?_; (with_reducible refine (vmfleetmake_Data.calls k a5 128 t185 _ A12.out).mono ?_); rintro e w13 ⟨rfl, hb⟩; refine ⟨_, rfl, ?_⟩; have n0_ := Aside0.mk (Kd.V_below (by (with_reducible repeat (first | apply Kd.V_alloc | apply Kd.V_drewN | apply Kd.V_drew)); exact HO184.out) hb); have n1_ := Aside0.mk (below_step (by repeat (first | (with_reducible first | exact HB.out | apply below_alloc | apply pw_below_drewN | apply below_drew1) | exact HB.out)) hb); clear HO184; clear HB; have HO184 := n0_; have HB := n1_; clear n0_ n1_; (try clear hb); (try clear hb2); (try clear hk); (try clear hi)))
      go_meet
      case rel => exact ⟨_, (t185), (by first | rfl | (simp; done) | (simp [*]; done)), H', ⟨by first | omega | exact Nat.le_refl _⟩, ⟨by (with_reducible repeat (first | apply Kd.V_alloc | apply Kd.V_drewN | apply Kd.V_drew)); exact HO184.out⟩, ⟨by repeat (first | (with_reducible first | exact HB.out | apply below_alloc | apply pw_below_drewN | apply below_drew1) | exact HB.out)⟩⟩
    · rw [if_neg c11] at H
      have c11b0 : ((Go.bits .and .i64 a5 1) == 1) = false := beq_eq_false_iff_ne.mpr c11
      have c11b1 : ((Go.bits .and .i64 a5 1) != 1) = true := bne_iff_ne.mpr c11
      (first | rw [c11b0] | (simp only [i64_w, i32_w]; rw [c11b0]) | skip)
      have H' := Aside0.mk H
      clear H
      go_wp2
      go_meet
      case rel => exact ⟨_, (a6), (by first | rfl | (simp; done) | (simp [*]; done)), H', ⟨by first | omega | exact Nat.le_refl _⟩, ⟨by (with_reducible repeat (first | apply Kd.V_alloc | apply Kd.V_drewN | apply Kd.V_drew)); exact HO184.out⟩, ⟨by repeat (first | (with_reducible first | exact HB.out | apply below_alloc | apply pw_below_drewN | apply below_drew1) | exact HB.out)⟩⟩
  case rest =>
    clear HC9
    try clear c1
    try clear c2
    try clear p2
    try clear c6
    try clear c10
    try clear c11
    try clear c11b0
    try clear c11b1
    obtain ⟨kq, x6_8, rfl, HA, HJ8, HO_0, HB⟩ := hcut
    cases kq with
    | zero => exact absurd HA.out (by simp [vmfleetlaw4_MemoryPages.j0])
    | succ kj8 =>
      have H := HA.out
      clear HA
      simp only [vmfleetlaw4_MemoryPages.j0] at H
      by_cases c14 : (x6_8.size : Int) > 300
      · rw [if_pos c14] at H
        have c14b0 : decide (300 < (x6_8.size : Int)) = true := decide_eq_true c14
        have c14b1 : decide (300 < x6_8.size) = true := decide_eq_true (by omega)
        clear c14
        replace H := Option.bind_eq_some_iff.mp H
        obtain ⟨t186, A150, H⟩ := H
        replace H : (some t186) = some r := H
        have A15 := Aside0.mk A150
        clear A150
        obtain rfl := Option.some.inj H
        go_wp2_with (first | ((with_reducible refine gate_callee (f := 21) rfl ?_); refine goesL_ (some 38) rfl rfl Try.func21 (by kernel_rfl) rfl #[] rfl (by (try simp only [List.map_toArray, List.map_cons, List.map_nil]); first | done | rfl | (simp only [List.length_drop, List.length_take]; rfl)) ?_; (with_reducible refine (vmfleetlaw4_awake.calls  t186 _ A15.out).mono ?_); rintro e w16 ⟨rfl, hb⟩; refine ⟨_, rfl, ?_⟩; have n0_ := Aside0.mk (Kd.V_below (by (with_reducible repeat (first | apply Kd.V_alloc | apply Kd.V_drewN | apply Kd.V_drew)); exact HO_0.out) hb); have n1_ := Aside0.mk (below_step (by repeat (first | (with_reducible first | exact HB.out | apply below_alloc | apply pw_below_drewN | apply below_drew1) | exact HB.out)) hb); clear HO_0; clear HB; have HO_0 := n0_; have HB := n1_; clear n0_ n1_; (try clear hb); (try clear hb2); (try clear hk); (try clear hi)))
        go_ret
        exact ⟨by first | rfl | (simp [errW_none, errW_some] <;> rfl) | (simp [*, errW_none, errW_some] <;> rfl), by repeat (first | (with_reducible first | exact HB.out | apply below_alloc | apply pw_below_drewN | apply below_drew1) | exact HB.out)⟩
      · rw [if_neg c14] at H
        have c14b0 : decide (300 < (x6_8.size : Int)) = false := decide_eq_false c14
        have c14b1 : decide (300 < x6_8.size) = false := decide_eq_false (by omega)
        clear c14
        have HC17 := Aside0.mk H
        clear H
        go_upto_if 41 with (fail)
        go_cut [4] (fun v4 wc => ∃ (kq : Nat) (x4_16 : Int), v4 = .int .i64 x4_16 ∧ Aside0 (vmfleetlaw4_MemoryPages.j1 kq t182 x4_16 x6_8 = some r) ∧ Aside0 (kq ≤ kj8) ∧ Aside0 (Kd.V (Kd.int .u32) 24 wc w.heap.size (fun _ => True) v183 t182) ∧ Aside0 (Below w.heap.size w wc))
        case first =>
          have H := HC17.out
          clear HC17
          by_cases c18 : (Go.bits .and .i64 a5 2) = 2
          · rw [if_pos c18] at H
            have c18b0 : ((Go.bits .and .i64 a5 2) == 2) = true := beq_iff_eq.mpr c18
            have c18b1 : ((Go.bits .and .i64 a5 2) != 2) = false := bne_eq_false_iff_eq.mpr c18
            clear c18
            (first | rw [c18b0] | (simp only [i64_w, i32_w]; rw [c18b0]) | skip)
            replace H := Option.bind_eq_some_iff.mp H
            obtain ⟨t187, A190, H⟩ := H
            replace H : (vmfleetlaw4_MemoryPages.j1 kj8 t182 t187 x6_8) = some r := H
            have A19 := Aside0.mk A190
            clear A190
            have H' := Aside0.mk H
            clear H
            go_wp2_with (first | ((with_reducible refine gate_callee (f := 11) rfl ?_); refine goesL_ (some 43) rfl rfl Try.func11 (by kernel_rfl) rfl #[.int .i64 a4, .int .i64 7] rfl (by (try simp only [List.map_toArray, List.map_cons, List.map_nil]); first | done | rfl | (simp only [List.length_drop, List.length_take]; rfl)) ?_; (with_reducible refine (vmfleetmake_Round.calls a4 7 t187 _ A19.out).mono ?_); rintro e w' ⟨rfl, ⟨nd, rfl⟩⟩; refine ⟨_, rfl, ?_⟩))
            go_meet
            case rel => exact ⟨_, (t187), (by first | rfl | (simp; done) | (simp [*]; done)), H', ⟨by have := HJ8.out; first | omega | exact Nat.le_refl _⟩, ⟨by (with_reducible repeat (first | apply Kd.V_alloc | apply Kd.V_drewN | apply Kd.V_drew)); exact HO_0.out⟩, ⟨by repeat (first | (with_reducible first | exact HB.out | apply below_alloc | apply pw_below_drewN | apply below_drew1) | exact HB.out)⟩⟩
          · rw [if_neg c18] at H
            have c18b0 : ((Go.bits .and .i64 a5 2) == 2) = false := beq_eq_false_iff_ne.mpr c18
            have c18b1 : ((Go.bits .and .i64 a5 2) != 2) = true := bne_iff_ne.mpr c18
            (first | rw [c18b0] | (simp only [i64_w, i32_w]; rw [c18b0]) | skip)
            have H' := Aside0.mk H
            clear H
            go_wp2
            go_meet
            case rel => exact ⟨_, (a4), (by first | rfl | (simp; done) | (simp [*]; done)), H', ⟨by have := HJ8.out; first | omega | exact Nat.le_refl _⟩, ⟨by (with_reducible repeat (first | apply Kd.V_alloc | apply Kd.V_drewN | apply Kd.V_drew)); exact HO_0.out⟩, ⟨by repeat (first | (with_reducible first | exact HB.out | apply below_alloc | apply pw_below_drewN | apply below_drew1) | exact HB.out)⟩⟩
        case rest =>
          clear HC17
          try clear c1
          try clear c2
          try clear p2
          try clear c6
          try clear c10
          try clear c11
          try clear c11b0
          try clear c11b1
          try clear c14
          try clear c14b0
          try clear c14b1
          try clear c18
          try clear c18b0
          try clear c18b1
          try clear p2
          obtain ⟨kq, x4_16, rfl, HA, HJ16, HO_0, HB⟩ := hcut
          cases kq with
          | zero => exact absurd HA.out (by simp [vmfleetlaw4_MemoryPages.j1])
          | succ kj16 =>
            have H := HA.out
            clear HA
            simp only [vmfleetlaw4_MemoryPages.j1] at H
            replace H := Option.bind_eq_some_iff.mp H
            obtain ⟨⟨t188, t189⟩, A200, H⟩ := H
            replace H : ((vmfleetref1_Page.f kj16 t182 x4_16).bind fun bt190 => ((memory_SetPage.f kj16 t182 x4_16 x6_8).bind fun bt192 => ((vmfleetref1_SetPage.f kj16 t182 x4_16 x6_8).bind fun bt196 => (if t188.toList = bt190.1.toList then (if (t189 != bt190.2) = true then (vmfleetlaw4_MemoryPages.j2 kj16 x4_16 x6_8 bt192.1 bt192.2 true) else (if (bt192.2 != bt196.2) = true then (vmfleetlaw4_MemoryPages.j2 kj16 x4_16 x6_8 bt192.1 bt192.2 true) else ((vmfleetref1_SameWords.f kj16 bt192.1 bt196.1).bind fun t200 => (vmfleetlaw4_MemoryPages.j2 kj16 x4_16 x6_8 bt192.1 bt192.2 (!t200))))) else (vmfleetlaw4_MemoryPages.j2 kj16 x4_16 x6_8 bt192.1 bt192.2 true))))) = some r := H
            have A20 := Aside0.mk A200
            clear A200
            replace H := Option.bind_eq_some_iff.mp H
            obtain ⟨⟨t190, t191⟩, A210, H⟩ := H
            replace H : ((memory_SetPage.f kj16 t182 x4_16 x6_8).bind fun bt192 => ((vmfleetref1_SetPage.f kj16 t182 x4_16 x6_8).bind fun bt196 => (if t188.toList = t190.toList then (if (t189 != t191) = true then (vmfleetlaw4_MemoryPages.j2 kj16 x4_16 x6_8 bt192.1 bt192.2 true) else (if (bt192.2 != bt196.2) = true then (vmfleetlaw4_MemoryPages.j2 kj16 x4_16 x6_8 bt192.1 bt192.2 true) else ((vmfleetref1_SameWords.f kj16 bt192.1 bt196.1).bind fun t200 => (vmfleetlaw4_MemoryPages.j2 kj16 x4_16 x6_8 bt192.1 bt192.2 (!t200))))) else (vmfleetlaw4_MemoryPages.j2 kj16 x4_16 x6_8 bt192.1 bt192.2 true)))) = some r := H
            have A21 := Aside0.mk A210
            clear A210
            replace H := Option.bind_eq_some_iff.mp H
            obtain ⟨⟨t192, t193⟩, A220, H⟩ := H
            replace H : ((vmfleetref1_SetPage.f kj16 t182 x4_16 x6_8).bind fun bt196 => (if t188.toList = t190.toList then (if (t189 != t191) = true then (vmfleetlaw4_MemoryPages.j2 kj16 x4_16 x6_8 t192 t193 true) else (if (t193 != bt196.2) = true then (vmfleetlaw4_MemoryPages.j2 kj16 x4_16 x6_8 t192 t193 true) else ((vmfleetref1_SameWords.f kj16 t192 bt196.1).bind fun t200 => (vmfleetlaw4_MemoryPages.j2 kj16 x4_16 x6_8 t192 t193 (!t200))))) else (vmfleetlaw4_MemoryPages.j2 kj16 x4_16 x6_8 t192 t193 true))) = some r := H
            have A22 := Aside0.mk A220
            clear A220
            replace H := Option.bind_eq_some_iff.mp H
            obtain ⟨⟨t196, t197⟩, A230, H⟩ := H
            replace H : (if t188.toList = t190.toList then (if (t189 != t191) = true then (vmfleetlaw4_MemoryPages.j2 kj16 x4_16 x6_8 t192 t193 true) else (if (t193 != t197) = true then (vmfleetlaw4_MemoryPages.j2 kj16 x4_16 x6_8 t192 t193 true) else ((vmfleetref1_SameWords.f kj16 t192 t196).bind fun t200 => (vmfleetlaw4_MemoryPages.j2 kj16 x4_16 x6_8 t192 t193 (!t200))))) else (vmfleetlaw4_MemoryPages.j2 kj16 x4_16 x6_8 t192 t193 true)) = some r := H
            have A23 := Aside0.mk A230
            clear A230
            have HC24 := Aside0.mk H
            clear H
            obtain ⟨Ao25, co25, eo25⟩ := Kd.V_slice HO_0.out
            subst eo25
            go_upto_region 12 with (first | ((with_reducible refine gate_callee (f := 23) rfl ?_); refine goesL_ (some 47) rfl rfl Try.func23 (by kernel_rfl) rfl #[.slice Ao25 t182.length co25, .int .i64 x4_16] rfl (by (try simp only [List.map_toArray, List.map_cons, List.map_nil]); first | done | rfl | (simp only [List.length_drop, List.length_take]; rfl)) ?_; (with_reducible refine (memory_Page.calls _ _ t182 x4_16 t188 t189 _ ?side1 ?side2 A20.out).mono ?_); (case side1 => repeat (first | exact (Kd.V_reads' HO_0.out).2.2 | (with_reducible refine Kd.C_alloc ?_ _) | (with_reducible refine Kd.C_drewN ?_ _) | (with_reducible refine Kd.C_drew ?_))); (case side2 => exact (Kd.V_reads' HO_0.out).2.1); rintro e w26 ⟨rfl, hb⟩; refine ⟨_, rfl, ?_⟩; have n0_ := Aside0.mk (Kd.V_below (by (with_reducible repeat (first | apply Kd.V_alloc | apply Kd.V_drewN | apply Kd.V_drew)); exact HO_0.out) hb); have n1_ := Aside0.mk (below_step (by repeat (first | (with_reducible first | exact HB.out | apply below_alloc | apply pw_below_drewN | apply below_drew1) | exact HB.out)) hb); clear HO_0; clear HB; have HO_0 := n0_; have HB := n1_; clear n0_ n1_; (try clear hb); (try clear hb2); (try clear hk); (try clear hi)) | ((with_reducible refine gate_callee (f := 25) rfl ?_); refine goesL_ (some 53) rfl rfl Try.func25 (by kernel_rfl) rfl #[.slice Ao25 t182.length co25, .int .i64 x4_16] rfl (by (try simp only [List.map_toArray, List.map_cons, List.map_nil]); first | done | rfl | (simp only [List.length_drop, List.length_take]; rfl)) ?_; (with_reducible refine (vmfleetref1_Page.calls kj16 _ _ t182 x4_16 t190 t191 _ ?side1 ?side2 A21.out).mono ?_); (case side1 => repeat (first | exact (Kd.V_reads' HO_0.out).2.2 | (with_reducible refine Kd.C_alloc ?_ _) | (with_reducible refine Kd.C_drewN ?_ _) | (with_reducible refine Kd.C_drew ?_))); (case side2 => exact (Kd.V_reads' HO_0.out).2.1); rintro e w27 ⟨rfl, hb⟩; refine ⟨_, rfl, ?_⟩; have n0_ := Aside0.mk (Kd.V_below (by (with_reducible repeat (first | apply Kd.V_alloc | apply Kd.V_drewN | apply Kd.V_drew)); exact HO_0.out) hb); have n1_ := Aside0.mk (below_step (by repeat (first | (with_reducible first | exact HB.out | apply below_alloc | apply pw_below_drewN | apply below_drew1) | exact HB.out)) hb); clear HO_0; clear HB; have HO_0 := n0_; have HB := n1_; clear n0_ n1_; (try clear hb); (try clear hb2); (try clear hk); (try clear hi)) | ((with_reducible refine gate_callee (f := 26) rfl ?_); refine goesL_ (some 60) rfl rfl Try.func26 (by kernel_rfl) rfl #[.slice Ao25 t182.length co25, .int .i64 x4_16, .string x6_8] rfl (by (try simp only [List.map_toArray, List.map_cons, List.map_nil]); first | done | rfl | (simp only [List.length_drop, List.length_take]; rfl)) ?_; (with_reducible refine (memory_SetPage.calls kj16 _ _ t182 x4_16 x6_8 t192 t193 _ ?side1 ?side2 A22.out).mono ?_); (case side1 => repeat (first | exact (Kd.V_reads' HO_0.out).2.2 | (with_reducible refine Kd.C_alloc ?_ _) | (with_reducible refine Kd.C_drewN ?_ _) | (with_reducible refine Kd.C_drew ?_))); (case side2 => exact (Kd.V_reads' HO_0.out).2.1); rintro e w28 ⟨v194, rfl, ho0, hb⟩; refine ⟨_, rfl, ?_⟩; have n0_ := Aside0.mk (Kd.V_elder' (by (with_reducible repeat (first | apply Kd.V_alloc | apply Kd.V_drewN | apply Kd.V_drew)); exact HO_0.out) (Kd.R_base ho0) hb); have n1_ := Aside0.mk (Kd.R_lower ho0 (below_size (by repeat (first | (with_reducible first | exact HB.out | apply below_alloc | apply pw_below_drewN | apply below_drew1) | exact HB.out)))); have n2_ := Aside0.mk (below_step (by repeat (first | (with_reducible first | exact HB.out | apply below_alloc | apply pw_below_drewN | apply below_drew1) | exact HB.out)) hb); clear HO_0; clear HB; have HO_0 := n0_; have HO195 := n1_; have HB := n2_; clear n0_ n1_ n2_; (try clear hb); (try clear hb2); (try clear hk); (try clear hi); (try clear ho0)) | ((with_reducible refine gate_callee (f := 27) rfl ?_); refine goesL_ (some 67) rfl rfl Try.func27 (by kernel_rfl) rfl #[.slice Ao25 t182.length co25, .int .i64 x4_16, .string x6_8] rfl (by (try simp only [List.map_toArray, List.map_cons, List.map_nil]); first | done | rfl | (simp only [List.length_drop, List.length_take]; rfl)) ?_; (with_reducible refine (vmfleetref1_SetPage.calls kj16 _ _ t182 x4_16 x6_8 t196 t197 _ ?side1 ?side2 A23.out).mono ?_); (case side1 => repeat (first | exact (Kd.V_reads' HO_0.out).2.2 | (with_reducible refine Kd.C_alloc ?_ _) | (with_reducible refine Kd.C_drewN ?_ _) | (with_reducible refine Kd.C_drew ?_))); (case side2 => exact (Kd.V_reads' HO_0.out).2.1); rintro e w29 ⟨v198, rfl, ho0, hb⟩; refine ⟨_, rfl, ?_⟩; have n0_ := Aside0.mk (Kd.V_elder' (by (with_reducible repeat (first | apply Kd.V_alloc | apply Kd.V_drewN | apply Kd.V_drew)); exact HO_0.out) (Kd.R_base ho0) hb); have n1_ := Aside0.mk (Kd.R_elder' (by (with_reducible repeat (first | apply Kd.R_alloc | apply Kd.R_drewN | apply Kd.R_drew)); exact HO195.out) (Kd.R_base ho0) hb); have n2_ := Aside0.mk (Kd.R_lower (Kd.R_new' ho0 (Kd.R_lt (by (with_reducible repeat (first | apply Kd.R_alloc | apply Kd.R_drewN | apply Kd.R_drew)); exact HO195.out))) (below_size (by repeat (first | (with_reducible first | exact HB.out | apply below_alloc | apply pw_below_drewN | apply below_drew1) | exact HB.out)))); have n3_ := Aside0.mk (below_step (by repeat (first | (with_reducible first | exact HB.out | apply below_alloc | apply pw_below_drewN | apply below_drew1) | exact HB.out)) hb); clear HO_0; clear HO195; clear HB; have HO_0 := n0_; have HO195 := n1_; have HO199 := n2_; have HB := n3_; clear n0_ n1_ n2_ n3_; (try clear hb); (try clear hb2); (try clear hk); (try clear hi); (try clear ho0)))
            (try simp only [Act.put, List.setIfInBounds_toArray, List.set_cons_zero, List.set_cons_succ])
            go_cut [88] (fun v88 wc => ∃ (kq : Nat) (x88_23 : Bool), v88 = .bool x88_23 ∧ Aside0 (vmfleetlaw4_MemoryPages.j2 kq x4_16 x6_8 t192 t193 x88_23 = some r) ∧ Aside0 (kq ≤ kj16) ∧ Aside0 (Kd.R (Kd.int .u32) 24 wc w.heap.size (fun _ => True) v194 t192) ∧ Aside0 (Below w.heap.size w wc))
            case first =>
              have H := HC24.out
              clear HC24
              by_cases c30 : t188.toList = t190.toList
              · rw [if_pos c30] at H
                have c30b0 : (t188.toList == t190.toList) = true := beq_iff_eq.mpr c30
                have c30b1 : (t188.toList != t190.toList) = false := bne_eq_false_iff_eq.mpr c30
                clear c30
                (first | rw [c30b0] | (simp only [i64_w, i32_w]; rw [c30b0]) | skip)
                by_cases c31 : (t189 != t191) = true
                · rw [if_pos c31] at H
                  have c31b0 : (t189 != t191) = true := c31
                  (try (have c31b1 : decide (t189 = t191) = false := by simpa using c31))
                  (try (have c31b2 : (t189 == t191) = false := by simpa using c31))
                  (try (have c31b3 : ¬ (t189 = t191) := by simpa using c31))
                  clear c31
                  have H' := Aside0.mk H
                  clear H
                  go_wp2
                  go_meet
                  case rel => exact ⟨_, (true), (by first | rfl | (simp; done) | (simp [*]; done)), H', ⟨by have := HJ8.out; have := HJ16.out; first | omega | exact Nat.le_refl _⟩, ⟨by (with_reducible repeat (first | apply Kd.R_alloc | apply Kd.R_drewN | apply Kd.R_drew)); exact Kd.R_mono HO195.out (fun _ hk => trivial)⟩, ⟨by repeat (first | (with_reducible first | exact HB.out | apply below_alloc | apply pw_below_drewN | apply below_drew1) | exact HB.out)⟩⟩
                · rw [if_neg c31] at H
                  have c31b0 : (t189 != t191) = false := by simpa using c31
                  (try (have c31b1 : decide (t189 = t191) = true := by simpa using c31))
                  (try (have c31b2 : (t189 == t191) = true := by simpa using c31))
                  clear c31
                  by_cases c32 : (t193 != t197) = true
                  · rw [if_pos c32] at H
                    have c32b0 : (t193 != t197) = true := c32
                    (try (have c32b1 : decide (t193 = t197) = false := by simpa using c32))
                    (try (have c32b2 : (t193 == t197) = false := by simpa using c32))
                    (try (have c32b3 : ¬ (t193 = t197) := by simpa using c32))
                    clear c32
                    have H' := Aside0.mk H
                    clear H
                    go_wp2
                    go_meet
                    case rel => exact ⟨_, (true), (by first | rfl | (simp; done) | (simp [*]; done)), H', ⟨by have := HJ8.out; have := HJ16.out; first | omega | exact Nat.le_refl _⟩, ⟨by (with_reducible repeat (first | apply Kd.R_alloc | apply Kd.R_drewN | apply Kd.R_drew)); exact Kd.R_mono HO195.out (fun _ hk => trivial)⟩, ⟨by repeat (first | (with_reducible first | exact HB.out | apply below_alloc | apply pw_below_drewN | apply below_drew1) | exact HB.out)⟩⟩
                  · rw [if_neg c32] at H
                    have c32b0 : (t193 != t197) = false := by simpa using c32
                    (try (have c32b1 : decide (t193 = t197) = true := by simpa using c32))
                    (try (have c32b2 : (t193 == t197) = true := by simpa using c32))
                    clear c32
                    replace H := Option.bind_eq_some_iff.mp H
                    obtain ⟨t200, A330, H⟩ := H
                    replace H : (vmfleetlaw4_MemoryPages.j2 kj16 x4_16 x6_8 t192 t193 (!t200)) = some r := H
                    have A33 := Aside0.mk A330
                    clear A330
                    have H' := Aside0.mk H
                    clear H
                    obtain ⟨Ao34, co34, eo34⟩ := Kd.R_slice HO195.out
                    subst eo34
                    obtain ⟨Ao35, co35, eo35⟩ := Kd.R_slice HO199.out
                    subst eo35
                    go_wp2_with (first | (go_at_call 16; (with_reducible refine (vmfleetref1_SameWords.calls kj16 _ _ t192 _ _ t196 t200 _ ?side1 ?side2 ?side3 ?side4 A33.out).mono ?_); (case side1 => repeat (first | exact (Kd.R_reads' HO195.out).2.2 | (with_reducible refine Kd.C_alloc ?_ _) | (with_reducible refine Kd.C_drewN ?_ _) | (with_reducible refine Kd.C_drew ?_))); (case side2 => exact (Kd.R_reads' HO195.out).2.1); (case side3 => repeat (first | exact (Kd.R_reads' HO199.out).2.2 | (with_reducible refine Kd.C_alloc ?_ _) | (with_reducible refine Kd.C_drewN ?_ _) | (with_reducible refine Kd.C_drew ?_))); (case side4 => exact (Kd.R_reads' HO199.out).2.1); rintro e w' ⟨rfl, ⟨nd, rfl⟩⟩))
                    go_meet
                    case rel => exact ⟨_, (!t200), (by first | rfl | (simp; done) | (simp [*]; done)), H', ⟨by have := HJ8.out; have := HJ16.out; first | omega | exact Nat.le_refl _⟩, ⟨by (with_reducible repeat (first | apply Kd.R_alloc | apply Kd.R_drewN | apply Kd.R_drew)); exact Kd.R_mono HO195.out (fun _ hk => trivial)⟩, ⟨by repeat (first | (with_reducible first | exact HB.out | apply below_alloc | apply pw_below_drewN | apply below_drew1) | exact HB.out)⟩⟩
              · rw [if_neg c30] at H
                have c30b0 : (t188.toList == t190.toList) = false := beq_eq_false_iff_ne.mpr c30
                have c30b1 : (t188.toList != t190.toList) = true := bne_iff_ne.mpr c30
                (first | rw [c30b0] | (simp only [i64_w, i32_w]; rw [c30b0]) | skip)
                have H' := Aside0.mk H
                clear H
                go_wp2
                go_meet
                case rel => exact ⟨_, (true), (by first | rfl | (simp; done) | (simp [*]; done)), H', ⟨by have := HJ8.out; have := HJ16.out; first | omega | exact Nat.le_refl _⟩, ⟨by (with_reducible repeat (first | apply Kd.R_alloc | apply Kd.R_drewN | apply Kd.R_drew)); exact Kd.R_mono HO195.out (fun _ hk => trivial)⟩, ⟨by repeat (first | (with_reducible first | exact HB.out | apply below_alloc | apply pw_below_drewN | apply below_drew1) | exact HB.out)⟩⟩
            case rest =>
              clear HC24
              try clear c1
              try clear c2
              try clear p2
              try clear c3
              try clear c6
              try clear c10
              try clear c11
              try clear c11b0
              try clear c11b1
              try clear c14
              try clear c14b0
              try clear c14b1
              try clear c18
              try clear c18b0
              try clear c18b1
              try clear c21
              try clear c23
              try clear c24
              try clear c25
              try clear c26
              try clear c27
              try clear c30
              try clear c30b0
              try clear c30b1
              try clear c31
              try clear c31b0
              try clear c31b1
              try clear c31b2
              try clear c32
              try clear c32b0
              try clear c32b1
              try clear c32b2
              try clear p2
              obtain ⟨kq, x88_23, rfl, HA, HJ23, HO_19, HB⟩ := hcut
              cases kq with
              | zero => exact absurd HA.out (by simp [vmfleetlaw4_MemoryPages.j2])
              | succ kj23 =>
                have H := HA.out
                clear HA
                simp only [vmfleetlaw4_MemoryPages.j2] at H
                by_cases c36 : x88_23 = true
                · subst c36
                  have H1 : (some false) = some r := by rw [if_pos rfl] at H; exact H
                  clear H
                  have H := H1
                  clear H1
                  obtain rfl := Option.some.inj H
                  go_wp2
                  go_ret
                  exact ⟨by first | rfl | (simp [errW_none, errW_some] <;> rfl) | (simp [*, errW_none, errW_some] <;> rfl), by repeat (first | (with_reducible first | exact HB.out | apply below_alloc | apply pw_below_drewN | apply below_drew1) | exact HB.out)⟩
                · replace c36 := Bool.eq_false_iff.mpr c36
                  subst c36
                  have H1 : ((memory_Page.f t192 x4_16).bind fun bt201 => (if t193 = true then (if bt201.2 = true then (if bt201.1.toList = x6_8.toList then ((vmfleetlaw4_awake.f).bind fun t203 => (some t203)) else (some false)) else (some false)) else ((vmfleetlaw4_awake.f).bind fun t204 => (some t204)))) = some r := by rw [if_neg (show ¬ (false = true) by decide)] at H; exact H
                  clear H
                  have H := H1
                  clear H1
                  replace H := Option.bind_eq_some_iff.mp H
                  obtain ⟨⟨t201, t202⟩, A370, H⟩ := H
                  replace H : (if t193 = true then (if t202 = true then (if t201.toList = x6_8.toList then ((vmfleetlaw4_awake.f).bind fun t203 => (some t203)) else (some false)) else (some false)) else ((vmfleetlaw4_awake.f).bind fun t204 => (some t204))) = some r := H
                  have A37 := Aside0.mk A370
                  clear A370
                  by_cases c38 : t193 = true
                  · subst c38
                    have H1 : (if t202 = true then (if t201.toList = x6_8.toList then ((vmfleetlaw4_awake.f).bind fun t203 => (some t203)) else (some false)) else (some false)) = some r := by rw [if_pos rfl] at H; exact H
                    clear H
                    have H := H1
                    clear H1
                    by_cases c39 : t202 = true
                    · subst c39
                      have H1 : (if t201.toList = x6_8.toList then ((vmfleetlaw4_awake.f).bind fun t203 => (some t203)) else (some false)) = some r := by rw [if_pos rfl] at H; exact H
                      clear H
                      have H := H1
                      clear H1
                      by_cases c40 : t201.toList = x6_8.toList
                      · rw [if_pos c40] at H
                        have c40b0 : (t201.toList == x6_8.toList) = true := beq_iff_eq.mpr c40
                        have c40b1 : (t201.toList != x6_8.toList) = false := bne_eq_false_iff_eq.mpr c40
                        clear c40
                        replace H := Option.bind_eq_some_iff.mp H
                        obtain ⟨t203, A410, H⟩ := H
                        replace H : (some t203) = some r := H
                        have A41 := Aside0.mk A410
                        clear A410
                        obtain rfl := Option.some.inj H
                        obtain ⟨Ao42, co42, eo42⟩ := Kd.R_slice HO_19.out
                        subst eo42
                        go_wp2_with (first | ((with_reducible refine gate_callee (f := 23) rfl ?_); refine goesL_ (some 92) rfl rfl Try.func23 (by kernel_rfl) rfl #[.slice Ao42 t192.length co42, .int .i64 x4_16] rfl (by (try simp only [List.map_toArray, List.map_cons, List.map_nil]); first | done | rfl | (simp only [List.length_drop, List.length_take]; rfl)) ?_; (with_reducible refine (memory_Page.calls _ _ t192 x4_16 t201 true _ ?side1 ?side2 A37.out).mono ?_); (case side1 => repeat (first | exact (Kd.R_reads' HO_19.out).2.2 | (with_reducible refine Kd.C_alloc ?_ _) | (with_reducible refine Kd.C_drewN ?_ _) | (with_reducible refine Kd.C_drew ?_))); (case side2 => exact (Kd.R_reads' HO_19.out).2.1); rintro e w43 ⟨rfl, hb⟩; refine ⟨_, rfl, ?_⟩; have n0_ := Aside0.mk (Kd.R_below (by (with_reducible repeat (first | apply Kd.R_alloc | apply Kd.R_drewN | apply Kd.R_drew)); exact HO_19.out) hb); have n1_ := Aside0.mk (below_step (by repeat (first | (with_reducible first | exact HB.out | apply below_alloc | apply pw_below_drewN | apply below_drew1) | exact HB.out)) hb); clear HO_19; clear HB; have HO_19 := n0_; have HB := n1_; clear n0_ n1_; (try clear hb); (try clear hb2); (try clear hk); (try clear hi)) | (go_at_call 21; (with_reducible refine (vmfleetlaw4_awake.calls  t203 _ A41.out).mono ?_); rintro e w44 ⟨rfl, hb⟩; have n0_ := Aside0.mk (Kd.R_below (by (with_reducible repeat (first | apply Kd.R_alloc | apply Kd.R_drewN | apply Kd.R_drew)); exact HO_19.out) hb); have n1_ := Aside0.mk (below_step (by repeat (first | (with_reducible first | exact HB.out | apply below_alloc | apply pw_below_drewN | apply below_drew1) | exact HB.out)) hb); clear HO_19; clear HB; have HO_19 := n0_; have HB := n1_; clear n0_ n1_; (try clear hb); (try clear hb2); (try clear hk); (try clear hi)))
                        go_ret
                        exact ⟨by first | rfl | (simp [errW_none, errW_some] <;> rfl) | (simp [*, errW_none, errW_some] <;> rfl), by repeat (first | (with_reducible first | exact HB.out | apply below_alloc | apply pw_below_drewN | apply below_drew1) | exact HB.out)⟩
                      · rw [if_neg c40] at H
                        have c40b0 : (t201.toList == x6_8.toList) = false := beq_eq_false_iff_ne.mpr c40
                        have c40b1 : (t201.toList != x6_8.toList) = true := bne_iff_ne.mpr c40
                        obtain rfl := Option.some.inj H
                        obtain ⟨Ao45, co45, eo45⟩ := Kd.R_slice HO_19.out
                        subst eo45
                        go_wp2_with (first | ((with_reducible refine gate_callee (f := 23) rfl ?_); refine goesL_ (some 92) rfl rfl Try.func23 (by kernel_rfl) rfl #[.slice Ao45 t192.length co45, .int .i64 x4_16] rfl (by (try simp only [List.map_toArray, List.map_cons, List.map_nil]); first | done | rfl | (simp only [List.length_drop, List.length_take]; rfl)) ?_; (with_reducible refine (memory_Page.calls _ _ t192 x4_16 t201 true _ ?side1 ?side2 A37.out).mono ?_); (case side1 => repeat (first | exact (Kd.R_reads' HO_19.out).2.2 | (with_reducible refine Kd.C_alloc ?_ _) | (with_reducible refine Kd.C_drewN ?_ _) | (with_reducible refine Kd.C_drew ?_))); (case side2 => exact (Kd.R_reads' HO_19.out).2.1); rintro e w46 ⟨rfl, hb⟩; refine ⟨_, rfl, ?_⟩; have n0_ := Aside0.mk (Kd.R_below (by (with_reducible repeat (first | apply Kd.R_alloc | apply Kd.R_drewN | apply Kd.R_drew)); exact HO_19.out) hb); have n1_ := Aside0.mk (below_step (by repeat (first | (with_reducible first | exact HB.out | apply below_alloc | apply pw_below_drewN | apply below_drew1) | exact HB.out)) hb); clear HO_19; clear HB; have HO_19 := n0_; have HB := n1_; clear n0_ n1_; (try clear hb); (try clear hb2); (try clear hk); (try clear hi)))
                        go_ret
                        exact ⟨by first | rfl | (simp [errW_none, errW_some] <;> rfl) | (simp [*, errW_none, errW_some] <;> rfl), by repeat (first | (with_reducible first | exact HB.out | apply below_alloc | apply pw_below_drewN | apply below_drew1) | exact HB.out)⟩
                    · replace c39 := Bool.eq_false_iff.mpr c39
                      subst c39
                      have H1 : (some false) = some r := by rw [if_neg (show ¬ (false = true) by decide)] at H; exact H
                      clear H
                      have H := H1
                      clear H1
                      obtain rfl := Option.some.inj H
                      obtain ⟨Ao47, co47, eo47⟩ := Kd.R_slice HO_19.out
                      subst eo47
                      go_wp2_with (first | ((with_reducible refine gate_callee (f := 23) rfl ?_); refine goesL_ (some 92) rfl rfl Try.func23 (by kernel_rfl) rfl #[.slice Ao47 t192.length co47, .int .i64 x4_16] rfl (by (try simp only [List.map_toArray, List.map_cons, List.map_nil]); first | done | rfl | (simp only [List.length_drop, List.length_take]; rfl)) ?_; (with_reducible refine (memory_Page.calls _ _ t192 x4_16 t201 false _ ?side1 ?side2 A37.out).mono ?_); (case side1 => repeat (first | exact (Kd.R_reads' HO_19.out).2.2 | (with_reducible refine Kd.C_alloc ?_ _) | (with_reducible refine Kd.C_drewN ?_ _) | (with_reducible refine Kd.C_drew ?_))); (case side2 => exact (Kd.R_reads' HO_19.out).2.1); rintro e w48 ⟨rfl, hb⟩; refine ⟨_, rfl, ?_⟩; have n0_ := Aside0.mk (Kd.R_below (by (with_reducible repeat (first | apply Kd.R_alloc | apply Kd.R_drewN | apply Kd.R_drew)); exact HO_19.out) hb); have n1_ := Aside0.mk (below_step (by repeat (first | (with_reducible first | exact HB.out | apply below_alloc | apply pw_below_drewN | apply below_drew1) | exact HB.out)) hb); clear HO_19; clear HB; have HO_19 := n0_; have HB := n1_; clear n0_ n1_; (try clear hb); (try clear hb2); (try clear hk); (try clear hi)))
                      go_ret
                      exact ⟨by first | rfl | (simp [errW_none, errW_some] <;> rfl) | (simp [*, errW_none, errW_some] <;> rfl), by repeat (first | (with_reducible first | exact HB.out | apply below_alloc | apply pw_below_drewN | apply below_drew1) | exact HB.out)⟩
                  · replace c38 := Bool.eq_false_iff.mpr c38
                    subst c38
                    have H1 : ((vmfleetlaw4_awake.f).bind fun t204 => (some t204)) = some r := by rw [if_neg (show ¬ (false = true) by decide)] at H; exact H
                    clear H
                    have H := H1
                    clear H1
                    replace H := Option.bind_eq_some_iff.mp H
                    obtain ⟨t204, A490, H⟩ := H
                    replace H : (some t204) = some r := H
                    have A49 := Aside0.mk A490
                    clear A490
                    obtain rfl := Option.some.inj H
                    obtain ⟨Ao50, co50, eo50⟩ := Kd.R_slice HO_19.out
                    subst eo50
                    go_wp2_with (first | ((with_reducible refine gate_callee (f := 23) rfl ?_); refine goesL_ (some 92) rfl rfl Try.func23 (by kernel_rfl) rfl #[.slice Ao50 t192.length co50, .int .i64 x4_16] rfl (by (try simp only [List.map_toArray, List.map_cons, List.map_nil]); first | done | rfl | (simp only [List.length_drop, List.length_take]; rfl)) ?_; (with_reducible refine (memory_Page.calls _ _ t192 x4_16 t201 t202 _ ?side1 ?side2 A37.out).mono ?_); (case side1 => repeat (first | exact (Kd.R_reads' HO_19.out).2.2 | (with_reducible refine Kd.C_alloc ?_ _) | (with_reducible refine Kd.C_drewN ?_ _) | (with_reducible refine Kd.C_drew ?_))); (case side2 => exact (Kd.R_reads' HO_19.out).2.1); rintro e w51 ⟨rfl, hb⟩; refine ⟨_, rfl, ?_⟩; have n0_ := Aside0.mk (Kd.R_below (by (with_reducible repeat (first | apply Kd.R_alloc | apply Kd.R_drewN | apply Kd.R_drew)); exact HO_19.out) hb); have n1_ := Aside0.mk (below_step (by repeat (first | (with_reducible first | exact HB.out | apply below_alloc | apply pw_below_drewN | apply below_drew1) | exact HB.out)) hb); clear HO_19; clear HB; have HO_19 := n0_; have HB := n1_; clear n0_ n1_; (try clear hb); (try clear hb2); (try clear hk); (try clear hi)) | (go_at_call 21; (with_reducible refine (vmfleetlaw4_awake.calls  t204 _ A49.out).mono ?_); rintro e w52 ⟨rfl, hb⟩; have n0_ := Aside0.mk (Kd.R_below (by (with_reducible repeat (first | apply Kd.R_alloc | apply Kd.R_drewN | apply Kd.R_drew)); exact HO_19.out) hb); have n1_ := Aside0.mk (below_step (by repeat (first | (with_reducible first | exact HB.out | apply below_alloc | apply pw_below_drewN | apply below_drew1) | exact HB.out)) hb); clear HO_19; clear HB; have HO_19 := n0_; have HB := n1_; clear n0_ n1_; (try clear hb); (try clear hb2); (try clear hk); (try clear hi)))
                    go_ret
                    exact ⟨by first | rfl | (simp [errW_none, errW_some] <;> rfl) | (simp [*, errW_none, errW_some] <;> rfl), by repeat (first | (with_reducible first | exact HB.out | apply below_alloc | apply pw_below_drewN | apply below_drew1) | exact HB.out)⟩

/-- THE ONE PURE STATEMENT of vmfleetlaw4_MemoryPages: yours. -/
def vmfleetlaw4_MemoryPages.Pure : Prop := ∀ (l0 : List Int) (a1 : Bool) (l2 : List Int) (a3 : Int) (a4 : Int) (a5 : Int) (a6 : ByteArray), l0.length ≤ maxLen → l0.length * 4 ≤ 140737488351232 → (∀ x ∈ l0, (Lit.int .u32 x).wf = true) → l2.length ≤ maxLen → l2.length * 8 ≤ 140737488351232 → (∀ x ∈ l2, (Lit.int .i64 x).wf = true) → (Lit.int .i64 a3).wf = true → (Lit.int .i64 a4).wf = true → (Lit.int .i64 a5).wf = true → a6.size ≤ 140737488351232 → ∃ k, vmfleetlaw4_MemoryPages.f k l0 a1 l2 a3 a4 a5 a6 = some true
theorem vmfleetlaw4_MemoryPages.walk (P : vmfleetlaw4_MemoryPages.Pure) (a0 : Option Addr) (len0 cap0 : Nat) (z0 : List Int) (a1 : Bool) (a2 : Option Addr) (len2 cap2 : Nat) (z2 : List Int) (a3 : Int) (a4 : Int) (a5 : Int) (a6 : ByteArray) (w : World) (w0 : (a0 = none ∧ len0 = 0 ∧ cap0 = 0 ∧ z0 = []) ∨ ∃ x, a0 = some x ∧ len0 ≤ cap0 ∧ cap0 ≤ maxLen ∧ z0.length = cap0 ∧ (∀ i, i < z0.length → w.cell? (x.add i) = some (.int .u32 (z0.getD i 0))) ∧ ∀ n ∈ z0, (Lit.int .u32 n).wf = true) (y0 : len0 * 4 ≤ 140737488351232) (w2 : (a2 = none ∧ len2 = 0 ∧ cap2 = 0 ∧ z2 = []) ∨ ∃ x, a2 = some x ∧ len2 ≤ cap2 ∧ cap2 ≤ maxLen ∧ z2.length = cap2 ∧ (∀ i, i < z2.length → w.cell? (x.add i) = some (.int .i64 (z2.getD i 0))) ∧ ∀ n ∈ z2, (Lit.int .i64 n).wf = true) (y2 : len2 * 8 ≤ 140737488351232) (w3 : (Lit.int .i64 a3).wf = true) (w4 : (Lit.int .i64 a4).wf = true) (w5 : (Lit.int .i64 a5).wf = true) (w6 : a6.size ≤ 140737488351232) :
    Calls Try.prog 6 #[.slice a0 len0 cap0, .bool a1, .slice a2 len2 cap2, .int .i64 a3, .int .i64 a4, .int .i64 a5, .string a6] w fun e w' => e = .returned (.bool true) ∧ Below w.heap.size w w' := by
  obtain ⟨l0, rfl, hr0, hm0, hw0, hc0⟩ := ReadsInt.ofRowC w0
  obtain ⟨l2, rfl, hr2, hm2, hw2, hc2⟩ := ReadsInt.ofRowC w2
  obtain ⟨k, h⟩ := P l0 a1 l2 a3 a4 a5 a6 hm0 y0 hw0 hm2 y2 hw2 w3 w4 w5 w6
  refine (vmfleetlaw4_MemoryPages.calls k _ _ l0 a1 _ _ l2 a3 a4 a5 a6 true w (Kd.C_of_reads (d := (0 : Int)) (h1 := fun _ => rfl) hr0) hc0 (Kd.C_of_reads (d := (0 : Int)) (h1 := fun _ => rfl) hr2) hc2 h).mono ?_
  rintro e w' ⟨rfl, hd⟩
  exact ⟨rfl, hd⟩

end Go.Proofs.Ytdaeflafdnlceaa.HMemoryPages
