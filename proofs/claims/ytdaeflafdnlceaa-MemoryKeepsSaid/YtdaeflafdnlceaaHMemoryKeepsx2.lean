-- Written for this claim by wip/hook.py, by means of the kit's print and of hand-proved contracts.
import Derived.Test.YtdaeflafdnlceaaHMemoryKeepsx0
import Derived.Test.YtdaeflafdnlceaaHMemoryKeepsx1
namespace Go.Proofs.Ytdaeflafdnlceaa.HMemoryKeeps
open Go.RowKit Go.Proofs.YtdaeflafdnlceaaW.PrintWords Go.Proofs.YtdaeflafdnlceaaW.PrintLast Go.Proofs.YtdaeflafdnlceaaW.PrintMore
attribute [local go_sem] max2_int min2_int max_two min_two max_three min_three max_four min_four   -- for this text's walks alone
set_option linter.unusedVariables false
set_option linter.unusedSimpArgs false

/-! ### memory_Page: function 23 -/
def memory_Page.f (l0 : List Int) (a1 : Int) : Option (ByteArray × Bool) := (memory_has.f l0 a1).bind fun t137 => (if t137 = true then (if 0 ≤ (wrap64 (a1 * 32)) then (if (wrap64 (a1 * 32)) ≤ (wrap64 ((wrap64 (a1 + 1)) * 32)) then (if (wrap64 ((wrap64 (a1 + 1)) * 32)) ≤ (l0.length : Int) then ((memory_text.f ((l0.take ((wrap64 ((wrap64 (a1 + 1)) * 32)) : Int).toNat).drop ((wrap64 (a1 * 32)) : Int).toNat)).bind fun t139 => (some (t139, true))) else (none)) else (none)) else (none)) else (some ((⟨#[]⟩ : ByteArray), false)))
set_option maxHeartbeats 8000000 in
set_option maxRecDepth 100000 in
theorem memory_Page.calls (A0 : Option Addr) (c0 : Nat) (l0 : List Int) (a1 : Int) (r1 : ByteArray) (r2 : Bool) (w : World) (hr0 : Kd.C (Kd.int .u32) w A0 l0.length l0) (hc0 : l0.length ≤ c0) (h : memory_Page.f l0 a1 = some (r1, r2)) :
    Calls Try.prog 23 #[.slice A0 l0.length c0, .int .i64 a1] w fun e w' => e = .returned (.tuple #[.string r1, .bool r2]) ∧ Below w.heap.size w w' := by
  have HR0 := Aside0.mk hr0
  have HC0 := Aside0.mk hc0
  clear hr0 hc0
  have HB := Aside0.mk (Below.refl w.heap.size w)
  have H : ((memory_has.f l0 a1).bind fun t137 => (if t137 = true then (if 0 ≤ (wrap64 (a1 * 32)) then (if (wrap64 (a1 * 32)) ≤ (wrap64 ((wrap64 (a1 + 1)) * 32)) then (if (wrap64 ((wrap64 (a1 + 1)) * 32)) ≤ (l0.length : Int) then ((memory_text.f ((l0.take ((wrap64 ((wrap64 (a1 + 1)) * 32)) : Int).toNat).drop ((wrap64 (a1 * 32)) : Int).toNat)).bind fun t139 => (some (t139, true))) else (none)) else (none)) else (none)) else (some ((⟨#[]⟩ : ByteArray), false)))) = some (r1, r2) := h
  clear h
  replace H := Option.bind_eq_some_iff.mp H
  obtain ⟨t137, A30, H⟩ := H
  replace H : (if t137 = true then (if 0 ≤ (wrap64 (a1 * 32)) then (if (wrap64 (a1 * 32)) ≤ (wrap64 ((wrap64 (a1 + 1)) * 32)) then (if (wrap64 ((wrap64 (a1 + 1)) * 32)) ≤ (l0.length : Int) then ((memory_text.f ((l0.take ((wrap64 ((wrap64 (a1 + 1)) * 32)) : Int).toNat).drop ((wrap64 (a1 * 32)) : Int).toNat)).bind fun t139 => (some (t139, true))) else (none)) else (none)) else (none)) else (some ((⟨#[]⟩ : ByteArray), false))) = some (r1, r2) := H
  have A3 := Aside0.mk A30
  clear A30
  by_cases c4 : t137 = true
  · subst c4
    have H1 : (if 0 ≤ (wrap64 (a1 * 32)) then (if (wrap64 (a1 * 32)) ≤ (wrap64 ((wrap64 (a1 + 1)) * 32)) then (if (wrap64 ((wrap64 (a1 + 1)) * 32)) ≤ (l0.length : Int) then ((memory_text.f ((l0.take ((wrap64 ((wrap64 (a1 + 1)) * 32)) : Int).toNat).drop ((wrap64 (a1 * 32)) : Int).toNat)).bind fun t139 => (some (t139, true))) else (none)) else (none)) else (none)) = some (r1, r2) := by rw [if_pos rfl] at H; exact H
    clear H
    have H := H1
    clear H1
    obtain ⟨ji5, hji5⟩ : ∃ j_ : Int, (wrap64 (a1 * 32)) = j_ := ⟨_, rfl⟩
    replace H : (if 0 ≤ (ji5) then (if (ji5) ≤ (wrap64 ((wrap64 (a1 + 1)) * 32)) then (if (wrap64 ((wrap64 (a1 + 1)) * 32)) ≤ (l0.length : Int) then ((memory_text.f ((l0.take ((wrap64 ((wrap64 (a1 + 1)) * 32)) : Int).toNat).drop ((ji5) : Int).toNat)).bind fun t139 => (some (t139, true))) else (none)) else (none)) else (none)) = some (r1, r2) := by first | (rw [hji5] at H; exact H) | (simp only [hji5] at H ⊢; exact H)
    (try rw [hji5] at A3)
    have hji5w : (IntKind.i64.wrap (a1 * 32)) = ji5 := (i64_w _).trans hji5
    by_cases c6 : 0 ≤ (ji5)
    · rw [if_pos c6] at H
      have c6b0 := eq_true c6
      have c6b1 : decide (0 ≤ (ji5)) = true := decide_eq_true c6
      clear c6
      by_cases c7 : (ji5) ≤ (wrap64 ((wrap64 (a1 + 1)) * 32))
      · rw [if_pos c7] at H
        have c7b0 := eq_true c7
        have c7b1 : decide ((ji5) ≤ (wrap64 ((wrap64 (a1 + 1)) * 32))) = true := decide_eq_true c7
        by_cases c8 : (wrap64 ((wrap64 (a1 + 1)) * 32)) ≤ (l0.length : Int)
        · rw [if_pos c8] at H
          have c8b0 := eq_true c8
          have c8b1 : decide ((wrap64 ((wrap64 (a1 + 1)) * 32)) ≤ (l0.length : Int)) = true := decide_eq_true c8
          replace H := Option.bind_eq_some_iff.mp H
          obtain ⟨t139, A90, H⟩ := H
          replace H : (some (t139, true)) = some (r1, r2) := H
          have A9 := Aside0.mk A90
          clear A90
          simp only [Option.some.injEq, Prod.mk.injEq] at H
          obtain ⟨rfl, rfl⟩ := H
          go_enter Try.func23, Try.ntmps23
          go_wp2_with (first | ((with_reducible refine gate_callee (f := 41) rfl ?_); refine goesL_ (some 8) rfl rfl Try.func41 (by kernel_rfl) rfl #[.slice A0 l0.length c0, .int .i64 a1] rfl (by (try simp only [List.map_toArray, List.map_cons, List.map_nil]); first | done | rfl | (simp only [List.length_drop, List.length_take]; rfl)) ?_; (with_reducible refine (memory_has.calls _ _ l0 a1 true _ ?side1 ?side2 A3.out).mono ?_); (case side1 => repeat (first | exact HR0.out | (with_reducible refine Kd.C_alloc ?_ _) | (with_reducible refine Kd.C_drewN ?_ _) | (with_reducible refine Kd.C_drew ?_))); (case side2 => exact HC0.out); rintro e w' ⟨rfl, ⟨nd, rfl⟩⟩; refine ⟨_, rfl, ?_⟩; obtain ⟨i010, hi010, _, hsz10, _⟩ := info_parts info24; obtain ⟨A10, hcut10, hA10, hC10⟩ := print_mid_of (P := Try.prog) (Value.int .u32) 0 22 24 .i64 .i64 Try.underlying22 hi010 hsz10 A0 c0 l0 (ji5) (wrap64 ((wrap64 (a1 + 1)) * 32)) (of_decide_eq_true (by first | (with_reducible assumption) | assumption)) (by first | omega | exact of_decide_eq_true (by first | (with_reducible assumption) | assumption)) (of_decide_eq_true (by first | (with_reducible assumption) | assumption)) HC0.out; have HR138 := Aside0.mk (Kd.C_of_reads (h1 := fun _ => rfl) (hA10 _ (Kd.reads_of_C HR0.out))); have HC138 := Aside0.mk hC10; clear hA10 hC10 hi010 hsz10) | ((with_reducible refine gate_callee (f := 42) rfl ?_); refine goesL_ (some 17) rfl rfl Try.func42 (by kernel_rfl) rfl #[.slice A10 ((l0.take ((wrap64 ((wrap64 (a1 + 1)) * 32)) : Int).toNat).drop ((ji5) : Int).toNat).length (c0 - (ji5).toNat)] rfl (by (try simp only [List.map_toArray, List.map_cons, List.map_nil]); first | done | (rw [show ((l0.take ((wrap64 ((wrap64 (a1 + 1)) * 32)) : Int).toNat).drop ((ji5) : Int).toNat).length = ((wrap64 ((wrap64 (a1 + 1)) * 32)).toNat - (ji5).toNat) from (by rw [List.length_drop, List.length_take]; have h_ : ((wrap64 ((wrap64 (a1 + 1)) * 32)) : Int) ≤ (l0.length : Int) := of_decide_eq_true (by first | (with_reducible assumption) | assumption); omega)] <;> rfl) | (simp only [hji5]; rfl) | rfl | (simp only [List.length_drop, List.length_take]; rfl)) ?_; (with_reducible refine (memory_text.calls _ _ ((l0.take ((wrap64 ((wrap64 (a1 + 1)) * 32)) : Int).toNat).drop ((ji5) : Int).toNat) t139 _ ?side1 ?side2 A9.out).mono ?_); (case side1 => repeat (first | exact HR138.out | (with_reducible refine Kd.C_alloc ?_ _) | (with_reducible refine Kd.C_drewN ?_ _) | (with_reducible refine Kd.C_drew ?_))); (case side2 => exact HC138.out); rintro e w11 ⟨rfl, hb⟩; refine ⟨_, rfl, ?_⟩; have n0_ := Aside0.mk (below_step (by repeat (first | (with_reducible first | exact HB.out | apply below_alloc | apply pw_below_drewN | apply below_drew1) | exact HB.out)) hb); clear HB; have HB := n0_; clear n0_; (try clear hb); (try clear hb2); (try clear hk); (try clear hi)))
          go_ret2
          exact ⟨by first | rfl | (simp [errW_none, errW_some] <;> rfl) | (simp only [← hji5]; first | rfl | (simp [errW_none, errW_some] <;> rfl)) | (simp [*, errW_none, errW_some] <;> rfl), by repeat (first | (with_reducible first | exact HB.out | apply below_alloc | apply pw_below_drewN | apply below_drew1) | exact HB.out)⟩
        · rw [if_neg c8] at H
          exact absurd H (by simp)
      · rw [if_neg c7] at H
        exact absurd H (by simp)
    · rw [if_neg c6] at H
      exact absurd H (by simp)
  · replace c4 := Bool.eq_false_iff.mpr c4
    subst c4
    have H1 : (some ((⟨#[]⟩ : ByteArray), false)) = some (r1, r2) := by rw [if_neg (show ¬ (false = true) by decide)] at H; exact H
    clear H
    have H := H1
    clear H1
    simp only [Option.some.injEq, Prod.mk.injEq] at H
    obtain ⟨rfl, rfl⟩ := H
    go_enter Try.func23, Try.ntmps23
    go_wp2_with (first | ((with_reducible refine gate_callee (f := 41) rfl ?_); refine goesL_ (some 8) rfl rfl Try.func41 (by kernel_rfl) rfl #[.slice A0 l0.length c0, .int .i64 a1] rfl (by (try simp only [List.map_toArray, List.map_cons, List.map_nil]); first | done | rfl | (simp only [List.length_drop, List.length_take]; rfl)) ?_; (with_reducible refine (memory_has.calls _ _ l0 a1 false _ ?side1 ?side2 A3.out).mono ?_); (case side1 => repeat (first | exact HR0.out | (with_reducible refine Kd.C_alloc ?_ _) | (with_reducible refine Kd.C_drewN ?_ _) | (with_reducible refine Kd.C_drew ?_))); (case side2 => exact HC0.out); rintro e w' ⟨rfl, ⟨nd, rfl⟩⟩; refine ⟨_, rfl, ?_⟩))
    go_ret2
    exact ⟨by first | rfl | (simp [errW_none, errW_some] <;> rfl) | (simp [*, errW_none, errW_some] <;> rfl), by repeat (first | (with_reducible first | exact HB.out | apply below_alloc | apply pw_below_drewN | apply below_drew1) | exact HB.out)⟩

/-! ### vmfleetlaw4_MemoryKeeps: function 5 -/
mutual
def vmfleetlaw4_MemoryKeeps.l0 : Nat → List Int → Int → List Int → List Int → Int → Option (Bool)
  | 0, _, _, _, _, _ => none
  | k + 1, x1, x5, x6, x7, x8 => if x8 < (x1.length : Int) then (if 0 ≤ x8 then ((vmfleetmake_Mix.f (rd x1 x8) 7).bind fun t149 => ((vmfleetmake_Mix.f (rd x1 x8) 8).bind fun t151 => ((vmfleetmake_Round.f t151 (x7.length : Int)).bind fun t152 => (if (Go.bits .and .i64 (rd x1 x8) 1) = 1 then (vmfleetlaw4_MemoryKeeps.j1 k x1 x5 x6 x7 x8 ((Go.bits .and .i64 t149 4294967295) % 4294967296) (wrap64 ((wrap64 (Int.tdiv t152 4)) * 4)) 4) else (vmfleetlaw4_MemoryKeeps.j1 k x1 x5 x6 x7 x8 ((Go.bits .and .i64 t149 4294967295) % 4294967296) t152 1))))) else (none)) else (vmfleetlaw4_MemoryKeeps.l2 k x5 x6 x7 0)
def vmfleetlaw4_MemoryKeeps.j1 : Nat → List Int → Int → List Int → List Int → Int → Int → Int → Int → Option (Bool)
  | 0, _, _, _, _, _, _, _, _ => none
  | k + 1, x1, x5, x6, x7, x8, x9, x10, x11 => (memory_Store.f x6 ((x10) % 4294967296) x11 x9).bind fun bt154 => (if bt154.2 = true then (vmfleetlaw4_MemoryKeeps.l1 k x1 x5 bt154.1 x7 x8 x9 x10 x11 0) else (some false))
def vmfleetlaw4_MemoryKeeps.l1 : Nat → List Int → Int → List Int → List Int → Int → Int → Int → Int → Int → Option (Bool)
  | 0, _, _, _, _, _, _, _, _, _ => none
  | k + 1, x1, x5, x6, x7, x8, x9, x10, x11, x14 => if x14 < x11 then (if 0 ≤ (IntKind.u64.wrap (wrap64 (8 * x14))) then (if 0 ≤ (wrap64 (x10 + x14)) then (if (wrap64 (x10 + x14)) < (x7.length : Int) then (vmfleetlaw4_MemoryKeeps.l1 k x1 x5 x6 (x7.set ((wrap64 (x10 + x14)) : Int).toNat ((shr .u32 x9 (IntKind.u64.wrap (wrap64 (8 * x14)))) % 256)) x8 x9 x10 x11 (wrap64 (x14 + 1))) else (none)) else (none)) else (none)) else (vmfleetlaw4_MemoryKeeps.l0 k x1 x5 x6 x7 (wrap64 (x8 + 1)))
def vmfleetlaw4_MemoryKeeps.l2 : Nat → Int → List Int → List Int → Int → Option (Bool)
  | 0, _, _, _, _ => none
  | k + 1, x5, x6, x7, x15 => if x15 < x5 then ((memory_Page.f x6 x15).bind fun bt159 => (if bt159.2 = true then (if 0 ≤ (wrap64 (x15 * 128)) then (if (wrap64 (x15 * 128)) ≤ (wrap64 ((wrap64 (x15 + 1)) * 128)) then (if (wrap64 ((wrap64 (x15 + 1)) * 128)) ≤ (x7.length : Int) then (if bt159.1.toList = (strOfNums ((x7.take ((wrap64 ((wrap64 (x15 + 1)) * 128)) : Int).toNat).drop ((wrap64 (x15 * 128)) : Int).toNat)).toList then (vmfleetlaw4_MemoryKeeps.l2 k x5 x6 x7 (wrap64 (x15 + 1))) else (some false)) else (none)) else (none)) else (none)) else (some false))) else ((memory_Pages.f x6).bind fun t165 => (if t165 = x5 then ((vmfleetlaw4_awake.f).bind fun t166 => (some t166)) else (some false)))
end
def vmfleetlaw4_MemoryKeeps.f (k : Nat) (a0 : Int) (l1 : List Int) : Option (Bool) := if (l1.length : Int) > 60 then ((vmfleetlaw4_awake.f).bind fun t140 => (some t140)) else ((vmfleetmake_Round.f a0 4).bind fun t141 => ((memory_New.f (wrap64 (1 + t141))).bind fun t142 => (if 0 ≤ (wrap64 ((wrap64 (1 + t141)) * 128)) then (if (wrap64 ((wrap64 (1 + t141)) * 128) : Int).toNat ≤ 281474976710656 then (vmfleetlaw4_MemoryKeeps.l0 k l1 (wrap64 (1 + t141)) t142 (List.replicate (wrap64 ((wrap64 (1 + t141)) * 128) : Int).toNat 0) 0) else (none)) else (none))))
theorem vmfleetlaw4_MemoryKeeps.mono_l : ∀ k, (∀ y0 y1 y2 y3 y4, LeO (vmfleetlaw4_MemoryKeeps.l0 k y0 y1 y2 y3 y4) (vmfleetlaw4_MemoryKeeps.l0 (k + 1) y0 y1 y2 y3 y4)) ∧ (∀ y0 y1 y2 y3 y4 y5 y6 y7, LeO (vmfleetlaw4_MemoryKeeps.j1 k y0 y1 y2 y3 y4 y5 y6 y7) (vmfleetlaw4_MemoryKeeps.j1 (k + 1) y0 y1 y2 y3 y4 y5 y6 y7)) ∧ (∀ y0 y1 y2 y3 y4 y5 y6 y7 y8, LeO (vmfleetlaw4_MemoryKeeps.l1 k y0 y1 y2 y3 y4 y5 y6 y7 y8) (vmfleetlaw4_MemoryKeeps.l1 (k + 1) y0 y1 y2 y3 y4 y5 y6 y7 y8)) ∧ (∀ y0 y1 y2 y3, LeO (vmfleetlaw4_MemoryKeeps.l2 k y0 y1 y2 y3) (vmfleetlaw4_MemoryKeeps.l2 (k + 1) y0 y1 y2 y3))
  | 0 => ⟨fun _ _ _ _ _ r h => by simp [vmfleetlaw4_MemoryKeeps.l0] at h, fun _ _ _ _ _ _ _ _ r h => by simp [vmfleetlaw4_MemoryKeeps.j1] at h, fun _ _ _ _ _ _ _ _ _ r h => by simp [vmfleetlaw4_MemoryKeeps.l1] at h, fun _ _ _ _ r h => by simp [vmfleetlaw4_MemoryKeeps.l2] at h⟩
  | k + 1 => by
    obtain ⟨ih0, ih1, ih2, ih3⟩ := vmfleetlaw4_MemoryKeeps.mono_l k
    refine ⟨?_, ?_, ?_, ?_⟩
    · intro y0 y1 y2 y3 y4
      unfold vmfleetlaw4_MemoryKeeps.l0
      repeat' first
      | (with_reducible exact ih0 _ _ _ _ _)
      | (with_reducible exact ih1 _ _ _ _ _ _ _ _)
      | (with_reducible exact ih2 _ _ _ _ _ _ _ _ _)
      | (with_reducible exact ih3 _ _ _ _)
      | (with_reducible exact LeO.refl _)
      | (with_reducible exact LeO.none _)
      | (with_reducible refine LeO.ite ?_ ?_)
      | (with_reducible refine LeO.bind ?_ (fun _ => ?_))
      | exact ih0 _ _ _ _ _
      | exact ih1 _ _ _ _ _ _ _ _
      | exact ih2 _ _ _ _ _ _ _ _ _
      | exact ih3 _ _ _ _
      | exact LeO.none _
      | refine LeO.ite ?_ ?_
      | refine LeO.bind ?_ (fun _ => ?_)
    · intro y0 y1 y2 y3 y4 y5 y6 y7
      unfold vmfleetlaw4_MemoryKeeps.j1
      repeat' first
      | (with_reducible exact ih0 _ _ _ _ _)
      | (with_reducible exact ih1 _ _ _ _ _ _ _ _)
      | (with_reducible exact ih2 _ _ _ _ _ _ _ _ _)
      | (with_reducible exact ih3 _ _ _ _)
      | (with_reducible exact LeO.refl _)
      | (with_reducible exact LeO.none _)
      | (with_reducible refine LeO.ite ?_ ?_)
      | (with_reducible refine LeO.bind ?_ (fun _ => ?_))
      | exact ih0 _ _ _ _ _
      | exact ih1 _ _ _ _ _ _ _ _
      | exact ih2 _ _ _ _ _ _ _ _ _
      | exact ih3 _ _ _ _
      | exact LeO.none _
      | refine LeO.ite ?_ ?_
      | refine LeO.bind ?_ (fun _ => ?_)
    · intro y0 y1 y2 y3 y4 y5 y6 y7 y8
      unfold vmfleetlaw4_MemoryKeeps.l1
      repeat' first
      | (with_reducible exact ih0 _ _ _ _ _)
      | (with_reducible exact ih1 _ _ _ _ _ _ _ _)
      | (with_reducible exact ih2 _ _ _ _ _ _ _ _ _)
      | (with_reducible exact ih3 _ _ _ _)
      | (with_reducible exact LeO.refl _)
      | (with_reducible exact LeO.none _)
      | (with_reducible refine LeO.ite ?_ ?_)
      | (with_reducible refine LeO.bind ?_ (fun _ => ?_))
      | exact ih0 _ _ _ _ _
      | exact ih1 _ _ _ _ _ _ _ _
      | exact ih2 _ _ _ _ _ _ _ _ _
      | exact ih3 _ _ _ _
      | exact LeO.none _
      | refine LeO.ite ?_ ?_
      | refine LeO.bind ?_ (fun _ => ?_)
    · intro y0 y1 y2 y3
      unfold vmfleetlaw4_MemoryKeeps.l2
      repeat' first
      | (with_reducible exact ih0 _ _ _ _ _)
      | (with_reducible exact ih1 _ _ _ _ _ _ _ _)
      | (with_reducible exact ih2 _ _ _ _ _ _ _ _ _)
      | (with_reducible exact ih3 _ _ _ _)
      | (with_reducible exact LeO.refl _)
      | (with_reducible exact LeO.none _)
      | (with_reducible refine LeO.ite ?_ ?_)
      | (with_reducible refine LeO.bind ?_ (fun _ => ?_))
      | exact ih0 _ _ _ _ _
      | exact ih1 _ _ _ _ _ _ _ _
      | exact ih2 _ _ _ _ _ _ _ _ _
      | exact ih3 _ _ _ _
      | exact LeO.none _
      | refine LeO.ite ?_ ?_
      | refine LeO.bind ?_ (fun _ => ?_)
theorem vmfleetlaw4_MemoryKeeps.mono : ∀ a0 a1 k, LeO (vmfleetlaw4_MemoryKeeps.f k a0 a1) (vmfleetlaw4_MemoryKeeps.f (k + 1) a0 a1) := by
  intro a0 a1 k
  obtain ⟨ih0, ih1, ih2, ih3⟩ := vmfleetlaw4_MemoryKeeps.mono_l k
  unfold vmfleetlaw4_MemoryKeeps.f
  repeat' first
      | (with_reducible exact ih0 _ _ _ _ _)
      | (with_reducible exact ih1 _ _ _ _ _ _ _ _)
      | (with_reducible exact ih2 _ _ _ _ _ _ _ _ _)
      | (with_reducible exact ih3 _ _ _ _)
      | (with_reducible exact LeO.refl _)
      | (with_reducible exact LeO.none _)
      | (with_reducible refine LeO.ite ?_ ?_)
      | (with_reducible refine LeO.bind ?_ (fun _ => ?_))
      | exact ih0 _ _ _ _ _
      | exact ih1 _ _ _ _ _ _ _ _
      | exact ih2 _ _ _ _ _ _ _ _ _
      | exact ih3 _ _ _ _
      | exact LeO.none _
      | refine LeO.ite ?_ ?_
      | refine LeO.bind ?_ (fun _ => ?_)
set_option maxHeartbeats 8000000 in
set_option maxRecDepth 100000 in
theorem vmfleetlaw4_MemoryKeeps.calls (k : Nat) (a0 : Int) (A1 : Option Addr) (c1 : Nat) (l1 : List Int) (r : Bool) (w : World) (hr1 : Kd.C (Kd.int .i64) w A1 l1.length l1) (hc1 : l1.length ≤ c1) (h : vmfleetlaw4_MemoryKeeps.f k a0 l1 = some r) :
    Calls Try.prog 5 #[.int .i64 a0, .slice A1 l1.length c1] w fun e w' => e = .returned (.bool r) ∧ Below w.heap.size w w' := by
  have HR1 := Aside0.mk hr1
  have HC1 := Aside0.mk hc1
  clear hr1 hc1
  have HB := Aside0.mk (Below.refl w.heap.size w)
  have H : (if (l1.length : Int) > 60 then ((vmfleetlaw4_awake.f).bind fun t140 => (some t140)) else ((vmfleetmake_Round.f a0 4).bind fun t141 => ((memory_New.f (wrap64 (1 + t141))).bind fun t142 => (if 0 ≤ (wrap64 ((wrap64 (1 + t141)) * 128)) then (if (wrap64 ((wrap64 (1 + t141)) * 128) : Int).toNat ≤ 281474976710656 then (vmfleetlaw4_MemoryKeeps.l0 k l1 (wrap64 (1 + t141)) t142 (List.replicate (wrap64 ((wrap64 (1 + t141)) * 128) : Int).toNat 0) 0) else (none)) else (none))))) = some r := h
  clear h
  by_cases c3 : (l1.length : Int) > 60
  · rw [if_pos c3] at H
    have c3b0 : decide (60 < (l1.length : Int)) = true := decide_eq_true c3
    have c3b1 : decide (60 < l1.length) = true := decide_eq_true (by omega)
    clear c3
    replace H := Option.bind_eq_some_iff.mp H
    obtain ⟨t140, A40, H⟩ := H
    replace H : (some t140) = some r := H
    have A4 := Aside0.mk A40
    clear A40
    obtain rfl := Option.some.inj H
    go_enter Try.func5, Try.ntmps5
    go_wp2_with (first | ((with_reducible refine gate_callee (f := 21) rfl ?_); refine goesL_ (some 21) rfl rfl Try.func21 (by kernel_rfl) rfl #[] rfl (by (try simp only [List.map_toArray, List.map_cons, List.map_nil]); first | done | rfl | (simp only [List.length_drop, List.length_take]; rfl)) ?_; (with_reducible refine (vmfleetlaw4_awake.calls  t140 _ A4.out).mono ?_); rintro e w5 ⟨rfl, hb⟩; refine ⟨_, rfl, ?_⟩; have n0_ := Aside0.mk (below_step (by repeat (first | (with_reducible first | exact HB.out | apply below_alloc | apply pw_below_drewN | apply below_drew1) | exact HB.out)) hb); clear HB; have HB := n0_; clear n0_; (try clear hb); (try clear hb2); (try clear hk); (try clear hi)))
    go_ret
    exact ⟨by first | rfl | (simp [errW_none, errW_some] <;> rfl) | (simp [*, errW_none, errW_some] <;> rfl), by repeat (first | (with_reducible first | exact HB.out | apply below_alloc | apply pw_below_drewN | apply below_drew1) | exact HB.out)⟩
  · rw [if_neg c3] at H
    have c3b0 : decide (60 < (l1.length : Int)) = false := decide_eq_false c3
    have c3b1 : decide (60 < l1.length) = false := decide_eq_false (by omega)
    clear c3
    replace H := Option.bind_eq_some_iff.mp H
    obtain ⟨t141, A60, H⟩ := H
    replace H : ((memory_New.f (wrap64 (1 + t141))).bind fun t142 => (if 0 ≤ (wrap64 ((wrap64 (1 + t141)) * 128)) then (if (wrap64 ((wrap64 (1 + t141)) * 128) : Int).toNat ≤ 281474976710656 then (vmfleetlaw4_MemoryKeeps.l0 k l1 (wrap64 (1 + t141)) t142 (List.replicate (wrap64 ((wrap64 (1 + t141)) * 128) : Int).toNat 0) 0) else (none)) else (none))) = some r := H
    have A6 := Aside0.mk A60
    clear A60
    replace H := Option.bind_eq_some_iff.mp H
    obtain ⟨t142, A70, H⟩ := H
    replace H : (if 0 ≤ (wrap64 ((wrap64 (1 + t141)) * 128)) then (if (wrap64 ((wrap64 (1 + t141)) * 128) : Int).toNat ≤ 281474976710656 then (vmfleetlaw4_MemoryKeeps.l0 k l1 (wrap64 (1 + t141)) t142 (List.replicate (wrap64 ((wrap64 (1 + t141)) * 128) : Int).toNat 0) 0) else (none)) else (none)) = some r := H
    have A7 := Aside0.mk A70
    clear A70
    obtain ⟨ji8, hji8⟩ : ∃ j_ : Int, (wrap64 ((wrap64 (1 + t141)) * 128)) = j_ := ⟨_, rfl⟩
    replace H : (if 0 ≤ (ji8) then (if (ji8 : Int).toNat ≤ 281474976710656 then (vmfleetlaw4_MemoryKeeps.l0 k l1 (wrap64 (1 + t141)) t142 (List.replicate (ji8 : Int).toNat 0) 0) else (none)) else (none)) = some r := by first | (rw [hji8] at H; exact H) | (simp only [hji8] at H ⊢; exact H)
    (try rw [hji8] at A6)
    (try rw [hji8] at A7)
    have hji8w : (IntKind.i64.wrap ((wrap64 (1 + t141)) * 128)) = ji8 := (i64_w _).trans hji8
    by_cases c9 : 0 ≤ (ji8)
    · rw [if_pos c9] at H
      have c9b0 := eq_true c9
      have c9b1 : decide (0 ≤ (ji8)) = true := decide_eq_true c9
      clear c9
      by_cases c10 : (ji8 : Int).toNat ≤ 281474976710656
      · rw [if_pos c10] at H
        have c10b0 := eq_true c10
        have c10b1 : decide ((ji8 : Int).toNat ≤ 281474976710656) = true := decide_eq_true c10
        clear c10
        obtain ⟨y145, hy145⟩ : ∃ y_ : List Int, y_ = (List.replicate (ji8 : Int).toNat 0) := ⟨_, rfl⟩
        replace H : (vmfleetlaw4_MemoryKeeps.l0 k l1 (wrap64 (1 + t141)) t142 y145 0) = some r := by first | (rw [hy145]; with_reducible exact H) | (have H2_ := (Option.bind_some _ _).symm.trans H; rw [hy145]; with_reducible exact H2_) | (have H2_ := (Option.bind_some _ _).symm.trans H; with_reducible exact H2_) | with_reducible exact H | (rw [hy145]; exact H) | exact H
        have Ny145 := Aside0.mk hy145
        clear hy145
        have H' := Aside0.mk H
        clear H
        go_enter Try.func5, Try.ntmps5
        go_wp2_with (first | ((with_reducible refine gate_callee (f := 11) rfl ?_); refine goesL_ (some 23) rfl rfl Try.func11 (by kernel_rfl) rfl #[.int .i64 a0, .int .i64 4] rfl (by (try simp only [List.map_toArray, List.map_cons, List.map_nil]); first | done | rfl | (simp only [List.length_drop, List.length_take]; rfl)) ?_; (with_reducible refine (vmfleetmake_Round.calls a0 4 t141 _ A6.out).mono ?_); rintro e w' ⟨rfl, ⟨nd, rfl⟩⟩; refine ⟨_, rfl, ?_⟩) | ((with_reducible refine gate_callee (f := 19) rfl ?_); refine goesL_ (some 26) rfl rfl Try.func19 (by kernel_rfl) rfl #[.int .i64 (wrap64 (1 + t141))] rfl (by (try simp only [List.map_toArray, List.map_cons, List.map_nil]); first | done | rfl | (simp only [List.length_drop, List.length_take]; rfl)) ?_; (with_reducible refine (memory_New.calls (wrap64 (1 + t141)) t142 _ A7.out).mono ?_); rintro e w11 ⟨v143, rfl, ho0, hb⟩; refine ⟨_, rfl, ?_⟩; have n0_ := Aside0.mk (Kd.R_lower ho0 (below_size (by repeat (first | (with_reducible first | exact HB.out | apply below_alloc | apply pw_below_drewN | apply below_drew1) | exact HB.out)))); have n1_ := Aside0.mk (below_step (by repeat (first | (with_reducible first | exact HB.out | apply below_alloc | apply pw_below_drewN | apply below_drew1) | exact HB.out)) hb); clear HB; have HO144 := n0_; have HB := n1_; clear n0_ n1_; (try clear hb); (try clear hb2); (try clear hk); (try clear hi); (try clear ho0)) | ((with_reducible refine gate_dst (N := 29) rfl ?_); refine Kd.R_make (Kd.int .u8) _ 5 rfl (N := 29) rfl 37 _ _ rfl ji8 rfl rfl Try.underlying37 (.int .u8 0) 1 info5 rfl (by decide) (by omega) 0 (ok := fun _ => True) (okp := fun _ => True) rfl (fun _ hk => hk) trivial (of_decide_eq_true (by first | (with_reducible assumption) | assumption)) (Nat.le_trans (Nat.mul_le_mul_right _ (of_decide_eq_true (by first | (with_reducible assumption) | assumption) : ji8.toNat ≤ 281474976710656)) (by omega)) (Below.refl _ _) (Nat.le_refl _) ?_; intro v146 w12 ho13 hb hg_ hnew_; clear hg_ hnew_; (first | rw [← Ny145.out] at ho13 | (simp only [Int.reduceToNat] at ho13; rw [← Ny145.out] at ho13)); have n0_ := Aside0.mk (Kd.R_below (by (with_reducible repeat (first | apply Kd.R_alloc | apply Kd.R_drewN | apply Kd.R_drew)); exact HO144.out) hb); have n1_ := Aside0.mk (Kd.R_lower ho13 (below_size (by repeat (first | (with_reducible first | exact HB.out | apply below_alloc | apply pw_below_drewN | apply below_drew1) | exact HB.out)))); have n2_ := Aside0.mk (below_step (by repeat (first | (with_reducible first | exact HB.out | apply below_alloc | apply pw_below_drewN | apply below_drew1) | exact HB.out)) hb); clear HO144; clear HB; have HO144 := n0_; have HO147 := n1_; have HB := n2_; clear n0_ n1_ n2_; clear hb ho13))
        go_loopg [6, 8] k (fun kq v6 v8 w' => ∃ (x6_1 : List Int) (x7_1 : List Int) (x8_1 : Int), v8 = .int .i64 x8_1 ∧ Aside0 (vmfleetlaw4_MemoryKeeps.l0 kq l1 (wrap64 (1 + t141)) x6_1 x7_1 x8_1 = some r) ∧ Aside0 (kq ≤ k) ∧ Aside0 (Kd.R (Kd.int .u32) 24 w' w.heap.size (fun _ => True) v6 x6_1) ∧ Aside0 (Kd.R (Kd.int .u8) 5 w' w.heap.size (fun _ => True) v146 x7_1) ∧ Aside0 (Below w.heap.size w w'))
        case atStart => exact ⟨(t142), (y145), (0), (by first | rfl | (simp; done) | (simp [*]; done)), H', ⟨Nat.le_refl _⟩, ⟨by (with_reducible repeat (first | apply Kd.R_alloc | apply Kd.R_drewN | apply Kd.R_drew)); exact HO144.out⟩, ⟨by (with_reducible repeat (first | apply Kd.R_alloc | apply Kd.R_drewN | apply Kd.R_drew)); exact HO147.out⟩, ⟨by repeat (first | (with_reducible first | exact HB.out | apply below_alloc | apply pw_below_drewN | apply below_drew1) | exact HB.out)⟩⟩
        case round =>
          clear H'
          try clear c1
          try clear c2
          try clear p2
          try clear c3
          try clear c3b0
          try clear c3b1
          try clear c5
          try clear p6
          try clear c9
          try clear c9b0
          try clear c9b1
          try clear c10
          try clear c10b0
          try clear c10b1
          try clear c11
          obtain ⟨x6_1, x7_1, x8_1, rfl, HA, HK1, HO_6, HO_7, HB⟩ := hrel
          cases gk with
          | zero => exact absurd HA.out (by simp [vmfleetlaw4_MemoryKeeps.l0])
          | succ k1 =>
            have H := HA.out
            clear HA
            simp only [vmfleetlaw4_MemoryKeeps.l0] at H
            by_cases c14 : x8_1 < (l1.length : Int)
            · rw [if_pos c14] at H
              have c14b0 : decide (x8_1 < (l1.length : Int)) = true := decide_eq_true c14
              clear c14
              by_cases c15 : 0 ≤ x8_1
              · rw [if_pos c15] at H
                have c15b0 : decide (0 ≤ x8_1) = true := decide_eq_true c15
                clear c15
                replace H := Option.bind_eq_some_iff.mp H
                obtain ⟨t149, A160, H⟩ := H
                replace H : ((vmfleetmake_Mix.f (rd l1 x8_1) 8).bind fun t151 => ((vmfleetmake_Round.f t151 (x7_1.length : Int)).bind fun t152 => (if (Go.bits .and .i64 (rd l1 x8_1) 1) = 1 then (vmfleetlaw4_MemoryKeeps.j1 k1 l1 (wrap64 (1 + t141)) x6_1 x7_1 x8_1 ((Go.bits .and .i64 t149 4294967295) % 4294967296) (wrap64 ((wrap64 (Int.tdiv t152 4)) * 4)) 4) else (vmfleetlaw4_MemoryKeeps.j1 k1 l1 (wrap64 (1 + t141)) x6_1 x7_1 x8_1 ((Go.bits .and .i64 t149 4294967295) % 4294967296) t152 1)))) = some r := H
                have A16 := Aside0.mk A160
                clear A160
                replace H := Option.bind_eq_some_iff.mp H
                obtain ⟨t151, A170, H⟩ := H
                replace H : ((vmfleetmake_Round.f t151 (x7_1.length : Int)).bind fun t152 => (if (Go.bits .and .i64 (rd l1 x8_1) 1) = 1 then (vmfleetlaw4_MemoryKeeps.j1 k1 l1 (wrap64 (1 + t141)) x6_1 x7_1 x8_1 ((Go.bits .and .i64 t149 4294967295) % 4294967296) (wrap64 ((wrap64 (Int.tdiv t152 4)) * 4)) 4) else (vmfleetlaw4_MemoryKeeps.j1 k1 l1 (wrap64 (1 + t141)) x6_1 x7_1 x8_1 ((Go.bits .and .i64 t149 4294967295) % 4294967296) t152 1))) = some r := H
                have A17 := Aside0.mk A170
                clear A170
                replace H := Option.bind_eq_some_iff.mp H
                obtain ⟨t152, A180, H⟩ := H
                replace H : (if (Go.bits .and .i64 (rd l1 x8_1) 1) = 1 then (vmfleetlaw4_MemoryKeeps.j1 k1 l1 (wrap64 (1 + t141)) x6_1 x7_1 x8_1 ((Go.bits .and .i64 t149 4294967295) % 4294967296) (wrap64 ((wrap64 (Int.tdiv t152 4)) * 4)) 4) else (vmfleetlaw4_MemoryKeeps.j1 k1 l1 (wrap64 (1 + t141)) x6_1 x7_1 x8_1 ((Go.bits .and .i64 t149 4294967295) % 4294967296) t152 1)) = some r := H
                have A18 := Aside0.mk A180
                clear A180
                have HC19 := Aside0.mk H
                clear H
                have p148 : 0 ≤ (x8_1 : Int) := of_decide_eq_true (by first | (with_reducible assumption) | assumption)
                have q148 : x8_1 < (l1.length : Int) := of_decide_eq_true (by first | (with_reducible assumption) | assumption)
                obtain ⟨ad148, e148, hx148_0⟩ := Kd.at_int HR1.out x8_1 p148 q148
                cases e148
                replace hx148_0 := (HB.out.cell (World.block_lt_of_cell? w _ hx148_0)).trans hx148_0
                replace p148 := eq_true p148
                replace q148 := eq_true q148
                go_upto_if 56 with (first | ((with_reducible refine gate_callee (f := 22) rfl ?_); refine goesL_ (some 40) rfl rfl Try.func22 (by kernel_rfl) rfl #[.int .i64 (rd l1 x8_1), .int .i64 7] rfl (by (try simp only [List.map_toArray, List.map_cons, List.map_nil]); first | done | rfl | (simp only [List.length_drop, List.length_take]; rfl)) ?_; (with_reducible refine (vmfleetmake_Mix.calls (rd l1 x8_1) 7 t149 _ A16.out).mono ?_); rintro e w' ⟨rfl, ⟨nd, rfl⟩⟩; refine ⟨_, rfl, ?_⟩; have p150 : 0 ≤ (x8_1 : Int) := of_decide_eq_true (by first | (with_reducible assumption) | assumption); have q150 : x8_1 < (l1.length : Int) := of_decide_eq_true (by first | (with_reducible assumption) | assumption); obtain ⟨ad150, e150, hx150_0⟩ := Kd.at_int HR1.out x8_1 p150 q150; obtain rfl : ad148 = ad150 := (by injection e150); replace hx150_0 := (HB.out.cell (World.block_lt_of_cell? w _ hx150_0)).trans hx150_0; replace p150 := eq_true p150; replace q150 := eq_true q150) | ((with_reducible refine gate_callee (f := 22) rfl ?_); refine goesL_ (some 47) rfl rfl Try.func22 (by kernel_rfl) rfl #[.int .i64 (rd l1 x8_1), .int .i64 8] rfl (by (try simp only [List.map_toArray, List.map_cons, List.map_nil]); first | done | rfl | (simp only [List.length_drop, List.length_take]; rfl)) ?_; (with_reducible refine (vmfleetmake_Mix.calls (rd l1 x8_1) 8 t151 _ A17.out).mono ?_); rintro e w' ⟨rfl, ⟨nd, rfl⟩⟩; refine ⟨_, rfl, ?_⟩; obtain ⟨Ao20, co20, eo20⟩ := Kd.R_slice HO_7.out; subst eo20) | ((with_reducible refine gate_callee (f := 11) rfl ?_); refine goesL_ (some 50) rfl rfl Try.func11 (by kernel_rfl) rfl #[.int .i64 t151, .int .i64 (x7_1.length : Int)] rfl (by (try simp only [List.map_toArray, List.map_cons, List.map_nil]); first | done | rfl | (simp only [List.length_drop, List.length_take]; rfl)) ?_; (with_reducible refine (vmfleetmake_Round.calls t151 (x7_1.length : Int) t152 _ A18.out).mono ?_); rintro e w' ⟨rfl, ⟨nd, rfl⟩⟩; refine ⟨_, rfl, ?_⟩; have p153 : 0 ≤ (x8_1 : Int) := of_decide_eq_true (by first | (with_reducible assumption) | assumption); have q153 : x8_1 < (l1.length : Int) := of_decide_eq_true (by first | (with_reducible assumption) | assumption); obtain ⟨ad153, e153, hx153_0⟩ := Kd.at_int HR1.out x8_1 p153 q153; obtain rfl : ad148 = ad153 := (by injection e153); replace hx153_0 := (HB.out.cell (World.block_lt_of_cell? w _ hx153_0)).trans hx153_0; replace p153 := eq_true p153; replace q153 := eq_true q153))
                (try simp only [Act.put, List.setIfInBounds_toArray, List.set_cons_zero, List.set_cons_succ])
                go_cut [10, 11] (fun v10 v11 wc => ∃ (kq : Nat) (x10_18 : Int) (x11_18 : Int), v10 = .int .i64 x10_18 ∧ v11 = .int .i64 x11_18 ∧ Aside0 (vmfleetlaw4_MemoryKeeps.j1 kq l1 (wrap64 (1 + t141)) x6_1 x7_1 x8_1 ((Go.bits .and .i64 t149 4294967295) % 4294967296) x10_18 x11_18 = some r) ∧ Aside0 (kq ≤ k1) ∧ Aside0 (Kd.R (Kd.int .u32) 24 wc w.heap.size (fun _ => True) u6 x6_1) ∧ Aside0 (Kd.R (Kd.int .u8) 5 wc w.heap.size (fun _ => True) (.slice Ao20 x7_1.length co20) x7_1) ∧ Aside0 (Below w.heap.size w wc))
                case first =>
                  have H := HC19.out
                  clear HC19
                  by_cases c21 : (Go.bits .and .i64 (rd l1 x8_1) 1) = 1
                  · rw [if_pos c21] at H
                    have c21b0 : ((Go.bits .and .i64 (rd l1 x8_1) 1) == 1) = true := beq_iff_eq.mpr c21
                    have c21b1 : ((Go.bits .and .i64 (rd l1 x8_1) 1) != 1) = false := bne_eq_false_iff_eq.mpr c21
                    clear c21
                    (first | rw [c21b0] | (simp only [i64_w, i32_w]; rw [c21b0]) | skip)
                    have H' := Aside0.mk H
                    clear H
                    go_wp2
                    go_meet
                    case rel => exact ⟨_, (wrap64 ((wrap64 (Int.tdiv t152 4)) * 4)), (4), (by first | rfl | (simp; done) | (simp [*]; done)), (by first | rfl | (simp; done) | (simp [*]; done)), H', ⟨by have := HK1.out; first | omega | exact Nat.le_refl _⟩, ⟨by (with_reducible repeat (first | apply Kd.R_alloc | apply Kd.R_drewN | apply Kd.R_drew)); exact HO_6.out⟩, ⟨by (with_reducible repeat (first | apply Kd.R_alloc | apply Kd.R_drewN | apply Kd.R_drew)); exact HO_7.out⟩, ⟨by repeat (first | (with_reducible first | exact HB.out | apply below_alloc | apply pw_below_drewN | apply below_drew1) | exact HB.out)⟩⟩
                  · rw [if_neg c21] at H
                    have c21b0 : ((Go.bits .and .i64 (rd l1 x8_1) 1) == 1) = false := beq_eq_false_iff_ne.mpr c21
                    have c21b1 : ((Go.bits .and .i64 (rd l1 x8_1) 1) != 1) = true := bne_iff_ne.mpr c21
                    (first | rw [c21b0] | (simp only [i64_w, i32_w]; rw [c21b0]) | skip)
                    have H' := Aside0.mk H
                    clear H
                    go_wp2
                    go_meet
                    case rel => exact ⟨_, (t152), (1), (by first | rfl | (simp; done) | (simp [*]; done)), (by first | rfl | (simp; done) | (simp [*]; done)), H', ⟨by have := HK1.out; first | omega | exact Nat.le_refl _⟩, ⟨by (with_reducible repeat (first | apply Kd.R_alloc | apply Kd.R_drewN | apply Kd.R_drew)); exact HO_6.out⟩, ⟨by (with_reducible repeat (first | apply Kd.R_alloc | apply Kd.R_drewN | apply Kd.R_drew)); exact HO_7.out⟩, ⟨by repeat (first | (with_reducible first | exact HB.out | apply below_alloc | apply pw_below_drewN | apply below_drew1) | exact HB.out)⟩⟩
                case rest =>
                  clear HC19
                  try clear c1
                  try clear p1
                  try clear q1
                  try clear hx1
                  try clear c2
                  try clear p2
                  try clear c3
                  try clear c3b0
                  try clear c3b1
                  try clear c5
                  try clear p6
                  try clear c9
                  try clear c9b0
                  try clear c9b1
                  try clear c10
                  try clear c10b0
                  try clear c10b1
                  try clear c11
                  try clear c14
                  try clear c14b0
                  try clear p14
                  try clear q14
                  try clear hx14
                  try clear c15
                  try clear c15b0
                  try clear p15
                  try clear q15
                  try clear hx15
                  try clear c19
                  try clear c21
                  try clear c21b0
                  try clear c21b1
                  try clear hx148_0
                  try clear hx150_0
                  try clear hx153_0
                  try clear p148
                  try clear p150
                  try clear p153
                  try clear p2
                  try clear p6
                  try clear q148
                  try clear q150
                  try clear q153
                  obtain ⟨kq, x10_18, x11_18, rfl, rfl, HA, HJ18, HO_6, HO_7, HB⟩ := hcut
                  cases kq with
                  | zero => exact absurd HA.out (by simp [vmfleetlaw4_MemoryKeeps.j1])
                  | succ kj18 =>
                    have H := HA.out
                    clear HA
                    simp only [vmfleetlaw4_MemoryKeeps.j1] at H
                    replace H := Option.bind_eq_some_iff.mp H
                    obtain ⟨⟨t154, t155⟩, A220, H⟩ := H
                    replace H : (if t155 = true then (vmfleetlaw4_MemoryKeeps.l1 kj18 l1 (wrap64 (1 + t141)) t154 x7_1 x8_1 ((Go.bits .and .i64 t149 4294967295) % 4294967296) x10_18 x11_18 0) else (some false)) = some r := H
                    have A22 := Aside0.mk A220
                    clear A220
                    by_cases c23 : t155 = true
                    · subst c23
                      have H1 : (vmfleetlaw4_MemoryKeeps.l1 kj18 l1 (wrap64 (1 + t141)) t154 x7_1 x8_1 ((Go.bits .and .i64 t149 4294967295) % 4294967296) x10_18 x11_18 0) = some r := by rw [if_pos rfl] at H; exact H
                      clear H
                      have H := H1
                      clear H1
                      have H' := Aside0.mk H
                      clear H
                      obtain ⟨Ao24, co24, eo24⟩ := Kd.R_slice HO_6.out
                      subst eo24
                      go_wp2_with (first | ((with_reducible refine gate_callee (f := 14) rfl ?_); refine goesL_ (some 66) rfl rfl Try.func14 (by kernel_rfl) rfl #[.slice Ao24 x6_1.length co24, .int .u32 ((x10_18) % 4294967296), .int .i64 x11_18, .int .u32 ((Go.bits .and .i64 t149 4294967295) % 4294967296)] rfl (by (try simp only [List.map_toArray, List.map_cons, List.map_nil]); first | done | rfl | (simp only [List.length_drop, List.length_take]; rfl)) ?_; (with_reducible refine (memory_Store.calls _ _ x6_1 ((x10_18) % 4294967296) x11_18 ((Go.bits .and .i64 t149 4294967295) % 4294967296) t154 true _ ?side1 ?side2 A22.out).mono ?_); (case side1 => repeat (first | exact (Kd.R_reads' HO_6.out).2.2 | (with_reducible refine Kd.C_alloc ?_ _) | (with_reducible refine Kd.C_drewN ?_ _) | (with_reducible refine Kd.C_drew ?_))); (case side2 => exact (Kd.R_reads' HO_6.out).2.1); rintro e w25 ⟨v156, rfl, ho0, hb⟩; refine ⟨_, rfl, ?_⟩; have n0_ := Aside0.mk (Kd.R_elder' (by (with_reducible repeat (first | apply Kd.R_alloc | apply Kd.R_drewN | apply Kd.R_drew)); exact HO_6.out) (Kd.R_base ho0) hb); have n1_ := Aside0.mk (Kd.R_below (by (with_reducible repeat (first | apply Kd.R_alloc | apply Kd.R_drewN | apply Kd.R_drew)); exact HO_7.out) hb); have n2_ := Aside0.mk (Kd.R_lower (Kd.R_new' ho0 (Kd.R_lt (by (with_reducible repeat (first | apply Kd.R_alloc | apply Kd.R_drewN | apply Kd.R_drew)); exact HO_6.out))) (below_size (by repeat (first | (with_reducible first | exact HB.out | apply below_alloc | apply pw_below_drewN | apply below_drew1) | exact HB.out)))); have n3_ := Aside0.mk (below_step (by repeat (first | (with_reducible first | exact HB.out | apply below_alloc | apply pw_below_drewN | apply below_drew1) | exact HB.out)) hb); clear HO_6; clear HO_7; clear HB; have HO_6 := n0_; have HO_7 := n1_; have HO157 := n2_; have HB := n3_; clear n0_ n1_ n2_ n3_; (try clear hb); (try clear hb2); (try clear hk); (try clear hi); (try clear ho0)))
                      go_loopg [14] kj18 (fun kq v14 w' => ∃ (x7_3 : List Int) (x14_3 : Int), v14 = .int .i64 x14_3 ∧ Aside0 (vmfleetlaw4_MemoryKeeps.l1 kq l1 (wrap64 (1 + t141)) t154 x7_3 x8_1 ((Go.bits .and .i64 t149 4294967295) % 4294967296) x10_18 x11_18 x14_3 = some r) ∧ Aside0 (kq ≤ kj18) ∧ Aside0 (Kd.R (Kd.int .u32) 24 w' w.heap.size (fun _ => True) v156 t154) ∧ Aside0 (Kd.R (Kd.int .u8) 5 w' w.heap.size (fun _ => True) (.slice Ao20 x7_1.length co20) x7_3) ∧ Aside0 (Below w.heap.size w w'))
                      case atStart => exact ⟨(x7_1), (0), (by first | rfl | (simp; done) | (simp [*]; done)), H', ⟨Nat.le_refl _⟩, ⟨by (with_reducible repeat (first | apply Kd.R_alloc | apply Kd.R_drewN | apply Kd.R_drew)); exact Kd.R_mono HO157.out (fun _ hk => trivial)⟩, ⟨by (with_reducible repeat (first | apply Kd.R_alloc | apply Kd.R_drewN | apply Kd.R_drew)); exact HO_7.out⟩, ⟨by repeat (first | (with_reducible first | exact HB.out | apply below_alloc | apply pw_below_drewN | apply below_drew1) | exact HB.out)⟩⟩
                      case round =>
                        clear H'
                        try clear c1
                        try clear p1
                        try clear q1
                        try clear hx1
                        try clear c2
                        try clear p2
                        try clear c3
                        try clear c3b0
                        try clear c3b1
                        try clear c5
                        try clear p6
                        try clear c9
                        try clear c9b0
                        try clear c9b1
                        try clear c10
                        try clear c10b0
                        try clear c10b1
                        try clear c11
                        try clear c14
                        try clear c14b0
                        try clear p14
                        try clear q14
                        try clear hx14
                        try clear c15
                        try clear c15b0
                        try clear p15
                        try clear q15
                        try clear hx15
                        try clear c19
                        try clear c21
                        try clear c21b0
                        try clear c21b1
                        try clear c22
                        try clear c23
                        try clear hx148_0
                        try clear hx150_0
                        try clear hx153_0
                        try clear p1
                        try clear p14
                        try clear p148
                        try clear p15
                        try clear p150
                        try clear p153
                        try clear p2
                        try clear p6
                        try clear q1
                        try clear q14
                        try clear q148
                        try clear q15
                        try clear q150
                        try clear q153
                        obtain ⟨x7_3, x14_3, rfl, HA, HK3, HO_6, HO_7, HB⟩ := hrel
                        have hl7_3 := (Kd.R_reads' HO_7.out).1
                        rw [hl7_3] at HO_7
                        (try simp only [hl7_3])
                        (try simp only [hl7_3] at HO_6)
                        cases gk with
                        | zero => exact absurd HA.out (by simp [vmfleetlaw4_MemoryKeeps.l1])
                        | succ k3 =>
                          have H := HA.out
                          clear HA
                          simp only [vmfleetlaw4_MemoryKeeps.l1] at H
                          by_cases c26 : x14_3 < x11_18
                          · rw [if_pos c26] at H
                            have c26b0 : decide (x14_3 < x11_18) = true := decide_eq_true c26
                            clear c26
                            obtain ⟨ji27, hji27⟩ : ∃ j_ : Int, (IntKind.u64.wrap (wrap64 (8 * x14_3))) = j_ := ⟨_, rfl⟩
                            replace H : (if 0 ≤ (ji27) then (if 0 ≤ (wrap64 (x10_18 + x14_3)) then (if (wrap64 (x10_18 + x14_3)) < (x7_3.length : Int) then (vmfleetlaw4_MemoryKeeps.l1 k3 l1 (wrap64 (1 + t141)) t154 (x7_3.set ((wrap64 (x10_18 + x14_3)) : Int).toNat ((shr .u32 ((Go.bits .and .i64 t149 4294967295) % 4294967296) (ji27)) % 256)) x8_1 ((Go.bits .and .i64 t149 4294967295) % 4294967296) x10_18 x11_18 (wrap64 (x14_3 + 1))) else (none)) else (none)) else (none)) = some r := by first | (rw [hji27] at H; exact H) | (simp only [hji27] at H ⊢; exact H)
                            by_cases c28 : 0 ≤ (ji27)
                            · rw [if_pos c28] at H
                              have c28b0 := eq_true c28
                              have c28b1 : decide (0 ≤ (ji27)) = true := decide_eq_true c28
                              clear c28
                              obtain ⟨ji29, hji29⟩ : ∃ j_ : Int, (shr .u32 ((Go.bits .and .i64 t149 4294967295) % 4294967296) (ji27)) = j_ := ⟨_, rfl⟩
                              replace H : (if 0 ≤ (wrap64 (x10_18 + x14_3)) then (if (wrap64 (x10_18 + x14_3)) < (x7_3.length : Int) then (vmfleetlaw4_MemoryKeeps.l1 k3 l1 (wrap64 (1 + t141)) t154 (x7_3.set ((wrap64 (x10_18 + x14_3)) : Int).toNat ((ji29) % 256)) x8_1 ((Go.bits .and .i64 t149 4294967295) % 4294967296) x10_18 x11_18 (wrap64 (x14_3 + 1))) else (none)) else (none)) = some r := by first | (rw [hji29] at H; exact H) | (simp only [hji29] at H ⊢; exact H)
                              have hji29_ : (((Go.bits .and .i64 t149 4294967295) % 4294967296) / 2 ^ min (ji27).toNat 32) = ji29 := hji29
                              have hji29z : (ji27) ≤ 32 → (((Go.bits .and .i64 t149 4294967295) % 4294967296) / 2 ^ (ji27).toNat) = ji29 := shr_small hji29
                              obtain ⟨ji30, hji30⟩ : ∃ j_ : Int, (wrap64 (x10_18 + x14_3)) = j_ := ⟨_, rfl⟩
                              replace H : (if 0 ≤ (ji30) then (if (ji30) < (x7_3.length : Int) then (vmfleetlaw4_MemoryKeeps.l1 k3 l1 (wrap64 (1 + t141)) t154 (x7_3.set ((ji30) : Int).toNat ((ji29) % 256)) x8_1 ((Go.bits .and .i64 t149 4294967295) % 4294967296) x10_18 x11_18 (wrap64 (x14_3 + 1))) else (none)) else (none)) = some r := by first | (rw [hji30] at H; exact H) | (simp only [hji30] at H ⊢; exact H)
                              have hji30w : (IntKind.i64.wrap (x10_18 + x14_3)) = ji30 := (i64_w _).trans hji30
                              by_cases c31 : 0 ≤ (ji30)
                              · rw [if_pos c31] at H
                                have c31b0 : decide (0 ≤ (ji30)) = true := decide_eq_true c31
                                clear c31
                                by_cases c32 : (ji30) < (x7_3.length : Int)
                                · rw [if_pos c32] at H
                                  have c32b0 : decide ((ji30) < (x7_3.length : Int)) = true := decide_eq_true c32
                                  clear c32
                                  obtain ⟨y158, hy158⟩ : ∃ y_ : List Int, y_ = (x7_3.set ((ji30) : Int).toNat ((ji29) % 256)) := ⟨_, rfl⟩
                                  replace H : (vmfleetlaw4_MemoryKeeps.l1 k3 l1 (wrap64 (1 + t141)) t154 y158 x8_1 ((Go.bits .and .i64 t149 4294967295) % 4294967296) x10_18 x11_18 (wrap64 (x14_3 + 1))) = some r := by first | (rw [hy158]; with_reducible exact H) | (have H2_ := (Option.bind_some _ _).symm.trans H; rw [hy158]; with_reducible exact H2_) | (have H2_ := (Option.bind_some _ _).symm.trans H; with_reducible exact H2_) | with_reducible exact H | (rw [hy158]; exact H) | exact H
                                  have Ny158 := Aside0.mk hy158
                                  clear hy158
                                  have H' := Aside0.mk H
                                  clear H
                                  have p33 : 0 ≤ ((ji30) : Int) := of_decide_eq_true (by first | (with_reducible assumption) | assumption)
                                  have q33 : ((ji30) : Int) < ((x7_3.length : Int) : Int) := of_decide_eq_true (by first | (with_reducible assumption) | assumption)
                                  obtain ⟨go33, co33, eo33, gb33, gl33, cl33, HG33⟩ := Kd.R_form HO_7.out (by omega)
                                  (first | cases eo33 | (injection eo33 with ea_ en_ ec_; (first | subst ea_ | (injection ea_ with ea_; subst ea_)); subst ec_; clear en_))
                                  have GB33 := Aside0.mk gb33
                                  have GG33 := Aside0.mk HG33
                                  clear gb33 gl33 HG33
                                  obtain ⟨hx33_0, hf33_0⟩ := Kd.R_celln 0 HO_7.out ((ji30) : Int) p33 q33
                                  replace p33 := eq_true p33
                                  replace q33 := eq_true q33
                                  have HP34 := Kd.R_putg HO_7.out ((ji30) : Int) ((ji29) % 256)
                                  go_wp2_with (first | ((with_reducible refine gate_store (t := 5) (p := 87) rfl ?_); refine store_event (t := 5) (p := 87) (v := ?vo_w35) (w1 := (wr.setCell ⟨go33, ((ji30) : Int).toNat, none⟩ (.int .u8 ((ji29) % 256)))) ?hg ?ho ?hn ?hr ?_; (case ho => rfl); (case hg => rfl); (case hn => rfl); (case hr => first | (go_simp; done) | (go_simp; rfl)); intro w35 hw; have hg : wr.grownBy w35 (some go33) := (by rw [hw]; exact HP34.2); have hp_ : Kd.R (Kd.int .u8) 5 w35 w.heap.size (fun _ => True) (.slice (some ⟨go33, 0, none⟩) x7_3.length co20) y158 := (by rw [hw, Ny158.out]; exact HP34.1); clear HP34; have n0_ := Aside0.mk (Kd.R_over' (v := (.slice (some ⟨go33, 0, none⟩) x7_3.length co20)) (by (with_reducible repeat (first | apply Kd.R_alloc | apply Kd.R_drewN | apply Kd.R_drew)); exact HO_6.out) (Kd.R_typed HO_7.out) (by decide) hg); have n1_ := Aside0.mk (hp_); have n2_ := Aside0.mk ((by rw [hw]; exact below_set (HB.out) GB33.out : Below w.heap.size w w35)); clear HO_6; clear HO_7; clear HB; have HO_6 := n0_; have HO_7 := n1_; have HB := n2_; clear n0_ n1_ n2_; clear hg hw hp_))
                                  (try simp only [← hl7_3])
                                  go_roundg k3
                                  case measure => have := HK1.out; have := HJ18.out; have := HK3.out; omega
                                  case rel => exact ⟨(y158), (wrap64 (x14_3 + 1)), (by first | rfl | (simp; done) | (simp [*]; done)), H', ⟨by have := HK1.out; have := HJ18.out; have := HK3.out; omega⟩, ⟨by (try simp only [hl7_3]); (with_reducible repeat (first | apply Kd.R_alloc | apply Kd.R_drewN | apply Kd.R_drew)); exact HO_6.out⟩, ⟨by (try simp only [hl7_3]); (with_reducible repeat (first | apply Kd.R_alloc | apply Kd.R_drewN | apply Kd.R_drew)); exact HO_7.out⟩, ⟨by repeat (first | (with_reducible first | exact HB.out | apply below_alloc | apply pw_below_drewN | apply below_drew1) | exact HB.out)⟩⟩
                                · rw [if_neg c32] at H
                                  exact absurd H (by simp)
                              · rw [if_neg c31] at H
                                exact absurd H (by simp)
                            · rw [if_neg c28] at H
                              exact absurd H (by simp)
                          · rw [if_neg c26] at H
                            have c26b0 : decide (x14_3 < x11_18) = false := decide_eq_false c26
                            clear c26
                            have H' := Aside0.mk H
                            clear H
                            go_wp2
                            (try simp only [← hl7_3])
                            go_roundg k3
                            case measure => have := HK1.out; have := HJ18.out; have := HK3.out; omega
                            case rel => exact ⟨(t154), (x7_3), (wrap64 (x8_1 + 1)), (by first | rfl | (simp; done) | (simp [*]; done)), H', ⟨by have := HK1.out; have := HJ18.out; have := HK3.out; omega⟩, ⟨by (try simp only [hl7_3]); (with_reducible repeat (first | apply Kd.R_alloc | apply Kd.R_drewN | apply Kd.R_drew)); exact HO_6.out⟩, ⟨by (try simp only [hl7_3]); (with_reducible repeat (first | apply Kd.R_alloc | apply Kd.R_drewN | apply Kd.R_drew)); exact HO_7.out⟩, ⟨by repeat (first | (with_reducible first | exact HB.out | apply below_alloc | apply pw_below_drewN | apply below_drew1) | exact HB.out)⟩⟩
                    · replace c23 := Bool.eq_false_iff.mpr c23
                      subst c23
                      have H1 : (some false) = some r := by rw [if_neg (show ¬ (false = true) by decide)] at H; exact H
                      clear H
                      have H := H1
                      clear H1
                      obtain rfl := Option.some.inj H
                      obtain ⟨Ao36, co36, eo36⟩ := Kd.R_slice HO_6.out
                      subst eo36
                      go_wp2_with (first | ((with_reducible refine gate_callee (f := 14) rfl ?_); refine goesL_ (some 66) rfl rfl Try.func14 (by kernel_rfl) rfl #[.slice Ao36 x6_1.length co36, .int .u32 ((x10_18) % 4294967296), .int .i64 x11_18, .int .u32 ((Go.bits .and .i64 t149 4294967295) % 4294967296)] rfl (by (try simp only [List.map_toArray, List.map_cons, List.map_nil]); first | done | rfl | (simp only [List.length_drop, List.length_take]; rfl)) ?_; (with_reducible refine (memory_Store.calls _ _ x6_1 ((x10_18) % 4294967296) x11_18 ((Go.bits .and .i64 t149 4294967295) % 4294967296) t154 false _ ?side1 ?side2 A22.out).mono ?_); (case side1 => repeat (first | exact (Kd.R_reads' HO_6.out).2.2 | (with_reducible refine Kd.C_alloc ?_ _) | (with_reducible refine Kd.C_drewN ?_ _) | (with_reducible refine Kd.C_drew ?_))); (case side2 => exact (Kd.R_reads' HO_6.out).2.1); rintro e w37 ⟨v156, rfl, ho0, hb⟩; refine ⟨_, rfl, ?_⟩; have n0_ := Aside0.mk (Kd.R_elder' (by (with_reducible repeat (first | apply Kd.R_alloc | apply Kd.R_drewN | apply Kd.R_drew)); exact HO_6.out) (Kd.R_base ho0) hb); have n1_ := Aside0.mk (Kd.R_below (by (with_reducible repeat (first | apply Kd.R_alloc | apply Kd.R_drewN | apply Kd.R_drew)); exact HO_7.out) hb); have n2_ := Aside0.mk (Kd.R_lower (Kd.R_new' ho0 (Kd.R_lt (by (with_reducible repeat (first | apply Kd.R_alloc | apply Kd.R_drewN | apply Kd.R_drew)); exact HO_6.out))) (below_size (by repeat (first | (with_reducible first | exact HB.out | apply below_alloc | apply pw_below_drewN | apply below_drew1) | exact HB.out)))); have n3_ := Aside0.mk (below_step (by repeat (first | (with_reducible first | exact HB.out | apply below_alloc | apply pw_below_drewN | apply below_drew1) | exact HB.out)) hb); clear HO_6; clear HO_7; clear HB; have HO_6 := n0_; have HO_7 := n1_; have HO157 := n2_; have HB := n3_; clear n0_ n1_ n2_ n3_; (try clear hb); (try clear hb2); (try clear hk); (try clear hi); (try clear ho0)))
                      go_ret
                      exact ⟨by first | rfl | (simp [errW_none, errW_some] <;> rfl) | (simp only [← hji8]; first | rfl | (simp [errW_none, errW_some] <;> rfl)) | (simp [*, errW_none, errW_some] <;> rfl), by repeat (first | (with_reducible first | exact HB.out | apply below_alloc | apply pw_below_drewN | apply below_drew1) | exact HB.out)⟩
              · rw [if_neg c15] at H
                exact absurd H (by simp)
            · rw [if_neg c14] at H
              have c14b0 : decide (x8_1 < (l1.length : Int)) = false := decide_eq_false c14
              clear c14
              have H' := Aside0.mk H
              clear H
              go_wp2
              go_loopg [15] k1 (fun kq v15 w' => ∃ (x15_2 : Int), v15 = .int .i64 x15_2 ∧ Aside0 (vmfleetlaw4_MemoryKeeps.l2 kq (wrap64 (1 + t141)) x6_1 x7_1 x15_2 = some r) ∧ Aside0 (kq ≤ k1) ∧ Aside0 (Kd.R (Kd.int .u32) 24 w' w.heap.size (fun _ => True) u6 x6_1) ∧ Aside0 (Kd.R (Kd.int .u8) 5 w' w.heap.size (fun _ => True) v146 x7_1) ∧ Aside0 (Below w.heap.size w w'))
              case atStart => exact ⟨(0), (by first | rfl | (simp; done) | (simp [*]; done)), H', ⟨Nat.le_refl _⟩, ⟨by (with_reducible repeat (first | apply Kd.R_alloc | apply Kd.R_drewN | apply Kd.R_drew)); exact HO_6.out⟩, ⟨by (with_reducible repeat (first | apply Kd.R_alloc | apply Kd.R_drewN | apply Kd.R_drew)); exact HO_7.out⟩, ⟨by repeat (first | (with_reducible first | exact HB.out | apply below_alloc | apply pw_below_drewN | apply below_drew1) | exact HB.out)⟩⟩
              case round =>
                clear H'
                try clear c1
                try clear p1
                try clear q1
                try clear hx1
                try clear c2
                try clear p2
                try clear c3
                try clear c3b0
                try clear c3b1
                try clear p3
                try clear q3
                try clear hx3
                try clear hf3
                try clear c5
                try clear p6
                try clear c9
                try clear c9b0
                try clear c9b1
                try clear c10
                try clear c10b0
                try clear c10b1
                try clear c11
                try clear c14
                try clear c14b0
                try clear p14
                try clear q14
                try clear hx14
                try clear c15
                try clear c15b0
                try clear p15
                try clear q15
                try clear hx15
                try clear c19
                try clear c21
                try clear c21b0
                try clear c21b1
                try clear c22
                try clear c23
                try clear c26
                try clear c26b0
                try clear c28
                try clear c28b0
                try clear c28b1
                try clear c31
                try clear c31b0
                try clear c32
                try clear c32b0
                try clear p33
                try clear q33
                try clear hx33
                try clear hf33
                try clear hx148_0
                try clear hx150_0
                try clear hx153_0
                try clear hx33_0
                try clear p1
                try clear p14
                try clear p148
                try clear p15
                try clear p150
                try clear p153
                try clear p2
                try clear p33
                try clear p6
                try clear q1
                try clear q14
                try clear q148
                try clear q15
                try clear q150
                try clear q153
                try clear q33
                obtain ⟨x15_2, rfl, HA, HK2, HO_6, HO_7, HB⟩ := hrel
                cases gk with
                | zero => exact absurd HA.out (by simp [vmfleetlaw4_MemoryKeeps.l2])
                | succ k2 =>
                  have H := HA.out
                  clear HA
                  simp only [vmfleetlaw4_MemoryKeeps.l2] at H
                  by_cases c38 : x15_2 < (wrap64 (1 + t141))
                  · rw [if_pos c38] at H
                    have c38b0 : decide (x15_2 < (wrap64 (1 + t141))) = true := decide_eq_true c38
                    clear c38
                    replace H := Option.bind_eq_some_iff.mp H
                    obtain ⟨⟨t159, t160⟩, A390, H⟩ := H
                    replace H : (if t160 = true then (if 0 ≤ (wrap64 (x15_2 * 128)) then (if (wrap64 (x15_2 * 128)) ≤ (wrap64 ((wrap64 (x15_2 + 1)) * 128)) then (if (wrap64 ((wrap64 (x15_2 + 1)) * 128)) ≤ (x7_1.length : Int) then (if t159.toList = (strOfNums ((x7_1.take ((wrap64 ((wrap64 (x15_2 + 1)) * 128)) : Int).toNat).drop ((wrap64 (x15_2 * 128)) : Int).toNat)).toList then (vmfleetlaw4_MemoryKeeps.l2 k2 (wrap64 (1 + t141)) x6_1 x7_1 (wrap64 (x15_2 + 1))) else (some false)) else (none)) else (none)) else (none)) else (some false)) = some r := H
                    have A39 := Aside0.mk A390
                    clear A390
                    by_cases c40 : t160 = true
                    · subst c40
                      have H1 : (if 0 ≤ (wrap64 (x15_2 * 128)) then (if (wrap64 (x15_2 * 128)) ≤ (wrap64 ((wrap64 (x15_2 + 1)) * 128)) then (if (wrap64 ((wrap64 (x15_2 + 1)) * 128)) ≤ (x7_1.length : Int) then (if t159.toList = (strOfNums ((x7_1.take ((wrap64 ((wrap64 (x15_2 + 1)) * 128)) : Int).toNat).drop ((wrap64 (x15_2 * 128)) : Int).toNat)).toList then (vmfleetlaw4_MemoryKeeps.l2 k2 (wrap64 (1 + t141)) x6_1 x7_1 (wrap64 (x15_2 + 1))) else (some false)) else (none)) else (none)) else (none)) = some r := by rw [if_pos rfl] at H; exact H
                      clear H
                      have H := H1
                      clear H1
                      obtain ⟨ji41, hji41⟩ : ∃ j_ : Int, (wrap64 (x15_2 * 128)) = j_ := ⟨_, rfl⟩
                      replace H : (if 0 ≤ (ji41) then (if (ji41) ≤ (wrap64 ((wrap64 (x15_2 + 1)) * 128)) then (if (wrap64 ((wrap64 (x15_2 + 1)) * 128)) ≤ (x7_1.length : Int) then (if t159.toList = (strOfNums ((x7_1.take ((wrap64 ((wrap64 (x15_2 + 1)) * 128)) : Int).toNat).drop ((ji41) : Int).toNat)).toList then (vmfleetlaw4_MemoryKeeps.l2 k2 (wrap64 (1 + t141)) x6_1 x7_1 (wrap64 (x15_2 + 1))) else (some false)) else (none)) else (none)) else (none)) = some r := by first | (rw [hji41] at H; exact H) | (simp only [hji41] at H ⊢; exact H)
                      (try rw [hji41] at A39)
                      have hji41w : (IntKind.i64.wrap (x15_2 * 128)) = ji41 := (i64_w _).trans hji41
                      by_cases c42 : 0 ≤ (ji41)
                      · rw [if_pos c42] at H
                        have c42b0 := eq_true c42
                        have c42b1 : decide (0 ≤ (ji41)) = true := decide_eq_true c42
                        clear c42
                        by_cases c43 : (ji41) ≤ (wrap64 ((wrap64 (x15_2 + 1)) * 128))
                        · rw [if_pos c43] at H
                          have c43b0 := eq_true c43
                          have c43b1 : decide ((ji41) ≤ (wrap64 ((wrap64 (x15_2 + 1)) * 128))) = true := decide_eq_true c43
                          by_cases c44 : (wrap64 ((wrap64 (x15_2 + 1)) * 128)) ≤ (x7_1.length : Int)
                          · rw [if_pos c44] at H
                            have c44b0 := eq_true c44
                            have c44b1 : decide ((wrap64 ((wrap64 (x15_2 + 1)) * 128)) ≤ (x7_1.length : Int)) = true := decide_eq_true c44
                            obtain ⟨y161, hy161⟩ : ∃ y_ : List Int, y_ = ((x7_1.take ((wrap64 ((wrap64 (x15_2 + 1)) * 128)) : Int).toNat).drop ((ji41) : Int).toNat) := ⟨_, rfl⟩
                            replace H : (if t159.toList = (strOfNums y161).toList then (vmfleetlaw4_MemoryKeeps.l2 k2 (wrap64 (1 + t141)) x6_1 x7_1 (wrap64 (x15_2 + 1))) else (some false)) = some r := by first | (rw [hy161]; with_reducible exact H) | (have H2_ := (Option.bind_some _ _).symm.trans H; rw [hy161]; with_reducible exact H2_) | (have H2_ := (Option.bind_some _ _).symm.trans H; with_reducible exact H2_) | with_reducible exact H | (rw [hy161]; exact H) | exact H
                            have Ny161 := Aside0.mk hy161
                            clear hy161
                            by_cases c45 : t159.toList = (strOfNums y161).toList
                            · rw [if_pos c45] at H
                              have c45b0 : (t159.toList == (strOfNums y161).toList) = true := beq_iff_eq.mpr c45
                              have c45b1 : (t159.toList != (strOfNums y161).toList) = false := bne_eq_false_iff_eq.mpr c45
                              clear c45
                              have H' := Aside0.mk H
                              clear H
                              obtain ⟨Ao46, co46, eo46⟩ := Kd.R_slice HO_6.out
                              subst eo46
                              go_wp2_with (first | ((with_reducible refine gate_callee (f := 23) rfl ?_); refine goesL_ (some 96) rfl rfl Try.func23 (by kernel_rfl) rfl #[.slice Ao46 x6_1.length co46, .int .i64 x15_2] rfl (by (try simp only [List.map_toArray, List.map_cons, List.map_nil]); first | done | rfl | (simp only [List.length_drop, List.length_take]; rfl)) ?_; (with_reducible refine (memory_Page.calls _ _ x6_1 x15_2 t159 true _ ?side1 ?side2 A39.out).mono ?_); (case side1 => repeat (first | exact (Kd.R_reads' HO_6.out).2.2 | (with_reducible refine Kd.C_alloc ?_ _) | (with_reducible refine Kd.C_drewN ?_ _) | (with_reducible refine Kd.C_drew ?_))); (case side2 => exact (Kd.R_reads' HO_6.out).2.1); rintro e w47 ⟨rfl, hb⟩; refine ⟨_, rfl, ?_⟩; have n0_ := Aside0.mk (Kd.R_below (by (with_reducible repeat (first | apply Kd.R_alloc | apply Kd.R_drewN | apply Kd.R_drew)); exact HO_6.out) hb); have n1_ := Aside0.mk (Kd.R_below (by (with_reducible repeat (first | apply Kd.R_alloc | apply Kd.R_drewN | apply Kd.R_drew)); exact HO_7.out) hb); have n2_ := Aside0.mk (below_step (by repeat (first | (with_reducible first | exact HB.out | apply below_alloc | apply pw_below_drewN | apply below_drew1) | exact HB.out)) hb); clear HO_6; clear HO_7; clear HB; have HO_6 := n0_; have HO_7 := n1_; have HB := n2_; clear n0_ n1_ n2_; (try clear hb); (try clear hb2); (try clear hk); (try clear hi); obtain ⟨Ao49, co49, eo49⟩ := Kd.R_slice HO_7.out; subst eo49; have q48 : ((wrap64 ((wrap64 (x15_2 + 1)) * 128)) : Int) ≤ ((x7_1.length : Int) : Int) := of_decide_eq_true (by first | (with_reducible assumption) | assumption); obtain ⟨i048, hi048, _, hsz48, _⟩ := info_parts info5; have hroom48 : x7_1.length ≤ co49 := (Kd.R_reads' HO_7.out).2.1; have hC48 : Kd.C (Kd.int .u8) _ Ao49 x7_1.length x7_1 := (Kd.R_reads' HO_7.out).2.2; have ql48 : ((ji41) : Int) ≤ ((wrap64 ((wrap64 (x15_2 + 1)) * 128)) : Int) := of_decide_eq_true (by first | (with_reducible assumption) | assumption); have q048 : (0 : Int) ≤ ((ji41) : Int) := of_decide_eq_true (by first | (with_reducible assumption) | assumption); have hcut48 := cut_mid (P := Try.prog) 37 5 .i64 .i64 Try.underlying37 hi048 1 hsz48 Ao49 x7_1.length co49 (ji41) (wrap64 ((wrap64 (x15_2 + 1)) * 128)) q048 ql48 q48 hroom48; have hr48 := Kd.C_mid (lo := ((ji41) : Int).toNat) (hi := ((wrap64 ((wrap64 (x15_2 + 1)) * 128)) : Int).toNat) (c := co49) hC48 (by omega) (by omega) hroom48; obtain ⟨A48, hA48⟩ : ∃ A1, A1 = (if co49 = ((ji41) : Int).toNat then Ao49 else (Ao49 : Option Addr).map (·.add (((ji41) : Int).toNat * 1))) := ⟨_, rfl⟩; obtain ⟨c48, hc48⟩ : ∃ c1, c1 = co49 - ((ji41) : Int).toNat := ⟨_, rfl⟩; have hy48 : y161.length = ((wrap64 ((wrap64 (x15_2 + 1)) * 128)) : Int).toNat - ((ji41) : Int).toNat := (by rw [Ny161.out, List.length_drop, List.length_take] <;> omega); rw [show ((x7_1).take ((wrap64 ((wrap64 (x15_2 + 1)) * 128)) : Int).toNat).drop ((ji41) : Int).toNat = y161 from Ny161.out.symm] at hr48; replace hr48 : Kd.C (Kd.int .u8) _ A48 y161.length y161 := (by rw [hA48]; exact hr48); rw [← hy48, ← hA48, ← hc48] at hcut48; have HR164 := Aside0.mk hr48; have HC164 := Aside0.mk (show y161.length ≤ c48 from by rw [hy48, hc48]; exact Nat.sub_le_sub_right (Nat.le_trans (by omega) hroom48) _); clear hr48 hC48 hroom48 hi048 hsz48 hc48; have KY48 := Aside0.mk hy48; have KA48 := Aside0.mk hA48; clear hy48 hA48; have KL48 := Aside0.mk (show ((wrap64 ((wrap64 (x15_2 + 1)) * 128)) : Int).toNat ≤ x7_1.length from by omega); have KM48 := Aside0.mk (show ((ji41) : Int).toNat ≤ ((wrap64 ((wrap64 (x15_2 + 1)) * 128)) : Int).toNat from by omega); replace q48 := eq_true q48; have hcv50 := Kd.C_string (P := Try.prog) (A := A48) (c := c48) Try.underlying37 Try.underlying5 Try.underlying9 (by repeat (first | (with_reducible exact HR164.out) | (with_reducible refine Kd.C_alloc ?_ _) | (with_reducible refine Kd.C_drewN ?_ _) | (with_reducible refine Kd.C_drew ?_) | exact HR164.out))))
                              go_roundg k2
                              case measure => have := HK1.out; have := HK2.out; omega
                              case rel => exact ⟨(wrap64 (x15_2 + 1)), (by first | rfl | (simp; done) | (simp [*]; done)), H', ⟨by have := HK1.out; have := HK2.out; omega⟩, ⟨by (with_reducible repeat (first | apply Kd.R_alloc | apply Kd.R_drewN | apply Kd.R_drew)); exact HO_6.out⟩, ⟨by (with_reducible repeat (first | apply Kd.R_alloc | apply Kd.R_drewN | apply Kd.R_drew)); exact HO_7.out⟩, ⟨by repeat (first | (with_reducible first | exact HB.out | apply below_alloc | apply pw_below_drewN | apply below_drew1) | exact HB.out)⟩⟩
                            · rw [if_neg c45] at H
                              have c45b0 : (t159.toList == (strOfNums y161).toList) = false := beq_eq_false_iff_ne.mpr c45
                              have c45b1 : (t159.toList != (strOfNums y161).toList) = true := bne_iff_ne.mpr c45
                              obtain rfl := Option.some.inj H
                              obtain ⟨Ao51, co51, eo51⟩ := Kd.R_slice HO_6.out
                              subst eo51
                              go_wp2_with (first | ((with_reducible refine gate_callee (f := 23) rfl ?_); refine goesL_ (some 96) rfl rfl Try.func23 (by kernel_rfl) rfl #[.slice Ao51 x6_1.length co51, .int .i64 x15_2] rfl (by (try simp only [List.map_toArray, List.map_cons, List.map_nil]); first | done | rfl | (simp only [List.length_drop, List.length_take]; rfl)) ?_; (with_reducible refine (memory_Page.calls _ _ x6_1 x15_2 t159 true _ ?side1 ?side2 A39.out).mono ?_); (case side1 => repeat (first | exact (Kd.R_reads' HO_6.out).2.2 | (with_reducible refine Kd.C_alloc ?_ _) | (with_reducible refine Kd.C_drewN ?_ _) | (with_reducible refine Kd.C_drew ?_))); (case side2 => exact (Kd.R_reads' HO_6.out).2.1); rintro e w52 ⟨rfl, hb⟩; refine ⟨_, rfl, ?_⟩; have n0_ := Aside0.mk (Kd.R_below (by (with_reducible repeat (first | apply Kd.R_alloc | apply Kd.R_drewN | apply Kd.R_drew)); exact HO_6.out) hb); have n1_ := Aside0.mk (Kd.R_below (by (with_reducible repeat (first | apply Kd.R_alloc | apply Kd.R_drewN | apply Kd.R_drew)); exact HO_7.out) hb); have n2_ := Aside0.mk (below_step (by repeat (first | (with_reducible first | exact HB.out | apply below_alloc | apply pw_below_drewN | apply below_drew1) | exact HB.out)) hb); clear HO_6; clear HO_7; clear HB; have HO_6 := n0_; have HO_7 := n1_; have HB := n2_; clear n0_ n1_ n2_; (try clear hb); (try clear hb2); (try clear hk); (try clear hi); obtain ⟨Ao54, co54, eo54⟩ := Kd.R_slice HO_7.out; subst eo54; have q53 : ((wrap64 ((wrap64 (x15_2 + 1)) * 128)) : Int) ≤ ((x7_1.length : Int) : Int) := of_decide_eq_true (by first | (with_reducible assumption) | assumption); obtain ⟨i053, hi053, _, hsz53, _⟩ := info_parts info5; have hroom53 : x7_1.length ≤ co54 := (Kd.R_reads' HO_7.out).2.1; have hC53 : Kd.C (Kd.int .u8) _ Ao54 x7_1.length x7_1 := (Kd.R_reads' HO_7.out).2.2; have ql53 : ((ji41) : Int) ≤ ((wrap64 ((wrap64 (x15_2 + 1)) * 128)) : Int) := of_decide_eq_true (by first | (with_reducible assumption) | assumption); have q053 : (0 : Int) ≤ ((ji41) : Int) := of_decide_eq_true (by first | (with_reducible assumption) | assumption); have hcut53 := cut_mid (P := Try.prog) 37 5 .i64 .i64 Try.underlying37 hi053 1 hsz53 Ao54 x7_1.length co54 (ji41) (wrap64 ((wrap64 (x15_2 + 1)) * 128)) q053 ql53 q53 hroom53; have hr53 := Kd.C_mid (lo := ((ji41) : Int).toNat) (hi := ((wrap64 ((wrap64 (x15_2 + 1)) * 128)) : Int).toNat) (c := co54) hC53 (by omega) (by omega) hroom53; obtain ⟨A53, hA53⟩ : ∃ A1, A1 = (if co54 = ((ji41) : Int).toNat then Ao54 else (Ao54 : Option Addr).map (·.add (((ji41) : Int).toNat * 1))) := ⟨_, rfl⟩; obtain ⟨c53, hc53⟩ : ∃ c1, c1 = co54 - ((ji41) : Int).toNat := ⟨_, rfl⟩; have hy53 : y161.length = ((wrap64 ((wrap64 (x15_2 + 1)) * 128)) : Int).toNat - ((ji41) : Int).toNat := (by rw [Ny161.out, List.length_drop, List.length_take] <;> omega); rw [show ((x7_1).take ((wrap64 ((wrap64 (x15_2 + 1)) * 128)) : Int).toNat).drop ((ji41) : Int).toNat = y161 from Ny161.out.symm] at hr53; replace hr53 : Kd.C (Kd.int .u8) _ A53 y161.length y161 := (by rw [hA53]; exact hr53); rw [← hy53, ← hA53, ← hc53] at hcut53; have HR164 := Aside0.mk hr53; have HC164 := Aside0.mk (show y161.length ≤ c53 from by rw [hy53, hc53]; exact Nat.sub_le_sub_right (Nat.le_trans (by omega) hroom53) _); clear hr53 hC53 hroom53 hi053 hsz53 hc53; have KY53 := Aside0.mk hy53; have KA53 := Aside0.mk hA53; clear hy53 hA53; have KL53 := Aside0.mk (show ((wrap64 ((wrap64 (x15_2 + 1)) * 128)) : Int).toNat ≤ x7_1.length from by omega); have KM53 := Aside0.mk (show ((ji41) : Int).toNat ≤ ((wrap64 ((wrap64 (x15_2 + 1)) * 128)) : Int).toNat from by omega); replace q53 := eq_true q53; have hcv55 := Kd.C_string (P := Try.prog) (A := A53) (c := c53) Try.underlying37 Try.underlying5 Try.underlying9 (by repeat (first | (with_reducible exact HR164.out) | (with_reducible refine Kd.C_alloc ?_ _) | (with_reducible refine Kd.C_drewN ?_ _) | (with_reducible refine Kd.C_drew ?_) | exact HR164.out))))
                              go_ret
                              exact ⟨by first | rfl | (simp [errW_none, errW_some] <;> rfl) | (simp only [← hji8, ← hji41]; first | rfl | (simp [errW_none, errW_some] <;> rfl)) | (simp [*, errW_none, errW_some] <;> rfl), by repeat (first | (with_reducible first | exact HB.out | apply below_alloc | apply pw_below_drewN | apply below_drew1) | exact HB.out)⟩
                          · rw [if_neg c44] at H
                            exact absurd H (by simp)
                        · rw [if_neg c43] at H
                          exact absurd H (by simp)
                      · rw [if_neg c42] at H
                        exact absurd H (by simp)
                    · replace c40 := Bool.eq_false_iff.mpr c40
                      subst c40
                      have H1 : (some false) = some r := by rw [if_neg (show ¬ (false = true) by decide)] at H; exact H
                      clear H
                      have H := H1
                      clear H1
                      obtain rfl := Option.some.inj H
                      obtain ⟨Ao56, co56, eo56⟩ := Kd.R_slice HO_6.out
                      subst eo56
                      go_wp2_with (first | ((with_reducible refine gate_callee (f := 23) rfl ?_); refine goesL_ (some 96) rfl rfl Try.func23 (by kernel_rfl) rfl #[.slice Ao56 x6_1.length co56, .int .i64 x15_2] rfl (by (try simp only [List.map_toArray, List.map_cons, List.map_nil]); first | done | rfl | (simp only [List.length_drop, List.length_take]; rfl)) ?_; (with_reducible refine (memory_Page.calls _ _ x6_1 x15_2 t159 false _ ?side1 ?side2 A39.out).mono ?_); (case side1 => repeat (first | exact (Kd.R_reads' HO_6.out).2.2 | (with_reducible refine Kd.C_alloc ?_ _) | (with_reducible refine Kd.C_drewN ?_ _) | (with_reducible refine Kd.C_drew ?_))); (case side2 => exact (Kd.R_reads' HO_6.out).2.1); rintro e w57 ⟨rfl, hb⟩; refine ⟨_, rfl, ?_⟩; have n0_ := Aside0.mk (Kd.R_below (by (with_reducible repeat (first | apply Kd.R_alloc | apply Kd.R_drewN | apply Kd.R_drew)); exact HO_6.out) hb); have n1_ := Aside0.mk (Kd.R_below (by (with_reducible repeat (first | apply Kd.R_alloc | apply Kd.R_drewN | apply Kd.R_drew)); exact HO_7.out) hb); have n2_ := Aside0.mk (below_step (by repeat (first | (with_reducible first | exact HB.out | apply below_alloc | apply pw_below_drewN | apply below_drew1) | exact HB.out)) hb); clear HO_6; clear HO_7; clear HB; have HO_6 := n0_; have HO_7 := n1_; have HB := n2_; clear n0_ n1_ n2_; (try clear hb); (try clear hb2); (try clear hk); (try clear hi)))
                      go_ret
                      exact ⟨by first | rfl | (simp [errW_none, errW_some] <;> rfl) | (simp only [← hji8]; first | rfl | (simp [errW_none, errW_some] <;> rfl)) | (simp [*, errW_none, errW_some] <;> rfl), by repeat (first | (with_reducible first | exact HB.out | apply below_alloc | apply pw_below_drewN | apply below_drew1) | exact HB.out)⟩
                  · rw [if_neg c38] at H
                    have c38b0 : decide (x15_2 < (wrap64 (1 + t141))) = false := decide_eq_false c38
                    clear c38
                    replace H := Option.bind_eq_some_iff.mp H
                    obtain ⟨t165, A580, H⟩ := H
                    replace H : (if t165 = (wrap64 (1 + t141)) then ((vmfleetlaw4_awake.f).bind fun t166 => (some t166)) else (some false)) = some r := H
                    have A58 := Aside0.mk A580
                    clear A580
                    by_cases c59 : t165 = (wrap64 (1 + t141))
                    · rw [if_pos c59] at H
                      have c59b0 : (t165 == (wrap64 (1 + t141))) = true := beq_iff_eq.mpr c59
                      have c59b1 : (t165 != (wrap64 (1 + t141))) = false := bne_eq_false_iff_eq.mpr c59
                      clear c59
                      replace H := Option.bind_eq_some_iff.mp H
                      obtain ⟨t166, A600, H⟩ := H
                      replace H : (some t166) = some r := H
                      have A60 := Aside0.mk A600
                      clear A600
                      obtain rfl := Option.some.inj H
                      obtain ⟨Ao61, co61, eo61⟩ := Kd.R_slice HO_6.out
                      subst eo61
                      go_wp2_with (first | ((with_reducible refine gate_callee (f := 17) rfl ?_); refine goesL_ (some 114) rfl rfl Try.func17 (by kernel_rfl) rfl #[.slice Ao61 x6_1.length co61] rfl (by (try simp only [List.map_toArray, List.map_cons, List.map_nil]); first | done | rfl | (simp only [List.length_drop, List.length_take]; rfl)) ?_; (with_reducible refine (memory_Pages.calls _ _ x6_1 t165 _ ?side1 ?side2 A58.out).mono ?_); (case side1 => repeat (first | exact (Kd.R_reads' HO_6.out).2.2 | (with_reducible refine Kd.C_alloc ?_ _) | (with_reducible refine Kd.C_drewN ?_ _) | (with_reducible refine Kd.C_drew ?_))); (case side2 => exact (Kd.R_reads' HO_6.out).2.1); rintro e w' ⟨rfl, ⟨nd, rfl⟩⟩; refine ⟨_, rfl, ?_⟩) | (go_at_call 21; (with_reducible refine (vmfleetlaw4_awake.calls  t166 _ A60.out).mono ?_); rintro e w62 ⟨rfl, hb⟩; have n0_ := Aside0.mk (Kd.R_below (by (with_reducible repeat (first | apply Kd.R_alloc | apply Kd.R_drewN | apply Kd.R_drew)); exact HO_6.out) hb); have n1_ := Aside0.mk (Kd.R_below (by (with_reducible repeat (first | apply Kd.R_alloc | apply Kd.R_drewN | apply Kd.R_drew)); exact HO_7.out) hb); have n2_ := Aside0.mk (below_step (by repeat (first | (with_reducible first | exact HB.out | apply below_alloc | apply pw_below_drewN | apply below_drew1) | exact HB.out)) hb); clear HO_6; clear HO_7; clear HB; have HO_6 := n0_; have HO_7 := n1_; have HB := n2_; clear n0_ n1_ n2_; (try clear hb); (try clear hb2); (try clear hk); (try clear hi)))
                      go_ret
                      exact ⟨by first | rfl | (simp [errW_none, errW_some] <;> rfl) | (simp only [← hji8]; first | rfl | (simp [errW_none, errW_some] <;> rfl)) | (simp [*, errW_none, errW_some] <;> rfl), by repeat (first | (with_reducible first | exact HB.out | apply below_alloc | apply pw_below_drewN | apply below_drew1) | exact HB.out)⟩
                    · rw [if_neg c59] at H
                      have c59b0 : (t165 == (wrap64 (1 + t141))) = false := beq_eq_false_iff_ne.mpr c59
                      have c59b1 : (t165 != (wrap64 (1 + t141))) = true := bne_iff_ne.mpr c59
                      obtain rfl := Option.some.inj H
                      obtain ⟨Ao63, co63, eo63⟩ := Kd.R_slice HO_6.out
                      subst eo63
                      go_wp2_with (first | ((with_reducible refine gate_callee (f := 17) rfl ?_); refine goesL_ (some 114) rfl rfl Try.func17 (by kernel_rfl) rfl #[.slice Ao63 x6_1.length co63] rfl (by (try simp only [List.map_toArray, List.map_cons, List.map_nil]); first | done | rfl | (simp only [List.length_drop, List.length_take]; rfl)) ?_; (with_reducible refine (memory_Pages.calls _ _ x6_1 t165 _ ?side1 ?side2 A58.out).mono ?_); (case side1 => repeat (first | exact (Kd.R_reads' HO_6.out).2.2 | (with_reducible refine Kd.C_alloc ?_ _) | (with_reducible refine Kd.C_drewN ?_ _) | (with_reducible refine Kd.C_drew ?_))); (case side2 => exact (Kd.R_reads' HO_6.out).2.1); rintro e w' ⟨rfl, ⟨nd, rfl⟩⟩; refine ⟨_, rfl, ?_⟩))
                      go_ret
                      exact ⟨by first | rfl | (simp [errW_none, errW_some] <;> rfl) | (simp only [← hji8]; first | rfl | (simp [errW_none, errW_some] <;> rfl)) | (simp [*, errW_none, errW_some] <;> rfl), by repeat (first | (with_reducible first | exact HB.out | apply below_alloc | apply pw_below_drewN | apply below_drew1) | exact HB.out)⟩
      · rw [if_neg c10] at H
        exact absurd H (by simp)
    · rw [if_neg c9] at H
      exact absurd H (by simp)

/-- THE ONE PURE STATEMENT of vmfleetlaw4_MemoryKeeps: yours. -/
def vmfleetlaw4_MemoryKeeps.Pure : Prop := ∀ (a0 : Int) (l1 : List Int), (Lit.int .i64 a0).wf = true → l1.length ≤ maxLen → l1.length * 8 ≤ 140737488351232 → (∀ x ∈ l1, (Lit.int .i64 x).wf = true) → ∃ k, vmfleetlaw4_MemoryKeeps.f k a0 l1 = some true
theorem vmfleetlaw4_MemoryKeeps.walk (P : vmfleetlaw4_MemoryKeeps.Pure) (a0 : Int) (a1 : Option Addr) (len1 cap1 : Nat) (z1 : List Int) (w : World) (w0 : (Lit.int .i64 a0).wf = true) (w1 : (a1 = none ∧ len1 = 0 ∧ cap1 = 0 ∧ z1 = []) ∨ ∃ x, a1 = some x ∧ len1 ≤ cap1 ∧ cap1 ≤ maxLen ∧ z1.length = cap1 ∧ (∀ i, i < z1.length → w.cell? (x.add i) = some (.int .i64 (z1.getD i 0))) ∧ ∀ n ∈ z1, (Lit.int .i64 n).wf = true) (y1 : len1 * 8 ≤ 140737488351232) :
    Calls Try.prog 5 #[.int .i64 a0, .slice a1 len1 cap1] w fun e w' => e = .returned (.bool true) ∧ Below w.heap.size w w' := by
  obtain ⟨l1, rfl, hr1, hm1, hw1, hc1⟩ := ReadsInt.ofRowC w1
  obtain ⟨k, h⟩ := P a0 l1 w0 hm1 y1 hw1
  refine (vmfleetlaw4_MemoryKeeps.calls k a0 _ _ l1 true w (Kd.C_of_reads (d := (0 : Int)) (h1 := fun _ => rfl) hr1) hc1 h).mono ?_
  rintro e w' ⟨rfl, hd⟩
  exact ⟨rfl, hd⟩

end Go.Proofs.Ytdaeflafdnlceaa.HMemoryKeeps
