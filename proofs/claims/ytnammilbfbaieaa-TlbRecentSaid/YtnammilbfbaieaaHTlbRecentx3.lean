-- Written for this claim by wip/hook.py, by means of the kit's print and of hand-proved contracts.
import Derived.Test.YtnammilbfbaieaaHTlbRecentx0
import Derived.Test.YtnammilbfbaieaaHTlbRecentx2
namespace Go.Proofs.Ytnammilbfbaieaa.HTlbRecent
open Go.RowKit Go.Proofs.YtnammilbfbaieaaW.PrintWords Go.Proofs.YtnammilbfbaieaaW.PrintLast Go.Proofs.YtnammilbfbaieaaW.PrintMore
attribute [local go_sem] max2_int min2_int max_two min_two max_three min_three max_four min_four   -- for this text's walks alone
attribute [local go_sem] Instr.field asAgg
set_option linter.unusedVariables false
set_option linter.unusedSimpArgs false

/-! ### memory_Pages: function 33 -/
def memory_Pages.f (l0 : List Int) : Option (Int) := if ((l0.length : Int) % 32) = 0 then (if (l0.length : Int) > 1024 then (some 0) else (some (wrap64 ((l0.length : Int) / 32)))) else (some 0)
set_option maxHeartbeats 8000000 in
set_option maxRecDepth 100000 in
theorem memory_Pages.calls (A0 : Option Addr) (c0 : Nat) (l0 : List Int) (r : Int) (w : World) (hr0 : Kd.C (Kd.int .u32) w A0 l0.length l0) (hc0 : l0.length ≤ c0) (h : memory_Pages.f l0 = some r) :
    Calls Try.prog 33 #[.slice A0 l0.length c0] w fun e w' => e = .returned (.int .i64 r) ∧ Drawn0 w w' := by
  have HR0 := Aside0.mk hr0
  have HC0 := Aside0.mk hc0
  clear hr0 hc0
  have H : (if ((l0.length : Int) % 32) = 0 then (if (l0.length : Int) > 1024 then (some 0) else (some (wrap64 ((l0.length : Int) / 32)))) else (some 0)) = some r := h
  clear h
  by_cases c2 : ((l0.length : Int) % 32) = 0
  · rw [if_pos c2] at H
    have c2b0 : (((l0.length : Int) % 32) == 0) = true := beq_iff_eq.mpr c2
    have c2b1 : (((l0.length : Int) % 32) != 0) = false := bne_eq_false_iff_eq.mpr c2
    clear c2
    by_cases c3 : (l0.length : Int) > 1024
    · rw [if_pos c3] at H
      have c3b0 : decide (1024 < (l0.length : Int)) = true := decide_eq_true c3
      have c3b1 : decide (1024 < l0.length) = true := decide_eq_true (by omega)
      clear c3
      obtain rfl := Option.some.inj H
      go_enter Try.func33, Try.ntmps33
      go_wp2
      go_ret
      exact ⟨by first | rfl | (simp; done) | (simp [*]; done), by repeat (first | exact Drawn0.refl _ | apply Drawn0.step)⟩
    · rw [if_neg c3] at H
      have c3b0 : decide (1024 < (l0.length : Int)) = false := decide_eq_false c3
      have c3b1 : decide (1024 < l0.length) = false := decide_eq_false (by omega)
      clear c3
      obtain rfl := Option.some.inj H
      go_enter Try.func33, Try.ntmps33
      go_wp2
      go_ret
      exact ⟨by first | rfl | (simp; done) | (simp [*]; done), by repeat (first | exact Drawn0.refl _ | apply Drawn0.step)⟩
  · rw [if_neg c2] at H
    have c2b0 : (((l0.length : Int) % 32) == 0) = false := beq_eq_false_iff_ne.mpr c2
    have c2b1 : (((l0.length : Int) % 32) != 0) = true := bne_iff_ne.mpr c2
    obtain rfl := Option.some.inj H
    go_enter Try.func33, Try.ntmps33
    go_wp2
    go_ret
    exact ⟨by first | rfl | (simp; done) | (simp [*]; done), by repeat (first | exact Drawn0.refl _ | apply Drawn0.step)⟩

/-! ### paging_page: function 23 -/
def paging_page.f (l0 : List Int) (a1 : Int) : Option (Bool) := (memory_Pages.f l0).bind fun t138 => (some (decide ((IntKind.u64.wrap (a1)) < (IntKind.u64.wrap (t138)))))
set_option maxHeartbeats 8000000 in
set_option maxRecDepth 100000 in
theorem paging_page.calls (A0 : Option Addr) (c0 : Nat) (l0 : List Int) (a1 : Int) (r : Bool) (w : World) (hr0 : Kd.C (Kd.int .u32) w A0 l0.length l0) (hc0 : l0.length ≤ c0) (h : paging_page.f l0 a1 = some r) :
    Calls Try.prog 23 #[.slice A0 l0.length c0, .int .u32 a1] w fun e w' => e = .returned (.bool r) ∧ Drawn0 w w' := by
  have HR0 := Aside0.mk hr0
  have HC0 := Aside0.mk hc0
  clear hr0 hc0
  have H : ((memory_Pages.f l0).bind fun t138 => (some (decide ((IntKind.u64.wrap (a1)) < (IntKind.u64.wrap (t138)))))) = some r := h
  clear h
  replace H := Option.bind_eq_some_iff.mp H
  obtain ⟨t138, A30, H⟩ := H
  replace H : (some (decide ((IntKind.u64.wrap (a1)) < (IntKind.u64.wrap (t138))))) = some r := H
  have A3 := Aside0.mk A30
  clear A30
  obtain rfl := Option.some.inj H
  go_enter Try.func23, Try.ntmps23
  go_wp2_with (first | ((with_reducible refine gate_callee (f := 33) rfl ?_); refine goesL_ (some 8) rfl rfl Try.func33 (by kernel_rfl) rfl #[.slice A0 l0.length c0] rfl (by (try simp only [List.map_toArray, List.map_cons, List.map_nil]); first | done | rfl | (simp only [List.length_drop, List.length_take]; rfl)) ?_; (with_reducible refine (memory_Pages.calls _ _ l0 t138 _ ?side1 ?side2 A3.out).mono ?_); (case side1 => repeat (first | exact HR0.out | (with_reducible refine Kd.C_alloc ?_ _) | (with_reducible refine Kd.C_drewN ?_ _) | (with_reducible refine Kd.C_drew ?_))); (case side2 => exact HC0.out); rintro e w' ⟨rfl, ⟨nd, rfl⟩⟩; refine ⟨_, rfl, ?_⟩))
  go_ret
  exact ⟨by first | rfl | (simp; done) | (simp [*]; done), by repeat (first | exact Drawn0.refl _ | apply Drawn0.step)⟩

/-! ### paging_Entry: function 24 -/
def paging_Entry.f (a0 : Int) (a1 : Int) : Option (Int) := some (((a0 * 128) + (4 * a1)) % 4294967296)
set_option maxHeartbeats 8000000 in
set_option maxRecDepth 100000 in
theorem paging_Entry.calls (a0 : Int) (a1 : Int) (r : Int) (w : World) (h : paging_Entry.f a0 a1 = some r) :
    Calls Try.prog 24 #[.int .u32 a0, .int .u32 a1] w fun e w' => e = .returned (.int .u32 r) ∧ Drawn0 w w' := by
  have H : (some (((a0 * 128) + (4 * a1)) % 4294967296)) = some r := h
  clear h
  obtain rfl := Option.some.inj H
  go_enter Try.func24, Try.ntmps24
  go_wp2
  go_ret
  exact ⟨by first | rfl | (simp; done) | (simp [*]; done), by repeat (first | exact Drawn0.refl _ | apply Drawn0.step)⟩

/-! ### memory_within: function 34 -/
def memory_within.f (l0 : List Int) (a1 : Int) (a2 : Int) : Option (Bool) := if a2 = 1 then (if ((a2) % 4294967296) = 0 then (none) else (if (Int.tmod a1 ((a2) % 4294967296)) = 0 then ((memory_Pages.f l0).bind fun t139 => (some (decide ((IntKind.u64.wrap ((IntKind.u64.wrap (a1)) + (IntKind.u64.wrap (a2)))) ≤ (IntKind.u64.wrap (wrap64 (t139 * 128))))))) else (some false))) else (if a2 = 4 then (if ((a2) % 4294967296) = 0 then (none) else (if (Int.tmod a1 ((a2) % 4294967296)) = 0 then ((memory_Pages.f l0).bind fun t140 => (some (decide ((IntKind.u64.wrap ((IntKind.u64.wrap (a1)) + (IntKind.u64.wrap (a2)))) ≤ (IntKind.u64.wrap (wrap64 (t140 * 128))))))) else (some false))) else (some false))
set_option maxHeartbeats 8000000 in
set_option maxRecDepth 100000 in
theorem memory_within.calls (A0 : Option Addr) (c0 : Nat) (l0 : List Int) (a1 : Int) (a2 : Int) (r : Bool) (w : World) (hr0 : Kd.C (Kd.int .u32) w A0 l0.length l0) (hc0 : l0.length ≤ c0) (h : memory_within.f l0 a1 a2 = some r) :
    Calls Try.prog 34 #[.slice A0 l0.length c0, .int .u32 a1, .int .i64 a2] w fun e w' => e = .returned (.bool r) ∧ Drawn0 w w' := by
  have HR0 := Aside0.mk hr0
  have HC0 := Aside0.mk hc0
  clear hr0 hc0
  have H : (if a2 = 1 then (if ((a2) % 4294967296) = 0 then (none) else (if (Int.tmod a1 ((a2) % 4294967296)) = 0 then ((memory_Pages.f l0).bind fun t139 => (some (decide ((IntKind.u64.wrap ((IntKind.u64.wrap (a1)) + (IntKind.u64.wrap (a2)))) ≤ (IntKind.u64.wrap (wrap64 (t139 * 128))))))) else (some false))) else (if a2 = 4 then (if ((a2) % 4294967296) = 0 then (none) else (if (Int.tmod a1 ((a2) % 4294967296)) = 0 then ((memory_Pages.f l0).bind fun t140 => (some (decide ((IntKind.u64.wrap ((IntKind.u64.wrap (a1)) + (IntKind.u64.wrap (a2)))) ≤ (IntKind.u64.wrap (wrap64 (t140 * 128))))))) else (some false))) else (some false))) = some r := h
  clear h
  by_cases c4 : a2 = 1
  · rw [if_pos c4] at H
    have c4b0 : (a2 == 1) = true := beq_iff_eq.mpr c4
    have c4b1 : (a2 != 1) = false := bne_eq_false_iff_eq.mpr c4
    clear c4
    by_cases c5 : ((a2) % 4294967296) = 0
    · rw [if_pos c5] at H
      exact absurd H (by simp)
    · rw [if_neg c5] at H
      have c5b0 : (((a2) % 4294967296) == 0) = false := beq_eq_false_iff_ne.mpr c5
      have c5b1 : (((a2) % 4294967296) != 0) = true := bne_iff_ne.mpr c5
      by_cases c6 : (Int.tmod a1 ((a2) % 4294967296)) = 0
      · rw [if_pos c6] at H
        have c6b0 : ((Int.tmod a1 ((a2) % 4294967296)) == 0) = true := beq_iff_eq.mpr c6
        have c6b1 : ((Int.tmod a1 ((a2) % 4294967296)) != 0) = false := bne_eq_false_iff_eq.mpr c6
        clear c6
        replace H := Option.bind_eq_some_iff.mp H
        obtain ⟨t139, A70, H⟩ := H
        replace H : (some (decide ((IntKind.u64.wrap ((IntKind.u64.wrap (a1)) + (IntKind.u64.wrap (a2)))) ≤ (IntKind.u64.wrap (wrap64 (t139 * 128)))))) = some r := H
        have A7 := Aside0.mk A70
        clear A70
        obtain rfl := Option.some.inj H
        go_enter Try.func34, Try.ntmps34
        go_wp2_with (first | (go_at_call 33; (with_reducible refine (memory_Pages.calls _ _ l0 t139 _ ?side1 ?side2 A7.out).mono ?_); (case side1 => repeat (first | exact HR0.out | (with_reducible refine Kd.C_alloc ?_ _) | (with_reducible refine Kd.C_drewN ?_ _) | (with_reducible refine Kd.C_drew ?_))); (case side2 => exact HC0.out); rintro e w' ⟨rfl, ⟨nd, rfl⟩⟩))
        go_ret
        exact ⟨by first | rfl | (simp; done) | (simp [*]; done), by repeat (first | exact Drawn0.refl _ | apply Drawn0.step)⟩
      · rw [if_neg c6] at H
        have c6b0 : ((Int.tmod a1 ((a2) % 4294967296)) == 0) = false := beq_eq_false_iff_ne.mpr c6
        have c6b1 : ((Int.tmod a1 ((a2) % 4294967296)) != 0) = true := bne_iff_ne.mpr c6
        obtain rfl := Option.some.inj H
        go_enter Try.func34, Try.ntmps34
        go_wp2
        go_ret
        exact ⟨by first | rfl | (simp; done) | (simp [*]; done), by repeat (first | exact Drawn0.refl _ | apply Drawn0.step)⟩
  · rw [if_neg c4] at H
    have c4b0 : (a2 == 1) = false := beq_eq_false_iff_ne.mpr c4
    have c4b1 : (a2 != 1) = true := bne_iff_ne.mpr c4
    by_cases c8 : a2 = 4
    · rw [if_pos c8] at H
      have c8b0 : (a2 == 4) = true := beq_iff_eq.mpr c8
      have c8b1 : (a2 != 4) = false := bne_eq_false_iff_eq.mpr c8
      clear c8
      by_cases c9 : ((a2) % 4294967296) = 0
      · rw [if_pos c9] at H
        exact absurd H (by simp)
      · rw [if_neg c9] at H
        have c9b0 : (((a2) % 4294967296) == 0) = false := beq_eq_false_iff_ne.mpr c9
        have c9b1 : (((a2) % 4294967296) != 0) = true := bne_iff_ne.mpr c9
        by_cases c10 : (Int.tmod a1 ((a2) % 4294967296)) = 0
        · rw [if_pos c10] at H
          have c10b0 : ((Int.tmod a1 ((a2) % 4294967296)) == 0) = true := beq_iff_eq.mpr c10
          have c10b1 : ((Int.tmod a1 ((a2) % 4294967296)) != 0) = false := bne_eq_false_iff_eq.mpr c10
          clear c10
          replace H := Option.bind_eq_some_iff.mp H
          obtain ⟨t140, A110, H⟩ := H
          replace H : (some (decide ((IntKind.u64.wrap ((IntKind.u64.wrap (a1)) + (IntKind.u64.wrap (a2)))) ≤ (IntKind.u64.wrap (wrap64 (t140 * 128)))))) = some r := H
          have A11 := Aside0.mk A110
          clear A110
          obtain rfl := Option.some.inj H
          go_enter Try.func34, Try.ntmps34
          go_wp2_with (first | (go_at_call 33; (with_reducible refine (memory_Pages.calls _ _ l0 t140 _ ?side1 ?side2 A11.out).mono ?_); (case side1 => repeat (first | exact HR0.out | (with_reducible refine Kd.C_alloc ?_ _) | (with_reducible refine Kd.C_drewN ?_ _) | (with_reducible refine Kd.C_drew ?_))); (case side2 => exact HC0.out); rintro e w' ⟨rfl, ⟨nd, rfl⟩⟩))
          go_ret
          exact ⟨by first | rfl | (simp; done) | (simp [*]; done), by repeat (first | exact Drawn0.refl _ | apply Drawn0.step)⟩
        · rw [if_neg c10] at H
          have c10b0 : ((Int.tmod a1 ((a2) % 4294967296)) == 0) = false := beq_eq_false_iff_ne.mpr c10
          have c10b1 : ((Int.tmod a1 ((a2) % 4294967296)) != 0) = true := bne_iff_ne.mpr c10
          obtain rfl := Option.some.inj H
          go_enter Try.func34, Try.ntmps34
          go_wp2
          go_ret
          exact ⟨by first | rfl | (simp; done) | (simp [*]; done), by repeat (first | exact Drawn0.refl _ | apply Drawn0.step)⟩
    · rw [if_neg c8] at H
      have c8b0 : (a2 == 4) = false := beq_eq_false_iff_ne.mpr c8
      have c8b1 : (a2 != 4) = true := bne_iff_ne.mpr c8
      obtain rfl := Option.some.inj H
      go_enter Try.func34, Try.ntmps34
      go_wp2
      go_ret
      exact ⟨by first | rfl | (simp; done) | (simp [*]; done), by repeat (first | exact Drawn0.refl _ | apply Drawn0.step)⟩

/-! ### bits_outside: function 38 -/
def bits_outside.f (a0 : Int) (a1 : Int) : Option (Bool) := if a0 < 0 then (some true) else (if a0 > 31 then (some true) else (some (decide (a1 < 1))))
set_option maxHeartbeats 8000000 in
set_option maxRecDepth 100000 in
theorem bits_outside.calls (a0 : Int) (a1 : Int) (r : Bool) (w : World) (h : bits_outside.f a0 a1 = some r) :
    Calls Try.prog 38 #[.int .i64 a0, .int .i64 a1] w fun e w' => e = .returned (.bool r) ∧ Drawn0 w w' := by
  have H : (if a0 < 0 then (some true) else (if a0 > 31 then (some true) else (some (decide (a1 < 1))))) = some r := h
  clear h
  by_cases c3 : a0 < 0
  · rw [if_pos c3] at H
    have c3b0 : decide (a0 < 0) = true := decide_eq_true c3
    clear c3
    obtain rfl := Option.some.inj H
    go_enter Try.func38, Try.ntmps38
    go_wp2
    go_ret
    exact ⟨by first | rfl | (simp; done) | (simp [*]; done), by repeat (first | exact Drawn0.refl _ | apply Drawn0.step)⟩
  · rw [if_neg c3] at H
    have c3b0 : decide (a0 < 0) = false := decide_eq_false c3
    clear c3
    by_cases c4 : a0 > 31
    · rw [if_pos c4] at H
      have c4b0 : decide (31 < a0) = true := decide_eq_true c4
      clear c4
      obtain rfl := Option.some.inj H
      go_enter Try.func38, Try.ntmps38
      go_wp2
      go_ret
      exact ⟨by first | rfl | (simp; done) | (simp [*]; done), by repeat (first | exact Drawn0.refl _ | apply Drawn0.step)⟩
    · rw [if_neg c4] at H
      have c4b0 : decide (31 < a0) = false := decide_eq_false c4
      clear c4
      obtain rfl := Option.some.inj H
      go_enter Try.func38, Try.ntmps38
      go_wp2
      go_ret
      exact ⟨by first | rfl | (simp; done) | (simp [*]; done), by repeat (first | exact Drawn0.refl _ | apply Drawn0.step)⟩

/-! ### bits_mask: function 39 -/
def bits_mask.f (a0 : Int) : Option (Int) := if a0 ≥ 32 then (some 4294967295) else (if 0 ≤ a0 then (some (((shl .u32 1 a0) - 1) % 4294967296)) else (none))
set_option maxHeartbeats 8000000 in
set_option maxRecDepth 100000 in
theorem bits_mask.calls (a0 : Int) (r : Int) (w : World) (h : bits_mask.f a0 = some r) :
    Calls Try.prog 39 #[.int .i64 a0] w fun e w' => e = .returned (.int .u32 r) ∧ Drawn0 w w' := by
  have H : (if a0 ≥ 32 then (some 4294967295) else (if 0 ≤ a0 then (some (((shl .u32 1 a0) - 1) % 4294967296)) else (none))) = some r := h
  clear h
  by_cases c2 : a0 ≥ 32
  · rw [if_pos c2] at H
    have c2b0 : decide (32 ≤ a0) = true := decide_eq_true c2
    clear c2
    obtain rfl := Option.some.inj H
    go_enter Try.func39, Try.ntmps39
    go_wp2
    go_ret
    exact ⟨by first | rfl | (simp; done) | (simp [*]; done), by repeat (first | exact Drawn0.refl _ | apply Drawn0.step)⟩
  · rw [if_neg c2] at H
    have c2b0 : decide (32 ≤ a0) = false := decide_eq_false c2
    clear c2
    by_cases c3 : 0 ≤ a0
    · rw [if_pos c3] at H
      have c3b0 := eq_true c3
      have c3b1 : decide (0 ≤ a0) = true := decide_eq_true c3
      clear c3
      obtain ⟨ji4, hji4⟩ : ∃ j_ : Int, (shl .u32 1 a0) = j_ := ⟨_, rfl⟩
      replace H : (some (((ji4) - 1) % 4294967296)) = some r := by first | (rw [hji4] at H; exact H) | (simp only [hji4] at H ⊢; exact H)
      have hji4_ : (IntKind.u32.wrap (1 * 2 ^ min a0.toNat 32)) = ji4 := hji4
      have hji4z : a0 ≤ 32 → (IntKind.u32.wrap (1 * 2 ^ a0.toNat)) = ji4 := shl_small hji4
      have hji4u : (IntKind.u32.wrap (2 ^ min a0.toNat 32)) = ji4 := by have h_ := hji4_; rw [Int.one_mul] at h_; exact h_
      have hji4v : a0 ≤ 32 → (IntKind.u32.wrap (2 ^ a0.toNat)) = ji4 := fun hle_ => by have h_ := hji4z hle_; rw [Int.one_mul] at h_; exact h_
      obtain rfl := Option.some.inj H
      go_enter Try.func39, Try.ntmps39
      go_wp2
      go_ret
      exact ⟨by first | rfl | (simp; done) | (simp only [← hji4] <;> (first | rfl | simp)) | (simp [*]; done), by repeat (first | exact Drawn0.refl _ | apply Drawn0.step)⟩
    · rw [if_neg c3] at H
      exact absurd H (by simp)

/-! ### bits_Field: function 35 -/
def bits_Field.f (a0 : Int) (a1 : Int) (a2 : Int) : Option (Int) := (bits_outside.f a1 a2).bind fun t141 => (if t141 = true then (some 0) else (if 0 ≤ a1 then ((bits_mask.f a2).bind fun t142 => (some (Go.bits .and .u32 (shr .u32 a0 a1) t142))) else (none)))
set_option maxHeartbeats 8000000 in
set_option maxRecDepth 100000 in
theorem bits_Field.calls (a0 : Int) (a1 : Int) (a2 : Int) (r : Int) (w : World) (h : bits_Field.f a0 a1 a2 = some r) :
    Calls Try.prog 35 #[.int .u32 a0, .int .i64 a1, .int .i64 a2] w fun e w' => e = .returned (.int .u32 r) ∧ Drawn0 w w' := by
  have H : ((bits_outside.f a1 a2).bind fun t141 => (if t141 = true then (some 0) else (if 0 ≤ a1 then ((bits_mask.f a2).bind fun t142 => (some (Go.bits .and .u32 (shr .u32 a0 a1) t142))) else (none)))) = some r := h
  clear h
  replace H := Option.bind_eq_some_iff.mp H
  obtain ⟨t141, A40, H⟩ := H
  replace H : (if t141 = true then (some 0) else (if 0 ≤ a1 then ((bits_mask.f a2).bind fun t142 => (some (Go.bits .and .u32 (shr .u32 a0 a1) t142))) else (none))) = some r := H
  have A4 := Aside0.mk A40
  clear A40
  by_cases c5 : t141 = true
  · subst c5
    have H1 : (some 0) = some r := by rw [if_pos rfl] at H; exact H
    clear H
    have H := H1
    clear H1
    obtain rfl := Option.some.inj H
    go_enter Try.func35, Try.ntmps35
    go_wp2_with (first | (go_at_call 38; (with_reducible refine (bits_outside.calls a1 a2 true _ A4.out).mono ?_); rintro e w' ⟨rfl, ⟨nd, rfl⟩⟩; (try first | exact ⟨rfl, _, World.drewN_drewN _ _ _⟩ | exact ⟨rfl, _, Eq.trans (World.drewN_drewN _ _ _) (congrArg (World.drewN _) (Nat.add_assoc _ _ _))⟩)))
    repeat (go_quiet (first | (go_at_call 38; (with_reducible refine (bits_outside.calls a1 a2 true _ A4.out).mono ?_); rintro e w' ⟨rfl, ⟨nd, rfl⟩⟩; (try first | exact ⟨rfl, _, World.drewN_drewN _ _ _⟩ | exact ⟨rfl, _, Eq.trans (World.drewN_drewN _ _ _) (congrArg (World.drewN _) (Nat.add_assoc _ _ _))⟩))); try go_wp2_with (first | (go_at_call 38; (with_reducible refine (bits_outside.calls a1 a2 true _ A4.out).mono ?_); rintro e w' ⟨rfl, ⟨nd, rfl⟩⟩; (try first | exact ⟨rfl, _, World.drewN_drewN _ _ _⟩ | exact ⟨rfl, _, Eq.trans (World.drewN_drewN _ _ _) (congrArg (World.drewN _) (Nat.add_assoc _ _ _))⟩))))
    go_ret
    exact ⟨by first | rfl | (simp; done) | (simp [*]; done), by repeat (first | exact Drawn0.refl _ | apply Drawn0.step)⟩
  · replace c5 := Bool.eq_false_iff.mpr c5
    subst c5
    have H1 : (if 0 ≤ a1 then ((bits_mask.f a2).bind fun t142 => (some (Go.bits .and .u32 (shr .u32 a0 a1) t142))) else (none)) = some r := by rw [if_neg (show ¬ (false = true) by decide)] at H; exact H
    clear H
    have H := H1
    clear H1
    by_cases c6 : 0 ≤ a1
    · rw [if_pos c6] at H
      have c6b0 := eq_true c6
      have c6b1 : decide (0 ≤ a1) = true := decide_eq_true c6
      clear c6
      obtain ⟨ji7, hji7⟩ : ∃ j_ : Int, (shr .u32 a0 a1) = j_ := ⟨_, rfl⟩
      replace H : ((bits_mask.f a2).bind fun t142 => (some (Go.bits .and .u32 (ji7) t142))) = some r := by first | (rw [hji7] at H; exact H) | (simp only [hji7] at H ⊢; exact H)
      (try rw [hji7] at A4)
      have hji7_ : (a0 / 2 ^ min a1.toNat 32) = ji7 := hji7
      have hji7z : a1 ≤ 32 → (a0 / 2 ^ a1.toNat) = ji7 := shr_small hji7
      replace H := Option.bind_eq_some_iff.mp H
      obtain ⟨t142, A80, H⟩ := H
      replace H : (some (Go.bits .and .u32 (ji7) t142)) = some r := H
      have A8 := Aside0.mk A80
      clear A80
      obtain rfl := Option.some.inj H
      go_enter Try.func35, Try.ntmps35
      go_wp2_with (first | (go_at_call 38; (with_reducible refine (bits_outside.calls a1 a2 false _ A4.out).mono ?_); rintro e w' ⟨rfl, ⟨nd, rfl⟩⟩; (try first | exact ⟨rfl, _, World.drewN_drewN _ _ _⟩ | exact ⟨rfl, _, Eq.trans (World.drewN_drewN _ _ _) (congrArg (World.drewN _) (Nat.add_assoc _ _ _))⟩)) | (go_at_call 39; (with_reducible refine (bits_mask.calls a2 t142 _ A8.out).mono ?_); rintro e w' ⟨rfl, ⟨nd, rfl⟩⟩; (try first | exact ⟨rfl, _, World.drewN_drewN _ _ _⟩ | exact ⟨rfl, _, Eq.trans (World.drewN_drewN _ _ _) (congrArg (World.drewN _) (Nat.add_assoc _ _ _))⟩)))
      repeat (go_quiet (first | (go_at_call 38; (with_reducible refine (bits_outside.calls a1 a2 false _ A4.out).mono ?_); rintro e w' ⟨rfl, ⟨nd, rfl⟩⟩; (try first | exact ⟨rfl, _, World.drewN_drewN _ _ _⟩ | exact ⟨rfl, _, Eq.trans (World.drewN_drewN _ _ _) (congrArg (World.drewN _) (Nat.add_assoc _ _ _))⟩)) | (go_at_call 39; (with_reducible refine (bits_mask.calls a2 t142 _ A8.out).mono ?_); rintro e w' ⟨rfl, ⟨nd, rfl⟩⟩; (try first | exact ⟨rfl, _, World.drewN_drewN _ _ _⟩ | exact ⟨rfl, _, Eq.trans (World.drewN_drewN _ _ _) (congrArg (World.drewN _) (Nat.add_assoc _ _ _))⟩))); try go_wp2_with (first | (go_at_call 38; (with_reducible refine (bits_outside.calls a1 a2 false _ A4.out).mono ?_); rintro e w' ⟨rfl, ⟨nd, rfl⟩⟩; (try first | exact ⟨rfl, _, World.drewN_drewN _ _ _⟩ | exact ⟨rfl, _, Eq.trans (World.drewN_drewN _ _ _) (congrArg (World.drewN _) (Nat.add_assoc _ _ _))⟩)) | (go_at_call 39; (with_reducible refine (bits_mask.calls a2 t142 _ A8.out).mono ?_); rintro e w' ⟨rfl, ⟨nd, rfl⟩⟩; (try first | exact ⟨rfl, _, World.drewN_drewN _ _ _⟩ | exact ⟨rfl, _, Eq.trans (World.drewN_drewN _ _ _) (congrArg (World.drewN _) (Nat.add_assoc _ _ _))⟩))))
      go_ret
      exact ⟨by first | rfl | (simp; done) | (simp only [← hji7] <;> (first | rfl | simp)) | (simp [*]; done), by repeat (first | exact Drawn0.refl _ | apply Drawn0.step)⟩
    · rw [if_neg c6] at H
      exact absurd H (by simp)

/-! ### memory_Load: function 25 -/
def memory_Load.f (l0 : List Int) (a1 : Int) (a2 : Int) : Option (Int × Bool) := (memory_within.f l0 a1 a2).bind fun t143 => (if t143 = true then (if 0 ≤ ((Int.tdiv a1 4) % 4294967296) then (if ((Int.tdiv a1 4) % 4294967296) < (l0.length : Int) then (if a2 = 1 then ((bits_Field.f (rd l0 ((Int.tdiv a1 4) % 4294967296)) (wrap64 (8 * (wrap64 (Int.tmod a1 4)))) 8).bind fun t145 => (some (t145, true))) else (some (rd l0 ((Int.tdiv a1 4) % 4294967296), true))) else (none)) else (none)) else (some (0, false)))
set_option maxHeartbeats 8000000 in
set_option maxRecDepth 100000 in
theorem memory_Load.calls (A0 : Option Addr) (c0 : Nat) (l0 : List Int) (a1 : Int) (a2 : Int) (r1 : Int) (r2 : Bool) (w : World) (hr0 : Kd.C (Kd.int .u32) w A0 l0.length l0) (hc0 : l0.length ≤ c0) (h : memory_Load.f l0 a1 a2 = some (r1, r2)) :
    Calls Try.prog 25 #[.slice A0 l0.length c0, .int .u32 a1, .int .i64 a2] w fun e w' => e = .returned (.tuple #[.int .u32 r1, .bool r2]) ∧ Drawn0 w w' := by
  have HR0 := Aside0.mk hr0
  have HC0 := Aside0.mk hc0
  clear hr0 hc0
  have H : ((memory_within.f l0 a1 a2).bind fun t143 => (if t143 = true then (if 0 ≤ ((Int.tdiv a1 4) % 4294967296) then (if ((Int.tdiv a1 4) % 4294967296) < (l0.length : Int) then (if a2 = 1 then ((bits_Field.f (rd l0 ((Int.tdiv a1 4) % 4294967296)) (wrap64 (8 * (wrap64 (Int.tmod a1 4)))) 8).bind fun t145 => (some (t145, true))) else (some (rd l0 ((Int.tdiv a1 4) % 4294967296), true))) else (none)) else (none)) else (some (0, false)))) = some (r1, r2) := h
  clear h
  replace H := Option.bind_eq_some_iff.mp H
  obtain ⟨t143, A40, H⟩ := H
  replace H : (if t143 = true then (if 0 ≤ ((Int.tdiv a1 4) % 4294967296) then (if ((Int.tdiv a1 4) % 4294967296) < (l0.length : Int) then (if a2 = 1 then ((bits_Field.f (rd l0 ((Int.tdiv a1 4) % 4294967296)) (wrap64 (8 * (wrap64 (Int.tmod a1 4)))) 8).bind fun t145 => (some (t145, true))) else (some (rd l0 ((Int.tdiv a1 4) % 4294967296), true))) else (none)) else (none)) else (some (0, false))) = some (r1, r2) := H
  have A4 := Aside0.mk A40
  clear A40
  by_cases c5 : t143 = true
  · subst c5
    have H1 : (if 0 ≤ ((Int.tdiv a1 4) % 4294967296) then (if ((Int.tdiv a1 4) % 4294967296) < (l0.length : Int) then (if a2 = 1 then ((bits_Field.f (rd l0 ((Int.tdiv a1 4) % 4294967296)) (wrap64 (8 * (wrap64 (Int.tmod a1 4)))) 8).bind fun t145 => (some (t145, true))) else (some (rd l0 ((Int.tdiv a1 4) % 4294967296), true))) else (none)) else (none)) = some (r1, r2) := by rw [if_pos rfl] at H; exact H
    clear H
    have H := H1
    clear H1
    obtain ⟨ji6, hji6⟩ : ∃ j_ : Int, ((Int.tdiv a1 4) % 4294967296) = j_ := ⟨_, rfl⟩
    replace H : (if 0 ≤ (ji6) then (if (ji6) < (l0.length : Int) then (if a2 = 1 then ((bits_Field.f (rd l0 (ji6)) (wrap64 (8 * (wrap64 (Int.tmod a1 4)))) 8).bind fun t145 => (some (t145, true))) else (some (rd l0 (ji6), true))) else (none)) else (none)) = some (r1, r2) := by first | (rw [hji6] at H; exact H) | (simp only [hji6] at H ⊢; exact H)
    (try rw [hji6] at A4)
    by_cases c7 : 0 ≤ (ji6)
    · rw [if_pos c7] at H
      have c7b0 : decide (0 ≤ (ji6)) = true := decide_eq_true c7
      clear c7
      by_cases c8 : (ji6) < (l0.length : Int)
      · rw [if_pos c8] at H
        have c8b0 : decide ((ji6) < (l0.length : Int)) = true := decide_eq_true c8
        clear c8
        by_cases c9 : a2 = 1
        · rw [if_pos c9] at H
          have c9b0 : (a2 == 1) = true := beq_iff_eq.mpr c9
          have c9b1 : (a2 != 1) = false := bne_eq_false_iff_eq.mpr c9
          clear c9
          replace H := Option.bind_eq_some_iff.mp H
          obtain ⟨t145, A100, H⟩ := H
          replace H : (some (t145, true)) = some (r1, r2) := H
          have A10 := Aside0.mk A100
          clear A100
          simp only [Option.some.injEq, Prod.mk.injEq] at H
          obtain ⟨rfl, rfl⟩ := H
          go_enter Try.func25, Try.ntmps25
          go_wp2_with (first | ((with_reducible refine gate_callee (f := 34) rfl ?_); refine goesL_ (some 12) rfl rfl Try.func34 (by kernel_rfl) rfl #[.slice A0 l0.length c0, .int .u32 a1, .int .i64 a2] rfl (by (try simp only [List.map_toArray, List.map_cons, List.map_nil]); first | done | rfl | (simp only [List.length_drop, List.length_take]; rfl)) ?_; (with_reducible refine (memory_within.calls _ _ l0 a1 a2 true _ ?side1 ?side2 A4.out).mono ?_); (case side1 => repeat (first | exact HR0.out | (with_reducible refine Kd.C_alloc ?_ _) | (with_reducible refine Kd.C_drewN ?_ _) | (with_reducible refine Kd.C_drew ?_))); (case side2 => exact HC0.out); rintro e w' ⟨rfl, ⟨nd, rfl⟩⟩; refine ⟨_, rfl, ?_⟩; have p144 : 0 ≤ ((ji6) : Int) := of_decide_eq_true (by first | (with_reducible assumption) | assumption); have q144 : (ji6) < (l0.length : Int) := of_decide_eq_true (by first | (with_reducible assumption) | assumption); obtain ⟨ad144, e144, hx144_0⟩ := Kd.at_int HR0.out (ji6) p144 q144; cases e144; replace p144 := eq_true p144; replace q144 := eq_true q144) | ((with_reducible refine gate_callee (f := 35) rfl ?_); refine goesL_ (some 26) rfl rfl Try.func35 (by kernel_rfl) rfl #[.int .u32 (rd l0 (ji6)), .int .i64 (wrap64 (8 * (wrap64 (Int.tmod a1 4)))), .int .i64 8] rfl (by (try simp only [List.map_toArray, List.map_cons, List.map_nil]); first | done | (simp only [hji6]; rfl) | rfl | (simp only [List.length_drop, List.length_take]; rfl)) ?_; (with_reducible refine (bits_Field.calls (rd l0 (ji6)) (wrap64 (8 * (wrap64 (Int.tmod a1 4)))) 8 t145 _ A10.out).mono ?_); rintro e w' ⟨rfl, ⟨nd, rfl⟩⟩; refine ⟨_, rfl, ?_⟩))
          go_ret2
          exact ⟨by first | rfl | (simp; done) | (simp only [← hji6] <;> (first | rfl | simp)) | (simp [*]; done), by repeat (first | exact Drawn0.refl _ | apply Drawn0.step)⟩
        · rw [if_neg c9] at H
          have c9b0 : (a2 == 1) = false := beq_eq_false_iff_ne.mpr c9
          have c9b1 : (a2 != 1) = true := bne_iff_ne.mpr c9
          simp only [Option.some.injEq, Prod.mk.injEq] at H
          obtain ⟨rfl, rfl⟩ := H
          go_enter Try.func25, Try.ntmps25
          go_wp2_with (first | ((with_reducible refine gate_callee (f := 34) rfl ?_); refine goesL_ (some 12) rfl rfl Try.func34 (by kernel_rfl) rfl #[.slice A0 l0.length c0, .int .u32 a1, .int .i64 a2] rfl (by (try simp only [List.map_toArray, List.map_cons, List.map_nil]); first | done | rfl | (simp only [List.length_drop, List.length_take]; rfl)) ?_; (with_reducible refine (memory_within.calls _ _ l0 a1 a2 true _ ?side1 ?side2 A4.out).mono ?_); (case side1 => repeat (first | exact HR0.out | (with_reducible refine Kd.C_alloc ?_ _) | (with_reducible refine Kd.C_drewN ?_ _) | (with_reducible refine Kd.C_drew ?_))); (case side2 => exact HC0.out); rintro e w' ⟨rfl, ⟨nd, rfl⟩⟩; refine ⟨_, rfl, ?_⟩; have p144 : 0 ≤ ((ji6) : Int) := of_decide_eq_true (by first | (with_reducible assumption) | assumption); have q144 : (ji6) < (l0.length : Int) := of_decide_eq_true (by first | (with_reducible assumption) | assumption); obtain ⟨ad144, e144, hx144_0⟩ := Kd.at_int HR0.out (ji6) p144 q144; cases e144; replace p144 := eq_true p144; replace q144 := eq_true q144))
          go_ret2
          exact ⟨by first | rfl | (simp; done) | (simp only [← hji6] <;> (first | rfl | simp)) | (simp [*]; done), by repeat (first | exact Drawn0.refl _ | apply Drawn0.step)⟩
      · rw [if_neg c8] at H
        exact absurd H (by simp)
    · rw [if_neg c7] at H
      exact absurd H (by simp)
  · replace c5 := Bool.eq_false_iff.mpr c5
    subst c5
    have H1 : (some (0, false)) = some (r1, r2) := by rw [if_neg (show ¬ (false = true) by decide)] at H; exact H
    clear H
    have H := H1
    clear H1
    simp only [Option.some.injEq, Prod.mk.injEq] at H
    obtain ⟨rfl, rfl⟩ := H
    go_enter Try.func25, Try.ntmps25
    go_wp2_with (first | ((with_reducible refine gate_callee (f := 34) rfl ?_); refine goesL_ (some 12) rfl rfl Try.func34 (by kernel_rfl) rfl #[.slice A0 l0.length c0, .int .u32 a1, .int .i64 a2] rfl (by (try simp only [List.map_toArray, List.map_cons, List.map_nil]); first | done | rfl | (simp only [List.length_drop, List.length_take]; rfl)) ?_; (with_reducible refine (memory_within.calls _ _ l0 a1 a2 false _ ?side1 ?side2 A4.out).mono ?_); (case side1 => repeat (first | exact HR0.out | (with_reducible refine Kd.C_alloc ?_ _) | (with_reducible refine Kd.C_drewN ?_ _) | (with_reducible refine Kd.C_drew ?_))); (case side2 => exact HC0.out); rintro e w' ⟨rfl, ⟨nd, rfl⟩⟩; refine ⟨_, rfl, ?_⟩))
    go_ret2
    exact ⟨by first | rfl | (simp; done) | (simp [*]; done), by repeat (first | exact Drawn0.refl _ | apply Drawn0.step)⟩

/-! ### paging_Frame: function 26 -/
def paging_Frame.f (a0 : Int) : Option (Int) := (bits_Field.f a0 8 8).bind fun t146 => (some t146)
set_option maxHeartbeats 8000000 in
set_option maxRecDepth 100000 in
theorem paging_Frame.calls (a0 : Int) (r : Int) (w : World) (h : paging_Frame.f a0 = some r) :
    Calls Try.prog 26 #[.int .u32 a0] w fun e w' => e = .returned (.int .u32 r) ∧ Drawn0 w w' := by
  have H : ((bits_Field.f a0 8 8).bind fun t146 => (some t146)) = some r := h
  clear h
  replace H := Option.bind_eq_some_iff.mp H
  obtain ⟨t146, A20, H⟩ := H
  replace H : (some t146) = some r := H
  have A2 := Aside0.mk A20
  clear A20
  obtain rfl := Option.some.inj H
  go_enter Try.func26, Try.ntmps26
  go_wp2_with (first | ((with_reducible refine gate_callee (f := 35) rfl ?_); refine goesL_ (some 4) rfl rfl Try.func35 (by kernel_rfl) rfl #[.int .u32 a0, .int .i64 8, .int .i64 8] rfl (by (try simp only [List.map_toArray, List.map_cons, List.map_nil]); first | done | rfl | (simp only [List.length_drop, List.length_take]; rfl)) ?_; (with_reducible refine (bits_Field.calls a0 8 8 t146 _ A2.out).mono ?_); rintro e w' ⟨rfl, ⟨nd, rfl⟩⟩; refine ⟨_, rfl, ?_⟩))
  go_ret
  exact ⟨by first | rfl | (simp; done) | (simp [*]; done), by repeat (first | exact Drawn0.refl _ | apply Drawn0.step)⟩

/-! ### paging_Walk: function 10 -/
mutual
def paging_Walk.j0 : Nat → List Int → Int → Int → Int → Bool → Int → Int → Int → Option (Int × Int × Int)
  | 0, _, _, _, _, _, _, _, _ => none
  | k + 1, x0, x1, x2, x3, x32, x150000, x150001, x150002 => if x32 = true then (some (x150000, x150001, x150002)) else ((paging_Entry.f x1 ((Int.tdiv x2 128) % 4294967296)).bind fun t151 => ((memory_Load.f x0 t151 4).bind fun bt152 => (if x3 = 1 then (paging_Walk.j1 k x0 x2 t151 bt152.1 (Go.bits .or .u32 1 4) x150000 x150001 x150002) else (if x3 = 3 then (paging_Walk.j1 k x0 x2 t151 bt152.1 (Go.bits .or .u32 1 2) x150000 x150001 x150002) else (paging_Walk.j1 k x0 x2 t151 bt152.1 1 x150000 x150001 x150002)))))
def paging_Walk.j1 : Nat → List Int → Int → Int → Int → Int → Int → Int → Int → Option (Int × Int × Int)
  | 0, _, _, _, _, _, _, _, _ => none
  | k + 1, x0, x2, x10, x11, x13, x150000, x150001, x150002 => if (Go.bits .and .u32 x11 x13) = x13 then ((paging_Frame.f x11).bind fun t154 => ((paging_page.f x0 t154).bind fun t155 => (if t155 = true then ((paging_Frame.f x11).bind fun t156 => (some (((t156 * 128) + (Int.tmod x2 128)) % 4294967296, x10, 0))) else (some (x150000, x150001, x150002))))) else (some (x150000, x150001, x150002))
end
def paging_Walk.f (k : Nat) (l0 : List Int) (a1 : Int) (a2 : Int) (a3 : Int) : Option (Int × Int × Int) := (paging_Cause.f a3).bind fun t148 => (if a3 < 1 then (paging_Walk.j0 k l0 a1 a2 a3 true 0 0 t148) else (if a3 > 3 then (paging_Walk.j0 k l0 a1 a2 a3 true 0 0 t148) else (if a2 ≥ 4096 then (paging_Walk.j0 k l0 a1 a2 a3 true 0 0 t148) else ((paging_page.f l0 a1).bind fun t150 => (paging_Walk.j0 k l0 a1 a2 a3 (!t150) 0 0 t148)))))
theorem paging_Walk.mono_l : ∀ k, (∀ y0 y1 y2 y3 y4 y5 y6 y7, LeO (paging_Walk.j0 k y0 y1 y2 y3 y4 y5 y6 y7) (paging_Walk.j0 (k + 1) y0 y1 y2 y3 y4 y5 y6 y7)) ∧ (∀ y0 y1 y2 y3 y4 y5 y6 y7, LeO (paging_Walk.j1 k y0 y1 y2 y3 y4 y5 y6 y7) (paging_Walk.j1 (k + 1) y0 y1 y2 y3 y4 y5 y6 y7))
  | 0 => ⟨fun _ _ _ _ _ _ _ _ r h => by simp [paging_Walk.j0] at h, fun _ _ _ _ _ _ _ _ r h => by simp [paging_Walk.j1] at h⟩
  | k + 1 => by
    obtain ⟨ih0, ih1⟩ := paging_Walk.mono_l k
    refine ⟨?_, ?_⟩
    · intro y0 y1 y2 y3 y4 y5 y6 y7
      unfold paging_Walk.j0
      repeat' first
      | (with_reducible exact ih0 _ _ _ _ _ _ _ _)
      | (with_reducible exact ih1 _ _ _ _ _ _ _ _)
      | (with_reducible exact LeO.refl _)
      | (with_reducible exact LeO.none _)
      | (with_reducible refine LeO.ite ?_ ?_)
      | (with_reducible refine LeO.bind ?_ (fun _ => ?_))
      | exact ih0 _ _ _ _ _ _ _ _
      | exact ih1 _ _ _ _ _ _ _ _
      | exact LeO.none _
      | refine LeO.ite ?_ ?_
      | refine LeO.bind ?_ (fun _ => ?_)
    · intro y0 y1 y2 y3 y4 y5 y6 y7
      unfold paging_Walk.j1
      repeat' first
      | (with_reducible exact ih0 _ _ _ _ _ _ _ _)
      | (with_reducible exact ih1 _ _ _ _ _ _ _ _)
      | (with_reducible exact LeO.refl _)
      | (with_reducible exact LeO.none _)
      | (with_reducible refine LeO.ite ?_ ?_)
      | (with_reducible refine LeO.bind ?_ (fun _ => ?_))
      | exact ih0 _ _ _ _ _ _ _ _
      | exact ih1 _ _ _ _ _ _ _ _
      | exact LeO.none _
      | refine LeO.ite ?_ ?_
      | refine LeO.bind ?_ (fun _ => ?_)
theorem paging_Walk.mono : ∀ a0 a1 a2 a3 k, LeO (paging_Walk.f k a0 a1 a2 a3) (paging_Walk.f (k + 1) a0 a1 a2 a3) := by
  intro a0 a1 a2 a3 k
  obtain ⟨ih0, ih1⟩ := paging_Walk.mono_l k
  unfold paging_Walk.f
  repeat' first
      | (with_reducible exact ih0 _ _ _ _ _ _ _ _)
      | (with_reducible exact ih1 _ _ _ _ _ _ _ _)
      | (with_reducible exact LeO.refl _)
      | (with_reducible exact LeO.none _)
      | (with_reducible refine LeO.ite ?_ ?_)
      | (with_reducible refine LeO.bind ?_ (fun _ => ?_))
      | exact ih0 _ _ _ _ _ _ _ _
      | exact ih1 _ _ _ _ _ _ _ _
      | exact LeO.none _
      | refine LeO.ite ?_ ?_
      | refine LeO.bind ?_ (fun _ => ?_)
set_option maxHeartbeats 8000000 in
set_option maxRecDepth 100000 in
theorem paging_Walk.calls (k : Nat) (A0 : Option Addr) (c0 : Nat) (l0 : List Int) (a1 : Int) (a2 : Int) (a3 : Int) (r1 : Int) (r2 : Int) (r3 : Int) (w : World) (hr0 : Kd.C (Kd.int .u32) w A0 l0.length l0) (hc0 : l0.length ≤ c0) (h : paging_Walk.f k l0 a1 a2 a3 = some (r1, r2, r3)) :
    Calls Try.prog 10 #[.slice A0 l0.length c0, .int .u32 a1, .int .u32 a2, .int .i64 a3] w fun e w' => e = .returned (.agg #[.int .u32 r1, .int .u32 r2, .int .i64 r3]) ∧ Below w.heap.size w w' := by
  have hu34 := Try.underlying34
  have HR0 := Aside0.mk hr0
  have HC0 := Aside0.mk hc0
  clear hr0 hc0
  have HB := Aside0.mk (Below.refl w.heap.size w)
  have H : ((paging_Cause.f a3).bind fun t148 => (if a3 < 1 then (paging_Walk.j0 k l0 a1 a2 a3 true 0 0 t148) else (if a3 > 3 then (paging_Walk.j0 k l0 a1 a2 a3 true 0 0 t148) else (if a2 ≥ 4096 then (paging_Walk.j0 k l0 a1 a2 a3 true 0 0 t148) else ((paging_page.f l0 a1).bind fun t150 => (paging_Walk.j0 k l0 a1 a2 a3 (!t150) 0 0 t148)))))) = some (r1, r2, r3) := h
  clear h
  replace H := Option.bind_eq_some_iff.mp H
  obtain ⟨t148, A50, H⟩ := H
  replace H : (if a3 < 1 then (paging_Walk.j0 k l0 a1 a2 a3 true 0 0 t148) else (if a3 > 3 then (paging_Walk.j0 k l0 a1 a2 a3 true 0 0 t148) else (if a2 ≥ 4096 then (paging_Walk.j0 k l0 a1 a2 a3 true 0 0 t148) else ((paging_page.f l0 a1).bind fun t150 => (paging_Walk.j0 k l0 a1 a2 a3 (!t150) 0 0 t148))))) = some (r1, r2, r3) := H
  have A5 := Aside0.mk A50
  clear A50
  have HC6 := Aside0.mk H
  clear H
  go_enter Try.func10, Try.ntmps10
  go_upto_region 2 with (first | ((with_reducible refine gate_dst (N := 8) rfl ?_); refine box_event ?hg (N := 8) ?hd (cs := #[.int .u32 0, .int .u32 0, .int .i64 0]) (t := 34) ?hr ?_; (case hd => rfl); (case hg => rfl); (case hr => first | (go_simp; done) | (go_simp; rfl)); intro gb147 hg w7 hbox hb; have n0_ := Aside0.mk (below_step (by repeat (first | (with_reducible first | exact HB.out | apply below_alloc | apply pw_below_drewN | apply below_drew1) | exact HB.out)) hb); have n1_ := Aside0.mk (hbox); have n2_ := Aside0.mk ((by rw [hg]; exact (below_size (by repeat (first | (with_reducible first | exact HB.out | apply below_alloc | apply pw_below_drewN | apply below_drew1) | exact HB.out))) : w.heap.size ≤ gb147)); have n3_ := Aside0.mk ((by rw [hg]; exact (below_size (by repeat (first | (with_reducible first | exact HB.out | apply below_alloc | apply pw_below_drewN | apply below_drew1) | exact HB.out))) : w.heap.size ≤ gb147)); clear HB; have HB := n0_; have BK147 := n1_; have GW147 := n2_; have GE147 := n3_; clear n0_ n1_ n2_ n3_; clear hb hbox hg) | ((with_reducible refine gate_callee (f := 22) rfl ?_); refine goesL_ (some 15) rfl rfl Try.func22 (by kernel_rfl) rfl #[.int .i64 a3] rfl (by (try simp only [List.map_toArray, List.map_cons, List.map_nil]); first | done | rfl | (simp only [List.length_drop, List.length_take]; rfl)) ?_; (with_reducible refine (paging_Cause.calls a3 t148 _ A5.out).mono ?_); rintro e w' ⟨rfl, ⟨nd, rfl⟩⟩; refine ⟨_, rfl, ?_⟩; (try (rw [drewN_self w7]; generalize hq_ : World.drewN w7 _ = w7; have n0_ : Aside0 (w7.heap[gb147]? = some (.cells #[.int .u32 0, .int .u32 0, .int .i64 0] 34 (0, 0))) := ⟨by rw [← hq_]; exact (by (with_reducible repeat (first | refine blk_drewN ?_ _ | refine blk_drew ?_ | refine blk_alloc ?_ _)); exact BK147.out)⟩; have n1_ : Aside0 (Below w.heap.size w w7) := ⟨by rw [← hq_]; exact (by repeat (first | (with_reducible first | exact HB.out | apply below_alloc | apply pw_below_drewN | apply below_drew1 | refine below_set ?_ GE147.out) | exact HB.out))⟩; clear BK147 HB hq_; have BK147 := n0_; have HB := n1_; clear n0_ n1_))) | ((with_reducible refine gate_dst (N := 9) rfl ?_); refine box_event ?hg (N := 9) ?hd (cs := #[.int .u32 0, .int .u32 0, .int .i64 0]) (t := 34) ?hr ?_; (case hd => rfl); (case hg => rfl); (case hr => first | (go_simp; done) | (go_simp; rfl)); intro gb149 hg w8 hbox hb; have n0_ := Aside0.mk (blk_below (g := gb147) (o := .cells #[.int .u32 0, .int .u32 0, .int .i64 0] 34 (0, 0)) (by (with_reducible repeat (first | refine blk_drewN ?_ _ | refine blk_drew ?_ | refine blk_alloc ?_ _)); exact BK147.out) hb); have n1_ := Aside0.mk (below_step (by repeat (first | (with_reducible first | exact HB.out | apply below_alloc | apply pw_below_drewN | apply below_drew1 | refine below_set ?_ GE147.out) | exact HB.out)) hb); have n2_ := Aside0.mk (hbox); have n3_ := Aside0.mk ((by rw [hg]; exact (below_size (by repeat (first | (with_reducible first | exact HB.out | apply below_alloc | apply pw_below_drewN | apply below_drew1 | refine below_set ?_ GE147.out) | exact HB.out))) : w.heap.size ≤ gb149)); have n4_ := Aside0.mk ((by rw [hg]; exact (below_size (by repeat (first | (with_reducible first | exact HB.out | apply below_alloc | apply pw_below_drewN | apply below_drew1 | refine below_set ?_ GE147.out) | exact HB.out))) : w.heap.size ≤ gb149)); have n5_ := Aside0.mk ((by rw [hg]; exact Nat.ne_of_lt (blk_lt (g := gb147) (o := .cells #[.int .u32 0, .int .u32 0, .int .i64 0] 34 (0, 0)) (by (with_reducible repeat (first | refine blk_drewN ?_ _ | refine blk_drew ?_ | refine blk_alloc ?_ _)); exact BK147.out)) : gb147 ≠ gb149)); have n6_ := Aside0.mk ((by rw [hg]; exact Nat.ne_of_gt (blk_lt (g := gb147) (o := .cells #[.int .u32 0, .int .u32 0, .int .i64 0] 34 (0, 0)) (by (with_reducible repeat (first | refine blk_drewN ?_ _ | refine blk_drew ?_ | refine blk_alloc ?_ _)); exact BK147.out)) : gb149 ≠ gb147)); clear BK147; clear HB; have BK147 := n0_; have HB := n1_; have BK149 := n2_; have GW149 := n3_; have GE149 := n4_; have NB147_149 := n5_; have NB149_147 := n6_; clear n0_ n1_ n2_ n3_ n4_ n5_ n6_; clear hb hbox hg; have hnb9 := NB149_147.out; have hnc9 := NB147_149.out; have hcz10_0 : w8.cell? ⟨gb149, 0, none⟩ = some (.int .u32 0) := (blk_cell BK149.out 0).trans rfl; have hcz10_1 : w8.cell? ⟨gb149, 1, none⟩ = some (.int .u32 0) := (blk_cell BK149.out 1).trans rfl; have hcz10_2 : w8.cell? ⟨gb149, 2, none⟩ = some (.int .i64 0) := (blk_cell BK149.out 2).trans rfl; have hfz10_0 := blk_frozen BK149.out 0; have hfz10_1 := blk_frozen BK149.out 1; have hfz10_2 := blk_frozen BK149.out 2))
  (try simp only [Act.put, List.setIfInBounds_toArray, List.set_cons_zero, List.set_cons_succ])
  go_cut [32] (fun v32 wc => ∃ (kq : Nat) (x32_5 : Bool), v32 = .bool x32_5 ∧ Aside0 (paging_Walk.j0 kq l0 a1 a2 a3 x32_5 0 0 t148 = some (r1, r2, r3)) ∧ Aside0 (kq ≤ k) ∧ Aside0 (wc.heap[gb147]? = some (.cells #[.int .u32 0, .int .u32 0, .int .i64 0] 34 (0, 0))) ∧ Aside0 (wc.heap[gb149]? = some (.cells #[.int .u32 0, .int .u32 0, .int .i64 t148] 34 (0, 0))) ∧ Aside0 (Below w.heap.size w wc))
  case first =>
    have H := HC6.out
    clear HC6
    by_cases c11 : a3 < 1
    · rw [if_pos c11] at H
      have c11b0 : decide (a3 < 1) = true := decide_eq_true c11
      clear c11
      (first | rw [c11b0] | (simp only [i64_w, i32_w]; rw [c11b0]) | skip)
      have H' := Aside0.mk H
      clear H
      go_wp2
      go_meet
      case rel => exact ⟨_, (true), (by first | rfl | (simp; done) | (simp [*]; done)), H', ⟨by first | omega | exact Nat.le_refl _⟩, ⟨by (with_reducible repeat (first | refine blk_drewN ?_ _ | refine blk_drew ?_ | refine blk_alloc ?_ _)); refine blk_far ?_ NB147_149.out _; (with_reducible repeat (first | refine blk_drewN ?_ _ | refine blk_drew ?_ | refine blk_alloc ?_ _)); refine blk_far ?_ NB147_149.out _; (with_reducible repeat (first | refine blk_drewN ?_ _ | refine blk_drew ?_ | refine blk_alloc ?_ _)); refine blk_far ?_ NB147_149.out _; (with_reducible repeat (first | refine blk_drewN ?_ _ | refine blk_drew ?_ | refine blk_alloc ?_ _)); exact BK147.out⟩, ⟨by (with_reducible repeat (first | refine blk_drewN ?_ _ | refine blk_drew ?_ | refine blk_alloc ?_ _)); refine blk_put (cs := #[.int .u32 0, .int .u32 0, .int .i64 0]) ?_ 2 _ rfl; (with_reducible repeat (first | refine blk_drewN ?_ _ | refine blk_drew ?_ | refine blk_alloc ?_ _)); refine blk_put (cs := #[.int .u32 0, .int .u32 0, .int .i64 0]) ?_ 1 _ rfl; (with_reducible repeat (first | refine blk_drewN ?_ _ | refine blk_drew ?_ | refine blk_alloc ?_ _)); refine blk_put (cs := #[.int .u32 0, .int .u32 0, .int .i64 0]) ?_ 0 _ rfl; (with_reducible repeat (first | refine blk_drewN ?_ _ | refine blk_drew ?_ | refine blk_alloc ?_ _)); exact BK149.out⟩, ⟨by repeat (first | (with_reducible first | exact HB.out | apply below_alloc | apply pw_below_drewN | apply below_drew1 | refine below_set ?_ GE147.out | refine below_set ?_ GE149.out) | exact HB.out)⟩⟩
    · rw [if_neg c11] at H
      have c11b0 : decide (a3 < 1) = false := decide_eq_false c11
      clear c11
      (first | rw [c11b0] | (simp only [i64_w, i32_w]; rw [c11b0]) | skip)
      by_cases c12 : a3 > 3
      · rw [if_pos c12] at H
        have c12b0 : decide (3 < a3) = true := decide_eq_true c12
        clear c12
        have H' := Aside0.mk H
        clear H
        go_wp2
        go_meet
        case rel => exact ⟨_, (true), (by first | rfl | (simp; done) | (simp [*]; done)), H', ⟨by first | omega | exact Nat.le_refl _⟩, ⟨by (with_reducible repeat (first | refine blk_drewN ?_ _ | refine blk_drew ?_ | refine blk_alloc ?_ _)); refine blk_far ?_ NB147_149.out _; (with_reducible repeat (first | refine blk_drewN ?_ _ | refine blk_drew ?_ | refine blk_alloc ?_ _)); refine blk_far ?_ NB147_149.out _; (with_reducible repeat (first | refine blk_drewN ?_ _ | refine blk_drew ?_ | refine blk_alloc ?_ _)); refine blk_far ?_ NB147_149.out _; (with_reducible repeat (first | refine blk_drewN ?_ _ | refine blk_drew ?_ | refine blk_alloc ?_ _)); exact BK147.out⟩, ⟨by (with_reducible repeat (first | refine blk_drewN ?_ _ | refine blk_drew ?_ | refine blk_alloc ?_ _)); refine blk_put (cs := #[.int .u32 0, .int .u32 0, .int .i64 0]) ?_ 2 _ rfl; (with_reducible repeat (first | refine blk_drewN ?_ _ | refine blk_drew ?_ | refine blk_alloc ?_ _)); refine blk_put (cs := #[.int .u32 0, .int .u32 0, .int .i64 0]) ?_ 1 _ rfl; (with_reducible repeat (first | refine blk_drewN ?_ _ | refine blk_drew ?_ | refine blk_alloc ?_ _)); refine blk_put (cs := #[.int .u32 0, .int .u32 0, .int .i64 0]) ?_ 0 _ rfl; (with_reducible repeat (first | refine blk_drewN ?_ _ | refine blk_drew ?_ | refine blk_alloc ?_ _)); exact BK149.out⟩, ⟨by repeat (first | (with_reducible first | exact HB.out | apply below_alloc | apply pw_below_drewN | apply below_drew1 | refine below_set ?_ GE147.out | refine below_set ?_ GE149.out) | exact HB.out)⟩⟩
      · rw [if_neg c12] at H
        have c12b0 : decide (3 < a3) = false := decide_eq_false c12
        clear c12
        by_cases c13 : a2 ≥ 4096
        · rw [if_pos c13] at H
          have c13b0 : decide (4096 ≤ a2) = true := decide_eq_true c13
          clear c13
          have H' := Aside0.mk H
          clear H
          go_wp2
          go_meet
          case rel => exact ⟨_, (true), (by first | rfl | (simp; done) | (simp [*]; done)), H', ⟨by first | omega | exact Nat.le_refl _⟩, ⟨by (with_reducible repeat (first | refine blk_drewN ?_ _ | refine blk_drew ?_ | refine blk_alloc ?_ _)); refine blk_far ?_ NB147_149.out _; (with_reducible repeat (first | refine blk_drewN ?_ _ | refine blk_drew ?_ | refine blk_alloc ?_ _)); refine blk_far ?_ NB147_149.out _; (with_reducible repeat (first | refine blk_drewN ?_ _ | refine blk_drew ?_ | refine blk_alloc ?_ _)); refine blk_far ?_ NB147_149.out _; (with_reducible repeat (first | refine blk_drewN ?_ _ | refine blk_drew ?_ | refine blk_alloc ?_ _)); exact BK147.out⟩, ⟨by (with_reducible repeat (first | refine blk_drewN ?_ _ | refine blk_drew ?_ | refine blk_alloc ?_ _)); refine blk_put (cs := #[.int .u32 0, .int .u32 0, .int .i64 0]) ?_ 2 _ rfl; (with_reducible repeat (first | refine blk_drewN ?_ _ | refine blk_drew ?_ | refine blk_alloc ?_ _)); refine blk_put (cs := #[.int .u32 0, .int .u32 0, .int .i64 0]) ?_ 1 _ rfl; (with_reducible repeat (first | refine blk_drewN ?_ _ | refine blk_drew ?_ | refine blk_alloc ?_ _)); refine blk_put (cs := #[.int .u32 0, .int .u32 0, .int .i64 0]) ?_ 0 _ rfl; (with_reducible repeat (first | refine blk_drewN ?_ _ | refine blk_drew ?_ | refine blk_alloc ?_ _)); exact BK149.out⟩, ⟨by repeat (first | (with_reducible first | exact HB.out | apply below_alloc | apply pw_below_drewN | apply below_drew1 | refine below_set ?_ GE147.out | refine below_set ?_ GE149.out) | exact HB.out)⟩⟩
        · rw [if_neg c13] at H
          have c13b0 : decide (4096 ≤ a2) = false := decide_eq_false c13
          clear c13
          replace H := Option.bind_eq_some_iff.mp H
          obtain ⟨t150, A140, H⟩ := H
          replace H : (paging_Walk.j0 k l0 a1 a2 a3 (!t150) 0 0 t148) = some (r1, r2, r3) := H
          have A14 := Aside0.mk A140
          clear A140
          have H' := Aside0.mk H
          clear H
          go_wp2_with (first | (go_at_call 23; (with_reducible refine (paging_page.calls _ _ l0 a1 t150 _ ?side1 ?side2 A14.out).mono ?_); (case side1 => exact Kd.C_below HR0.out (by repeat (first | (with_reducible first | exact HB.out | apply below_alloc | apply pw_below_drewN | apply below_drew1 | refine below_set ?_ GE147.out | refine below_set ?_ GE149.out) | exact HB.out))); (case side2 => exact HC0.out); rintro e w' ⟨rfl, ⟨nd, rfl⟩⟩))
          go_meet
          case rel => exact ⟨_, (!t150), (by first | rfl | (simp; done) | (simp [*]; done)), H', ⟨by first | omega | exact Nat.le_refl _⟩, ⟨by (with_reducible repeat (first | refine blk_drewN ?_ _ | refine blk_drew ?_ | refine blk_alloc ?_ _)); refine blk_far ?_ NB147_149.out _; (with_reducible repeat (first | refine blk_drewN ?_ _ | refine blk_drew ?_ | refine blk_alloc ?_ _)); refine blk_far ?_ NB147_149.out _; (with_reducible repeat (first | refine blk_drewN ?_ _ | refine blk_drew ?_ | refine blk_alloc ?_ _)); refine blk_far ?_ NB147_149.out _; (with_reducible repeat (first | refine blk_drewN ?_ _ | refine blk_drew ?_ | refine blk_alloc ?_ _)); exact BK147.out⟩, ⟨by (with_reducible repeat (first | refine blk_drewN ?_ _ | refine blk_drew ?_ | refine blk_alloc ?_ _)); refine blk_put (cs := #[.int .u32 0, .int .u32 0, .int .i64 0]) ?_ 2 _ rfl; (with_reducible repeat (first | refine blk_drewN ?_ _ | refine blk_drew ?_ | refine blk_alloc ?_ _)); refine blk_put (cs := #[.int .u32 0, .int .u32 0, .int .i64 0]) ?_ 1 _ rfl; (with_reducible repeat (first | refine blk_drewN ?_ _ | refine blk_drew ?_ | refine blk_alloc ?_ _)); refine blk_put (cs := #[.int .u32 0, .int .u32 0, .int .i64 0]) ?_ 0 _ rfl; (with_reducible repeat (first | refine blk_drewN ?_ _ | refine blk_drew ?_ | refine blk_alloc ?_ _)); exact BK149.out⟩, ⟨by repeat (first | (with_reducible first | exact HB.out | apply below_alloc | apply pw_below_drewN | apply below_drew1 | refine below_set ?_ GE147.out | refine below_set ?_ GE149.out) | exact HB.out)⟩⟩
  case rest =>
    clear HC6
    try clear c1
    try clear c2
    try clear p2
    try clear c9
    try clear c10
    try clear c11
    try clear c11b0
    try clear c12
    try clear c12b0
    try clear c13
    try clear c13b0
    try clear hcz10_0
    try clear hcz10_1
    try clear hcz10_2
    try clear hfz10_0
    try clear hfz10_1
    try clear hfz10_2
    obtain ⟨kq, x32_5, rfl, HA, HJ5, BK147, BK149, HB⟩ := hcut
    cases kq with
    | zero => exact absurd HA.out (by simp [paging_Walk.j0])
    | succ kj5 =>
      have H := HA.out
      clear HA
      simp only [paging_Walk.j0] at H
      by_cases c15 : x32_5 = true
      · subst c15
        have H1 : (some (0, 0, t148)) = some (r1, r2, r3) := by rw [if_pos rfl] at H; exact H
        clear H
        have H := H1
        clear H1
        simp only [Option.some.injEq, Prod.mk.injEq] at H
        obtain ⟨rfl, rfl, rfl⟩ := H
        have hnb16 := NB149_147.out
        have hnc16 := NB147_149.out
        have hcz17_0 : wc.cell? ⟨gb149, 0, none⟩ = some (.int .u32 0) := (blk_cell BK149.out 0).trans rfl
        have hcz17_1 : wc.cell? ⟨gb149, 1, none⟩ = some (.int .u32 0) := (blk_cell BK149.out 1).trans rfl
        have hcz17_2 : wc.cell? ⟨gb149, 2, none⟩ = some (.int .i64 t148) := (blk_cell BK149.out 2).trans rfl
        have hfz17_0 := blk_frozen BK149.out 0
        have hfz17_1 := blk_frozen BK149.out 1
        have hfz17_2 := blk_frozen BK149.out 2
        have hcz18_0 : wc.cell? ⟨gb147, 0, none⟩ = some (.int .u32 0) := (blk_cell BK147.out 0).trans rfl
        have hcz18_1 : wc.cell? ⟨gb147, 1, none⟩ = some (.int .u32 0) := (blk_cell BK147.out 1).trans rfl
        have hcz18_2 : wc.cell? ⟨gb147, 2, none⟩ = some (.int .i64 0) := (blk_cell BK147.out 2).trans rfl
        have hfz18_0 := blk_frozen BK147.out 0
        have hfz18_1 := blk_frozen BK147.out 1
        have hfz18_2 := blk_frozen BK147.out 2
        go_wp2
        refine bodyPost_ret (results_cell_row rfl _ _ gb147 34 #[.int .u32 0, .int .u32 0, .int .i64 t148] (0, 0) _ rfl (by (with_reducible repeat (first | refine blk_drewN ?_ _ | refine blk_drew ?_ | refine blk_alloc ?_ _)); refine blk_put (cs := #[.int .u32 0, .int .u32 0, .int .i64 0]) ?_ 2 _ rfl; (with_reducible repeat (first | refine blk_drewN ?_ _ | refine blk_drew ?_ | refine blk_alloc ?_ _)); refine blk_put (cs := #[.int .u32 0, .int .u32 0, .int .i64 0]) ?_ 1 _ rfl; (with_reducible repeat (first | refine blk_drewN ?_ _ | refine blk_drew ?_ | refine blk_alloc ?_ _)); refine blk_put (cs := #[.int .u32 0, .int .u32 0, .int .i64 0]) ?_ 0 _ rfl; (with_reducible repeat (first | refine blk_drewN ?_ _ | refine blk_drew ?_ | refine blk_alloc ?_ _)); exact BK147.out) Try.underlying34 rfl (by kernel_rfl)) rfl ?_
        exact ⟨by first | rfl | (simp [errW_none, errW_some] <;> rfl) | (simp [*, errW_none, errW_some] <;> rfl), by repeat (first | (with_reducible first | exact HB.out | apply below_alloc | apply pw_below_drewN | apply below_drew1 | refine below_set ?_ GE147.out | refine below_set ?_ GE149.out) | exact HB.out)⟩
      · replace c15 := Bool.eq_false_iff.mpr c15
        subst c15
        have H1 : ((paging_Entry.f a1 ((Int.tdiv a2 128) % 4294967296)).bind fun t151 => ((memory_Load.f l0 t151 4).bind fun bt152 => (if a3 = 1 then (paging_Walk.j1 kj5 l0 a2 t151 bt152.1 (Go.bits .or .u32 1 4) 0 0 t148) else (if a3 = 3 then (paging_Walk.j1 kj5 l0 a2 t151 bt152.1 (Go.bits .or .u32 1 2) 0 0 t148) else (paging_Walk.j1 kj5 l0 a2 t151 bt152.1 1 0 0 t148))))) = some (r1, r2, r3) := by rw [if_neg (show ¬ (false = true) by decide)] at H; exact H
        clear H
        have H := H1
        clear H1
        replace H := Option.bind_eq_some_iff.mp H
        obtain ⟨t151, A190, H⟩ := H
        replace H : ((memory_Load.f l0 t151 4).bind fun bt152 => (if a3 = 1 then (paging_Walk.j1 kj5 l0 a2 t151 bt152.1 (Go.bits .or .u32 1 4) 0 0 t148) else (if a3 = 3 then (paging_Walk.j1 kj5 l0 a2 t151 bt152.1 (Go.bits .or .u32 1 2) 0 0 t148) else (paging_Walk.j1 kj5 l0 a2 t151 bt152.1 1 0 0 t148)))) = some (r1, r2, r3) := H
        have A19 := Aside0.mk A190
        clear A190
        replace H := Option.bind_eq_some_iff.mp H
        obtain ⟨⟨t152, t153⟩, A200, H⟩ := H
        replace H : (if a3 = 1 then (paging_Walk.j1 kj5 l0 a2 t151 t152 (Go.bits .or .u32 1 4) 0 0 t148) else (if a3 = 3 then (paging_Walk.j1 kj5 l0 a2 t151 t152 (Go.bits .or .u32 1 2) 0 0 t148) else (paging_Walk.j1 kj5 l0 a2 t151 t152 1 0 0 t148))) = some (r1, r2, r3) := H
        have A20 := Aside0.mk A200
        clear A200
        have HC21 := Aside0.mk H
        clear H
        go_upto_block 0 with (first | ((with_reducible refine gate_callee (f := 24) rfl ?_); refine goesL_ (some 37) rfl rfl Try.func24 (by kernel_rfl) rfl #[.int .u32 a1, .int .u32 ((Int.tdiv a2 128) % 4294967296)] rfl (by (try simp only [List.map_toArray, List.map_cons, List.map_nil]); first | done | rfl | (simp only [List.length_drop, List.length_take]; rfl)) ?_; (with_reducible refine (paging_Entry.calls a1 ((Int.tdiv a2 128) % 4294967296) t151 _ A19.out).mono ?_); rintro e w' ⟨rfl, ⟨nd, rfl⟩⟩; refine ⟨_, rfl, ?_⟩) | ((with_reducible refine gate_callee (f := 25) rfl ?_); refine goesL_ (some 41) rfl rfl Try.func25 (by kernel_rfl) rfl #[.slice A0 l0.length c0, .int .u32 t151, .int .i64 4] rfl (by (try simp only [List.map_toArray, List.map_cons, List.map_nil]); first | done | rfl | (simp only [List.length_drop, List.length_take]; rfl)) ?_; (with_reducible refine (memory_Load.calls _ _ l0 t151 4 t152 t153 _ ?side1 ?side2 A20.out).mono ?_); (case side1 => repeat (first | exact (Kd.C_below HR0.out (by repeat (first | (with_reducible first | exact HB.out | apply below_alloc | apply pw_below_drewN | apply below_drew1 | refine below_set ?_ GE147.out | refine below_set ?_ GE149.out) | exact HB.out))) | (with_reducible refine Kd.C_alloc ?_ _) | (with_reducible refine Kd.C_drewN ?_ _) | (with_reducible refine Kd.C_drew ?_))); (case side2 => exact HC0.out); rintro e w' ⟨rfl, ⟨nd, rfl⟩⟩; refine ⟨_, rfl, ?_⟩))
        (try simp only [Act.put, List.setIfInBounds_toArray, List.set_cons_zero, List.set_cons_succ])
        go_cut [13] (fun v13 wc => ∃ (kq : Nat) (x13_20 : Int), v13 = .int .u32 x13_20 ∧ Aside0 (paging_Walk.j1 kq l0 a2 t151 t152 x13_20 0 0 t148 = some (r1, r2, r3)) ∧ Aside0 (kq ≤ kj5) ∧ Aside0 (wc.heap[gb147]? = some (.cells #[.int .u32 0, .int .u32 0, .int .i64 0] 34 (0, 0))) ∧ Aside0 (wc.heap[gb149]? = some (.cells #[.int .u32 0, .int .u32 0, .int .i64 t148] 34 (0, 0))) ∧ Aside0 (Below w.heap.size w wc))
        case first =>
          have H := HC21.out
          clear HC21
          by_cases c22 : a3 = 1
          · rw [if_pos c22] at H
            have c22b0 : (a3 == 1) = true := beq_iff_eq.mpr c22
            have c22b1 : (a3 != 1) = false := bne_eq_false_iff_eq.mpr c22
            clear c22
            (first | rw [c22b0] | (simp only [i64_w, i32_w]; rw [c22b0]) | skip)
            have H' := Aside0.mk H
            clear H
            go_wp2
            go_meet
            case rel => exact ⟨_, (Go.bits .or .u32 1 4), (by first | rfl | (simp; done) | (simp [*]; done)), H', ⟨by have := HJ5.out; first | omega | exact Nat.le_refl _⟩, ⟨by (with_reducible repeat (first | refine blk_drewN ?_ _ | refine blk_drew ?_ | refine blk_alloc ?_ _)); exact BK147.out⟩, ⟨by (with_reducible repeat (first | refine blk_drewN ?_ _ | refine blk_drew ?_ | refine blk_alloc ?_ _)); exact BK149.out⟩, ⟨by repeat (first | (with_reducible first | exact HB.out | apply below_alloc | apply pw_below_drewN | apply below_drew1 | refine below_set ?_ GE147.out | refine below_set ?_ GE149.out) | exact HB.out)⟩⟩
          · rw [if_neg c22] at H
            have c22b0 : (a3 == 1) = false := beq_eq_false_iff_ne.mpr c22
            have c22b1 : (a3 != 1) = true := bne_iff_ne.mpr c22
            (first | rw [c22b0] | (simp only [i64_w, i32_w]; rw [c22b0]) | skip)
            by_cases c23 : a3 = 3
            · rw [if_pos c23] at H
              have c23b0 : (a3 == 3) = true := beq_iff_eq.mpr c23
              have c23b1 : (a3 != 3) = false := bne_eq_false_iff_eq.mpr c23
              clear c23
              have H' := Aside0.mk H
              clear H
              go_wp2
              go_meet
              case rel => exact ⟨_, (Go.bits .or .u32 1 2), (by first | rfl | (simp; done) | (simp [*]; done)), H', ⟨by have := HJ5.out; first | omega | exact Nat.le_refl _⟩, ⟨by (with_reducible repeat (first | refine blk_drewN ?_ _ | refine blk_drew ?_ | refine blk_alloc ?_ _)); exact BK147.out⟩, ⟨by (with_reducible repeat (first | refine blk_drewN ?_ _ | refine blk_drew ?_ | refine blk_alloc ?_ _)); exact BK149.out⟩, ⟨by repeat (first | (with_reducible first | exact HB.out | apply below_alloc | apply pw_below_drewN | apply below_drew1 | refine below_set ?_ GE147.out | refine below_set ?_ GE149.out) | exact HB.out)⟩⟩
            · rw [if_neg c23] at H
              have c23b0 : (a3 == 3) = false := beq_eq_false_iff_ne.mpr c23
              have c23b1 : (a3 != 3) = true := bne_iff_ne.mpr c23
              have H' := Aside0.mk H
              clear H
              go_wp2
              go_meet
              case rel => exact ⟨_, (1), (by first | rfl | (simp; done) | (simp [*]; done)), H', ⟨by have := HJ5.out; first | omega | exact Nat.le_refl _⟩, ⟨by (with_reducible repeat (first | refine blk_drewN ?_ _ | refine blk_drew ?_ | refine blk_alloc ?_ _)); exact BK147.out⟩, ⟨by (with_reducible repeat (first | refine blk_drewN ?_ _ | refine blk_drew ?_ | refine blk_alloc ?_ _)); exact BK149.out⟩, ⟨by repeat (first | (with_reducible first | exact HB.out | apply below_alloc | apply pw_below_drewN | apply below_drew1 | refine below_set ?_ GE147.out | refine below_set ?_ GE149.out) | exact HB.out)⟩⟩
        case rest =>
          clear HC21
          try clear c1
          try clear c2
          try clear p2
          try clear c9
          try clear c10
          try clear c11
          try clear c11b0
          try clear c12
          try clear c12b0
          try clear c13
          try clear c13b0
          try clear c15
          try clear c16
          try clear c22
          try clear c22b0
          try clear c22b1
          try clear c23
          try clear c23b0
          try clear c23b1
          try clear hcz10_0
          try clear hcz10_1
          try clear hcz10_2
          try clear hcz17_0
          try clear hcz17_1
          try clear hcz17_2
          try clear hcz18_0
          try clear hcz18_1
          try clear hcz18_2
          try clear hfz10_0
          try clear hfz10_1
          try clear hfz10_2
          try clear hfz17_0
          try clear hfz17_1
          try clear hfz17_2
          try clear hfz18_0
          try clear hfz18_1
          try clear hfz18_2
          try clear p2
          obtain ⟨kq, x13_20, rfl, HA, HJ20, BK147, BK149, HB⟩ := hcut
          cases kq with
          | zero => exact absurd HA.out (by simp [paging_Walk.j1])
          | succ kj20 =>
            have H := HA.out
            clear HA
            simp only [paging_Walk.j1] at H
            by_cases c24 : (Go.bits .and .u32 t152 x13_20) = x13_20
            · rw [if_pos c24] at H
              have c24b0 : ((Go.bits .and .u32 t152 x13_20) == x13_20) = true := beq_iff_eq.mpr c24
              have c24b1 : ((Go.bits .and .u32 t152 x13_20) != x13_20) = false := bne_eq_false_iff_eq.mpr c24
              clear c24
              replace H := Option.bind_eq_some_iff.mp H
              obtain ⟨t154, A250, H⟩ := H
              replace H : ((paging_page.f l0 t154).bind fun t155 => (if t155 = true then ((paging_Frame.f t152).bind fun t156 => (some (((t156 * 128) + (Int.tmod a2 128)) % 4294967296, t151, 0))) else (some (0, 0, t148)))) = some (r1, r2, r3) := H
              have A25 := Aside0.mk A250
              clear A250
              replace H := Option.bind_eq_some_iff.mp H
              obtain ⟨t155, A260, H⟩ := H
              replace H : (if t155 = true then ((paging_Frame.f t152).bind fun t156 => (some (((t156 * 128) + (Int.tmod a2 128)) % 4294967296, t151, 0))) else (some (0, 0, t148))) = some (r1, r2, r3) := H
              have A26 := Aside0.mk A260
              clear A260
              by_cases c27 : t155 = true
              · subst c27
                have H1 : ((paging_Frame.f t152).bind fun t156 => (some (((t156 * 128) + (Int.tmod a2 128)) % 4294967296, t151, 0))) = some (r1, r2, r3) := by rw [if_pos rfl] at H; exact H
                clear H
                have H := H1
                clear H1
                replace H := Option.bind_eq_some_iff.mp H
                obtain ⟨t156, A280, H⟩ := H
                replace H : (some (((t156 * 128) + (Int.tmod a2 128)) % 4294967296, t151, 0)) = some (r1, r2, r3) := H
                have A28 := Aside0.mk A280
                clear A280
                simp only [Option.some.injEq, Prod.mk.injEq] at H
                obtain ⟨rfl, rfl, rfl⟩ := H
                go_wp2_with (first | (go_at_call 26; (with_reducible refine (paging_Frame.calls t152 t154 _ A25.out).mono ?_); rintro e w' ⟨rfl, ⟨nd, rfl⟩⟩; (try (rw [drewN_self wc]; generalize hq_ : World.drewN wc _ = wc; have n0_ : Aside0 (wc.heap[gb147]? = some (.cells #[.int .u32 0, .int .u32 0, .int .i64 0] 34 (0, 0))) := ⟨by rw [← hq_]; exact (by (with_reducible repeat (first | refine blk_drewN ?_ _ | refine blk_drew ?_ | refine blk_alloc ?_ _)); exact BK147.out)⟩; have n1_ : Aside0 (wc.heap[gb149]? = some (.cells #[.int .u32 0, .int .u32 0, .int .i64 t148] 34 (0, 0))) := ⟨by rw [← hq_]; exact (by (with_reducible repeat (first | refine blk_drewN ?_ _ | refine blk_drew ?_ | refine blk_alloc ?_ _)); exact BK149.out)⟩; have n2_ : Aside0 (Below w.heap.size w wc) := ⟨by rw [← hq_]; exact (by repeat (first | (with_reducible first | exact HB.out | apply below_alloc | apply pw_below_drewN | apply below_drew1 | refine below_set ?_ GE147.out | refine below_set ?_ GE149.out) | exact HB.out))⟩; clear BK147 BK149 HB hq_; have BK147 := n0_; have BK149 := n1_; have HB := n2_; clear n0_ n1_ n2_))) | (go_at_call 23; (with_reducible refine (paging_page.calls _ _ l0 t154 true _ ?side1 ?side2 A26.out).mono ?_); (case side1 => repeat (first | exact (Kd.C_below HR0.out HB.out) | (with_reducible refine Kd.C_alloc ?_ _) | (with_reducible refine Kd.C_drewN ?_ _) | (with_reducible refine Kd.C_drew ?_))); (case side2 => exact HC0.out); rintro e w' ⟨rfl, ⟨nd, rfl⟩⟩; (try (rw [drewN_self wc]; generalize hq_ : World.drewN wc _ = wc; have n0_ : Aside0 (wc.heap[gb147]? = some (.cells #[.int .u32 0, .int .u32 0, .int .i64 0] 34 (0, 0))) := ⟨by rw [← hq_]; exact (by (with_reducible repeat (first | refine blk_drewN ?_ _ | refine blk_drew ?_ | refine blk_alloc ?_ _)); exact BK147.out)⟩; have n1_ : Aside0 (wc.heap[gb149]? = some (.cells #[.int .u32 0, .int .u32 0, .int .i64 t148] 34 (0, 0))) := ⟨by rw [← hq_]; exact (by (with_reducible repeat (first | refine blk_drewN ?_ _ | refine blk_drew ?_ | refine blk_alloc ?_ _)); exact BK149.out)⟩; have n2_ : Aside0 (Below w.heap.size w wc) := ⟨by rw [← hq_]; exact (by repeat (first | (with_reducible first | exact HB.out | apply below_alloc | apply pw_below_drewN | apply below_drew1 | refine below_set ?_ GE147.out | refine below_set ?_ GE149.out) | exact HB.out))⟩; clear BK147 BK149 HB hq_; have BK147 := n0_; have BK149 := n1_; have HB := n2_; clear n0_ n1_ n2_))) | ((with_reducible refine gate_callee (f := 26) rfl ?_); refine goesL_ (some 67) rfl rfl Try.func26 (by kernel_rfl) rfl #[.int .u32 t152] rfl (by (try simp only [List.map_toArray, List.map_cons, List.map_nil]); first | done | rfl | (simp only [List.length_drop, List.length_take]; rfl)) ?_; (with_reducible refine (paging_Frame.calls t152 t156 _ A28.out).mono ?_); rintro e w' ⟨rfl, ⟨nd, rfl⟩⟩; refine ⟨_, rfl, ?_⟩; (try (rw [drewN_self wc]; generalize hq_ : World.drewN wc _ = wc; have n0_ : Aside0 (wc.heap[gb147]? = some (.cells #[.int .u32 0, .int .u32 0, .int .i64 0] 34 (0, 0))) := ⟨by rw [← hq_]; exact (by (with_reducible repeat (first | refine blk_drewN ?_ _ | refine blk_drew ?_ | refine blk_alloc ?_ _)); exact BK147.out)⟩; have n1_ : Aside0 (wc.heap[gb149]? = some (.cells #[.int .u32 0, .int .u32 0, .int .i64 t148] 34 (0, 0))) := ⟨by rw [← hq_]; exact (by (with_reducible repeat (first | refine blk_drewN ?_ _ | refine blk_drew ?_ | refine blk_alloc ?_ _)); exact BK149.out)⟩; have n2_ : Aside0 (Below w.heap.size w wc) := ⟨by rw [← hq_]; exact (by repeat (first | (with_reducible first | exact HB.out | apply below_alloc | apply pw_below_drewN | apply below_drew1 | refine below_set ?_ GE147.out | refine below_set ?_ GE149.out) | exact HB.out))⟩; clear BK147 BK149 HB hq_; have BK147 := n0_; have BK149 := n1_; have HB := n2_; clear n0_ n1_ n2_)); have hnb29 := NB147_149.out; have hnc29 := NB149_147.out; have hcz30_0 : wc.cell? ⟨gb147, 0, none⟩ = some (.int .u32 0) := (blk_cell BK147.out 0).trans rfl; have hcz30_1 : wc.cell? ⟨gb147, 1, none⟩ = some (.int .u32 0) := (blk_cell BK147.out 1).trans rfl; have hcz30_2 : wc.cell? ⟨gb147, 2, none⟩ = some (.int .i64 0) := (blk_cell BK147.out 2).trans rfl; have hfz30_0 := blk_frozen BK147.out 0; have hfz30_1 := blk_frozen BK147.out 1; have hfz30_2 := blk_frozen BK147.out 2))
                refine bodyPost_ret (results_cell_row rfl _ _ gb147 34 #[.int .u32 (((t156 * 128) + (Int.tmod a2 128)) % 4294967296), .int .u32 t151, .int .i64 0] (0, 0) _ rfl (by (with_reducible repeat (first | refine blk_drewN ?_ _ | refine blk_drew ?_ | refine blk_alloc ?_ _)); refine blk_put (cs := #[.int .u32 (((t156 * 128) + (Int.tmod a2 128)) % 4294967296), .int .u32 t151, .int .i64 0]) ?_ 2 _ rfl; (with_reducible repeat (first | refine blk_drewN ?_ _ | refine blk_drew ?_ | refine blk_alloc ?_ _)); refine blk_put (cs := #[.int .u32 (((t156 * 128) + (Int.tmod a2 128)) % 4294967296), .int .u32 0, .int .i64 0]) ?_ 1 _ rfl; (with_reducible repeat (first | refine blk_drewN ?_ _ | refine blk_drew ?_ | refine blk_alloc ?_ _)); refine blk_put (cs := #[.int .u32 0, .int .u32 0, .int .i64 0]) ?_ 0 _ rfl; (with_reducible repeat (first | refine blk_drewN ?_ _ | refine blk_drew ?_ | refine blk_alloc ?_ _)); exact BK147.out) Try.underlying34 rfl (by kernel_rfl)) rfl ?_
                exact ⟨by first | rfl | (simp [errW_none, errW_some] <;> rfl) | (simp [*, errW_none, errW_some] <;> rfl), by repeat (first | (with_reducible first | exact HB.out | apply below_alloc | apply pw_below_drewN | apply below_drew1 | refine below_set ?_ GE147.out | refine below_set ?_ GE149.out) | exact HB.out)⟩
              · replace c27 := Bool.eq_false_iff.mpr c27
                subst c27
                have H1 : (some (0, 0, t148)) = some (r1, r2, r3) := by rw [if_neg (show ¬ (false = true) by decide)] at H; exact H
                clear H
                have H := H1
                clear H1
                simp only [Option.some.injEq, Prod.mk.injEq] at H
                obtain ⟨rfl, rfl, rfl⟩ := H
                go_wp2_with (first | (go_at_call 26; (with_reducible refine (paging_Frame.calls t152 t154 _ A25.out).mono ?_); rintro e w' ⟨rfl, ⟨nd, rfl⟩⟩; (try (rw [drewN_self wc]; generalize hq_ : World.drewN wc _ = wc; have n0_ : Aside0 (wc.heap[gb147]? = some (.cells #[.int .u32 0, .int .u32 0, .int .i64 0] 34 (0, 0))) := ⟨by rw [← hq_]; exact (by (with_reducible repeat (first | refine blk_drewN ?_ _ | refine blk_drew ?_ | refine blk_alloc ?_ _)); exact BK147.out)⟩; have n1_ : Aside0 (wc.heap[gb149]? = some (.cells #[.int .u32 0, .int .u32 0, .int .i64 t148] 34 (0, 0))) := ⟨by rw [← hq_]; exact (by (with_reducible repeat (first | refine blk_drewN ?_ _ | refine blk_drew ?_ | refine blk_alloc ?_ _)); exact BK149.out)⟩; have n2_ : Aside0 (Below w.heap.size w wc) := ⟨by rw [← hq_]; exact (by repeat (first | (with_reducible first | exact HB.out | apply below_alloc | apply pw_below_drewN | apply below_drew1 | refine below_set ?_ GE147.out | refine below_set ?_ GE149.out) | exact HB.out))⟩; clear BK147 BK149 HB hq_; have BK147 := n0_; have BK149 := n1_; have HB := n2_; clear n0_ n1_ n2_))) | (go_at_call 23; (with_reducible refine (paging_page.calls _ _ l0 t154 false _ ?side1 ?side2 A26.out).mono ?_); (case side1 => repeat (first | exact (Kd.C_below HR0.out HB.out) | (with_reducible refine Kd.C_alloc ?_ _) | (with_reducible refine Kd.C_drewN ?_ _) | (with_reducible refine Kd.C_drew ?_))); (case side2 => exact HC0.out); rintro e w' ⟨rfl, ⟨nd, rfl⟩⟩; (try (rw [drewN_self wc]; generalize hq_ : World.drewN wc _ = wc; have n0_ : Aside0 (wc.heap[gb147]? = some (.cells #[.int .u32 0, .int .u32 0, .int .i64 0] 34 (0, 0))) := ⟨by rw [← hq_]; exact (by (with_reducible repeat (first | refine blk_drewN ?_ _ | refine blk_drew ?_ | refine blk_alloc ?_ _)); exact BK147.out)⟩; have n1_ : Aside0 (wc.heap[gb149]? = some (.cells #[.int .u32 0, .int .u32 0, .int .i64 t148] 34 (0, 0))) := ⟨by rw [← hq_]; exact (by (with_reducible repeat (first | refine blk_drewN ?_ _ | refine blk_drew ?_ | refine blk_alloc ?_ _)); exact BK149.out)⟩; have n2_ : Aside0 (Below w.heap.size w wc) := ⟨by rw [← hq_]; exact (by repeat (first | (with_reducible first | exact HB.out | apply below_alloc | apply pw_below_drewN | apply below_drew1 | refine below_set ?_ GE147.out | refine below_set ?_ GE149.out) | exact HB.out))⟩; clear BK147 BK149 HB hq_; have BK147 := n0_; have BK149 := n1_; have HB := n2_; clear n0_ n1_ n2_)); have hnb31 := NB149_147.out; have hnc31 := NB147_149.out; have hcz32_0 : wc.cell? ⟨gb149, 0, none⟩ = some (.int .u32 0) := (blk_cell BK149.out 0).trans rfl; have hcz32_1 : wc.cell? ⟨gb149, 1, none⟩ = some (.int .u32 0) := (blk_cell BK149.out 1).trans rfl; have hcz32_2 : wc.cell? ⟨gb149, 2, none⟩ = some (.int .i64 t148) := (blk_cell BK149.out 2).trans rfl; have hfz32_0 := blk_frozen BK149.out 0; have hfz32_1 := blk_frozen BK149.out 1; have hfz32_2 := blk_frozen BK149.out 2; have hcz33_0 : wc.cell? ⟨gb147, 0, none⟩ = some (.int .u32 0) := (blk_cell BK147.out 0).trans rfl; have hcz33_1 : wc.cell? ⟨gb147, 1, none⟩ = some (.int .u32 0) := (blk_cell BK147.out 1).trans rfl; have hcz33_2 : wc.cell? ⟨gb147, 2, none⟩ = some (.int .i64 0) := (blk_cell BK147.out 2).trans rfl; have hfz33_0 := blk_frozen BK147.out 0; have hfz33_1 := blk_frozen BK147.out 1; have hfz33_2 := blk_frozen BK147.out 2))
                refine bodyPost_ret (results_cell_row rfl _ _ gb147 34 #[.int .u32 0, .int .u32 0, .int .i64 t148] (0, 0) _ rfl (by (with_reducible repeat (first | refine blk_drewN ?_ _ | refine blk_drew ?_ | refine blk_alloc ?_ _)); refine blk_put (cs := #[.int .u32 0, .int .u32 0, .int .i64 0]) ?_ 2 _ rfl; (with_reducible repeat (first | refine blk_drewN ?_ _ | refine blk_drew ?_ | refine blk_alloc ?_ _)); refine blk_put (cs := #[.int .u32 0, .int .u32 0, .int .i64 0]) ?_ 1 _ rfl; (with_reducible repeat (first | refine blk_drewN ?_ _ | refine blk_drew ?_ | refine blk_alloc ?_ _)); refine blk_put (cs := #[.int .u32 0, .int .u32 0, .int .i64 0]) ?_ 0 _ rfl; (with_reducible repeat (first | refine blk_drewN ?_ _ | refine blk_drew ?_ | refine blk_alloc ?_ _)); exact BK147.out) Try.underlying34 rfl (by kernel_rfl)) rfl ?_
                exact ⟨by first | rfl | (simp [errW_none, errW_some] <;> rfl) | (simp [*, errW_none, errW_some] <;> rfl), by repeat (first | (with_reducible first | exact HB.out | apply below_alloc | apply pw_below_drewN | apply below_drew1 | refine below_set ?_ GE147.out | refine below_set ?_ GE149.out) | exact HB.out)⟩
            · rw [if_neg c24] at H
              have c24b0 : ((Go.bits .and .u32 t152 x13_20) == x13_20) = false := beq_eq_false_iff_ne.mpr c24
              have c24b1 : ((Go.bits .and .u32 t152 x13_20) != x13_20) = true := bne_iff_ne.mpr c24
              simp only [Option.some.injEq, Prod.mk.injEq] at H
              obtain ⟨rfl, rfl, rfl⟩ := H
              have hnb34 := NB149_147.out
              have hnc34 := NB147_149.out
              have hcz35_0 : wc.cell? ⟨gb149, 0, none⟩ = some (.int .u32 0) := (blk_cell BK149.out 0).trans rfl
              have hcz35_1 : wc.cell? ⟨gb149, 1, none⟩ = some (.int .u32 0) := (blk_cell BK149.out 1).trans rfl
              have hcz35_2 : wc.cell? ⟨gb149, 2, none⟩ = some (.int .i64 t148) := (blk_cell BK149.out 2).trans rfl
              have hfz35_0 := blk_frozen BK149.out 0
              have hfz35_1 := blk_frozen BK149.out 1
              have hfz35_2 := blk_frozen BK149.out 2
              have hcz36_0 : wc.cell? ⟨gb147, 0, none⟩ = some (.int .u32 0) := (blk_cell BK147.out 0).trans rfl
              have hcz36_1 : wc.cell? ⟨gb147, 1, none⟩ = some (.int .u32 0) := (blk_cell BK147.out 1).trans rfl
              have hcz36_2 : wc.cell? ⟨gb147, 2, none⟩ = some (.int .i64 0) := (blk_cell BK147.out 2).trans rfl
              have hfz36_0 := blk_frozen BK147.out 0
              have hfz36_1 := blk_frozen BK147.out 1
              have hfz36_2 := blk_frozen BK147.out 2
              go_wp2
              refine bodyPost_ret (results_cell_row rfl _ _ gb147 34 #[.int .u32 0, .int .u32 0, .int .i64 t148] (0, 0) _ rfl (by (with_reducible repeat (first | refine blk_drewN ?_ _ | refine blk_drew ?_ | refine blk_alloc ?_ _)); refine blk_put (cs := #[.int .u32 0, .int .u32 0, .int .i64 0]) ?_ 2 _ rfl; (with_reducible repeat (first | refine blk_drewN ?_ _ | refine blk_drew ?_ | refine blk_alloc ?_ _)); refine blk_put (cs := #[.int .u32 0, .int .u32 0, .int .i64 0]) ?_ 1 _ rfl; (with_reducible repeat (first | refine blk_drewN ?_ _ | refine blk_drew ?_ | refine blk_alloc ?_ _)); refine blk_put (cs := #[.int .u32 0, .int .u32 0, .int .i64 0]) ?_ 0 _ rfl; (with_reducible repeat (first | refine blk_drewN ?_ _ | refine blk_drew ?_ | refine blk_alloc ?_ _)); exact BK147.out) Try.underlying34 rfl (by kernel_rfl)) rfl ?_
              exact ⟨by first | rfl | (simp [errW_none, errW_some] <;> rfl) | (simp [*, errW_none, errW_some] <;> rfl), by repeat (first | (with_reducible first | exact HB.out | apply below_alloc | apply pw_below_drewN | apply below_drew1 | refine below_set ?_ GE147.out | refine below_set ?_ GE149.out) | exact HB.out)⟩

/-! ### memory_clone: function 36 -/
def memory_clone.f (l0 : List Int) : Option (List Int) := if l0.length ≤ 70368744177664 then some l0 else none
set_option maxHeartbeats 4000000 in
set_option maxRecDepth 100000 in
theorem memory_clone.calls (A0 : Option Addr) (c0 : Nat) (l0 : List Int) (r : List Int) (w : World) (hr0 : Kd.C (Kd.int .u32) w A0 l0.length l0) (hc0 : l0.length ≤ c0) (h : memory_clone.f l0 = some r) :
    Calls Try.prog 36 #[.slice A0 l0.length c0] w fun e w' => ∃ v0_ : Value, e = .returned (v0_) ∧ Kd.R (Kd.int .u32) 23 w' w.heap.size (fun _ => True) v0_ r ∧ Below w.heap.size w w' := by
  have HR := Aside0.mk hr0
  clear hr0
  unfold memory_clone.f at h
  by_cases hb : l0.length ≤ 70368744177664
  · rw [if_pos hb] at h
    obtain rfl := Option.some.inj h
    by_cases hz : l0.length = 0
    · obtain rfl : l0 = [] := List.eq_nil_of_length_eq_zero hz
      clear h hb
      go_enter Try.func36, Try.ntmps36
      go_wp2
      go_ret
      exact ⟨_, rfl, Kd.R_nil _ _ _ _ _, Below.refl _ _⟩
    · have t1 : ((l0.length : Int) == 0) = false := by simp; intro e; subst e; exact hz rfl
      have t2 : l0 ≠ [] := fun e => hz (by rw [e]; rfl)
      have t3 : (l0.length == 0) = false := by simpa using hz
      clear h hz
      go_enter Try.func36, Try.ntmps36
      go_wp2_with (first | (refine Kd.R_make (Kd.int .u32) _ 23 rfl (by rfl) 25 _ _ rfl (l0.length : Int) rfl rfl Try.underlying25 (.int .u32 0) 4 info23 rfl (by decide) (by omega) 0 (ok := fun _ => True) (okp := fun _ => True) rfl (fun _ hk => hk) trivial (by omega) (by omega) (Below.refl _ _) (Nat.le_refl _) ?_; intro v109 w7 ho8 hb8 hg_ hnew_; clear hg_ hnew_; have HO := Aside0.mk ho8; have HB := Aside0.mk hb8; have HC := Aside0.mk (Kd.C_below HR.out hb8); clear ho8 hb8) | (refine Go.Proofs.Ytnammilbfbaieaa.Hand.R_copy_all rfl _ _ _ _ rfl Try.underlying25 (by kernel_rfl) _ _ l0 _ _ rfl rfl HO.out HC.out (by simp) HB.out ?_; intro w8 ho9 hb9; have HO9 := Aside0.mk ho9; have HB9 := Aside0.mk hb9; clear ho9 hb9))
      go_ret
      exact ⟨_, rfl, HO9.out, HB9.out⟩
  · rw [if_neg hb] at h
    exact absurd h (by simp)

/-! ### bits_SetField: function 37 -/
def bits_SetField.f (a0 : Int) (a1 : Int) (a2 : Int) (a3 : Int) : Option (Int) := (bits_outside.f a1 a2).bind fun t157 => (if t157 = true then (some a0) else ((bits_mask.f a2).bind fun t158 => (if 0 ≤ a1 then (some (Go.bits .or .u32 (Go.bits .andNot .u32 a0 (shl .u32 t158 a1)) (Go.bits .and .u32 (shl .u32 a3 a1) (shl .u32 t158 a1)))) else (none))))
set_option maxHeartbeats 8000000 in
set_option maxRecDepth 100000 in
theorem bits_SetField.calls (a0 : Int) (a1 : Int) (a2 : Int) (a3 : Int) (r : Int) (w : World) (h : bits_SetField.f a0 a1 a2 a3 = some r) :
    Calls Try.prog 37 #[.int .u32 a0, .int .i64 a1, .int .i64 a2, .int .u32 a3] w fun e w' => e = .returned (.int .u32 r) ∧ Drawn0 w w' := by
  have H : ((bits_outside.f a1 a2).bind fun t157 => (if t157 = true then (some a0) else ((bits_mask.f a2).bind fun t158 => (if 0 ≤ a1 then (some (Go.bits .or .u32 (Go.bits .andNot .u32 a0 (shl .u32 t158 a1)) (Go.bits .and .u32 (shl .u32 a3 a1) (shl .u32 t158 a1)))) else (none))))) = some r := h
  clear h
  replace H := Option.bind_eq_some_iff.mp H
  obtain ⟨t157, A50, H⟩ := H
  replace H : (if t157 = true then (some a0) else ((bits_mask.f a2).bind fun t158 => (if 0 ≤ a1 then (some (Go.bits .or .u32 (Go.bits .andNot .u32 a0 (shl .u32 t158 a1)) (Go.bits .and .u32 (shl .u32 a3 a1) (shl .u32 t158 a1)))) else (none)))) = some r := H
  have A5 := Aside0.mk A50
  clear A50
  by_cases c6 : t157 = true
  · subst c6
    have H1 : (some a0) = some r := by rw [if_pos rfl] at H; exact H
    clear H
    have H := H1
    clear H1
    obtain rfl := Option.some.inj H
    go_enter Try.func37, Try.ntmps37
    go_wp2_with (first | ((with_reducible refine gate_callee (f := 38) rfl ?_); refine goesL_ (some 12) rfl rfl Try.func38 (by kernel_rfl) rfl #[.int .i64 a1, .int .i64 a2] rfl (by (try simp only [List.map_toArray, List.map_cons, List.map_nil]); first | done | rfl | (simp only [List.length_drop, List.length_take]; rfl)) ?_; (with_reducible refine (bits_outside.calls a1 a2 true _ A5.out).mono ?_); rintro e w' ⟨rfl, ⟨nd, rfl⟩⟩; refine ⟨_, rfl, ?_⟩))
    go_ret
    exact ⟨by first | rfl | (simp; done) | (simp [*]; done), by repeat (first | exact Drawn0.refl _ | apply Drawn0.step)⟩
  · replace c6 := Bool.eq_false_iff.mpr c6
    subst c6
    have H1 : ((bits_mask.f a2).bind fun t158 => (if 0 ≤ a1 then (some (Go.bits .or .u32 (Go.bits .andNot .u32 a0 (shl .u32 t158 a1)) (Go.bits .and .u32 (shl .u32 a3 a1) (shl .u32 t158 a1)))) else (none))) = some r := by rw [if_neg (show ¬ (false = true) by decide)] at H; exact H
    clear H
    have H := H1
    clear H1
    replace H := Option.bind_eq_some_iff.mp H
    obtain ⟨t158, A70, H⟩ := H
    replace H : (if 0 ≤ a1 then (some (Go.bits .or .u32 (Go.bits .andNot .u32 a0 (shl .u32 t158 a1)) (Go.bits .and .u32 (shl .u32 a3 a1) (shl .u32 t158 a1)))) else (none)) = some r := H
    have A7 := Aside0.mk A70
    clear A70
    by_cases c8 : 0 ≤ a1
    · rw [if_pos c8] at H
      have c8b0 := eq_true c8
      have c8b1 : decide (0 ≤ a1) = true := decide_eq_true c8
      clear c8
      obtain ⟨ji9, hji9⟩ : ∃ j_ : Int, (shl .u32 t158 a1) = j_ := ⟨_, rfl⟩
      replace H : (some (Go.bits .or .u32 (Go.bits .andNot .u32 a0 (ji9)) (Go.bits .and .u32 (shl .u32 a3 a1) (ji9)))) = some r := by first | (rw [hji9] at H; exact H) | (simp only [hji9] at H ⊢; exact H)
      (try rw [hji9] at A5)
      (try rw [hji9] at A7)
      have hji9_ : (IntKind.u32.wrap (t158 * 2 ^ min a1.toNat 32)) = ji9 := hji9
      have hji9z : a1 ≤ 32 → (IntKind.u32.wrap (t158 * 2 ^ a1.toNat)) = ji9 := shl_small hji9
      have c10b0 := eq_true (of_decide_eq_true (by first | (with_reducible assumption) | assumption) : 0 ≤ a1)
      obtain ⟨ji11, hji11⟩ : ∃ j_ : Int, (shl .u32 a3 a1) = j_ := ⟨_, rfl⟩
      replace H : (some (Go.bits .or .u32 (Go.bits .andNot .u32 a0 (ji9)) (Go.bits .and .u32 (ji11) (ji9)))) = some r := by first | (rw [hji11] at H; exact H) | (simp only [hji11] at H ⊢; exact H)
      (try rw [hji11] at A5)
      (try rw [hji11] at A7)
      have hji11_ : (IntKind.u32.wrap (a3 * 2 ^ min a1.toNat 32)) = ji11 := hji11
      have hji11z : a1 ≤ 32 → (IntKind.u32.wrap (a3 * 2 ^ a1.toNat)) = ji11 := shl_small hji11
      obtain rfl := Option.some.inj H
      go_enter Try.func37, Try.ntmps37
      go_wp2_with (first | ((with_reducible refine gate_callee (f := 38) rfl ?_); refine goesL_ (some 12) rfl rfl Try.func38 (by kernel_rfl) rfl #[.int .i64 a1, .int .i64 a2] rfl (by (try simp only [List.map_toArray, List.map_cons, List.map_nil]); first | done | rfl | (simp only [List.length_drop, List.length_take]; rfl)) ?_; (with_reducible refine (bits_outside.calls a1 a2 false _ A5.out).mono ?_); rintro e w' ⟨rfl, ⟨nd, rfl⟩⟩; refine ⟨_, rfl, ?_⟩) | ((with_reducible refine gate_callee (f := 39) rfl ?_); refine goesL_ (some 15) rfl rfl Try.func39 (by kernel_rfl) rfl #[.int .i64 a2] rfl (by (try simp only [List.map_toArray, List.map_cons, List.map_nil]); first | done | rfl | (simp only [List.length_drop, List.length_take]; rfl)) ?_; (with_reducible refine (bits_mask.calls a2 t158 _ A7.out).mono ?_); rintro e w' ⟨rfl, ⟨nd, rfl⟩⟩; refine ⟨_, rfl, ?_⟩))
      go_ret
      exact ⟨by first | rfl | (simp; done) | (simp only [← hji9, ← hji11] <;> (first | rfl | simp)) | (simp [*]; done), by repeat (first | exact Drawn0.refl _ | apply Drawn0.step)⟩
    · rw [if_neg c8] at H
      exact absurd H (by simp)

end Go.Proofs.Ytnammilbfbaieaa.HTlbRecent
