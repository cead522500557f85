/- Proved: vmfleetlaw1.BitsParts returns true for every input and leaves what was there. Conditions: none. -/
import Derived.Test.YtnpobmpdlcmipaaPBitsPartsx1
import Derived.Test.YtnpobmpdlcmipaaBv
namespace Go.Proofs.Ytnpobmpdlcmipaa.Walk
open Go.RowKit Go.Proofs.Ytnpobmpdlcmipaa.PBitsParts Go.Proofs.YtnpobmpdlcmipaaW.PrintWords Go.Proofs.YtnpobmpdlcmipaaW.PrintLast Go.Proofs.YtnpobmpdlcmipaaW.PrintMore Go.Proofs.Ytnpobmpdlcmipaa.Bv
set_option linter.unusedVariables false
set_option linter.unusedSimpArgs false

theorem awake_ends : vmfleetlaw1_awake.f 20 = some true := by kernel_rfl
theorem awake_more (k : Nat) (h : 20 ≤ k) : vmfleetlaw1_awake.f k = some true := at_rounds vmfleetlaw1_awake.mono h awake_ends
theorem w64 {n : Int} (h0 : -9223372036854775808 ≤ n) (h1 : n ≤ 9223372036854775807) : wrap64 n = n := by unfold wrap64; omega
theorem u64w {n : Int} (h0 : 0 ≤ n) (h1 : n ≤ 9223372036854775807) : IntKind.u64.wrap n = n := by
  have : IntKind.u64.wrap n = n % 18446744073709551616 := by simp [IntKind.wrap, IntKind.bits, IntKind.signed]
  rw [this]; omega
theorem outside_eq (low n : Int) : bits_outside.f low n = some (decide (low < 0 ∨ low > 31 ∨ n < 1)) := by
  unfold bits_outside.f
  by_cases h1 : low < 0
  · rw [if_pos h1]; simp [h1]
  · rw [if_neg h1]
    by_cases h2 : low > 31
    · rw [if_pos h2]; simp [h2]
    · rw [if_neg h2]; simp [h1]; omega
theorem mask_eq (n : Int) (h : 1 ≤ n) : bits_mask.f n = some (B (Mi n)) := by
  unfold bits_mask.f Mi
  split
  · rfl
  · rw [if_pos (by omega), mask_B n (by omega) (by omega)]
theorem Field_eq (x : BitVec 32) (low n : Int) : bits_Field.f (B x) low n = some (B (fieldv x low n)) := by
  unfold bits_Field.f fieldv
  rw [outside_eq]; simp only [Option.bind_some]
  by_cases h : low < 0 ∨ low > 31 ∨ n < 1
  · rw [if_pos (by simpa using h), if_pos h]; rfl
  · rw [if_neg (by simpa using h), if_neg h, if_pos (by omega), mask_eq n (by omega)]; simp only [Option.bind_some]
    rw [shr_B, and_B]
theorem SetField_eq (x : BitVec 32) (low n : Int) (v : BitVec 32) : bits_SetField.f (B x) low n (B v) = some (B (setv x low n v)) := by
  unfold bits_SetField.f setv
  rw [outside_eq]; simp only [Option.bind_some]
  by_cases h : low < 0 ∨ low > 31 ∨ n < 1
  · rw [if_pos (by simpa using h), if_pos h]
  · rw [if_neg (by simpa using h), if_neg h, mask_eq n (by omega)]; simp only [Option.bind_some]
    rw [if_pos (by omega), shl_B, shl_B, andNot_B, and_B, or_B]
set_option maxHeartbeats 4000000 in
set_option maxRecDepth 100000 in
theorem walk_in (k : Nat) (a0 a1 a2 a3 y f g : Int) (w : World) (l0 : 0 ≤ a2) (l1 : a2 ≤ 31) (l2 : 1 ≤ a3) (l3 : a3 ≤ 32 - a2) (A1 : Aside0 (bits_SetField.f a0 a2 a3 a1 = some y)) (A2 : Aside0 (bits_Field.f y a2 a3 = some f)) (A3 : Aside0 (bits_Field.f a1 0 a3 = some f))
    (A4 : Aside0 (bits_Field.f a0 a2 a3 = some g)) (A5 : Aside0 (bits_SetField.f a0 a2 a3 g = some a0)) (A6 : Aside0 (bits_SetField.f y a2 a3 g = some a0)) (A7 : Aside0 (vmfleetlaw1_awake.f k = some true)) :
    Calls Try.prog 12 #[.int .u32 a0, .int .u32 a1, .int .i64 a2, .int .i64 a3] w fun e w' => e = .returned (.bool true) ∧ Below w.heap.size w w' := by
  have d1 : decide (a2 < 0) = false := by simp; omega
  have d2 : decide (31 < a2) = false := by simp; omega
  have d3 : decide (a3 < 1) = false := by simp; omega
  have d4 : decide (32 - a2 < a3) = false := by simp; omega
  go_enter Try.func12, Try.ntmps12
  go_wp2_with (first | (go_at_call 28; (with_reducible refine (bits_SetField.calls a0 a2 a3 a1 y _ A1.out).mono ?_); rintro e w' ⟨rfl, ⟨nd, rfl⟩⟩) | (go_at_call 25; (with_reducible refine (bits_Field.calls y a2 a3 f _ A2.out).mono ?_); rintro e w' ⟨rfl, ⟨nd, rfl⟩⟩) | (go_at_call 25; (with_reducible refine (bits_Field.calls a1 0 a3 f _ A3.out).mono ?_); rintro e w' ⟨rfl, ⟨nd, rfl⟩⟩) | (go_at_call 25; (with_reducible refine (bits_Field.calls a0 a2 a3 g _ A4.out).mono ?_); rintro e w' ⟨rfl, ⟨nd, rfl⟩⟩) | (go_at_call 28; (with_reducible refine (bits_SetField.calls a0 a2 a3 g a0 _ A5.out).mono ?_); rintro e w' ⟨rfl, ⟨nd, rfl⟩⟩) | (go_at_call 28; (with_reducible refine (bits_SetField.calls y a2 a3 g a0 _ A6.out).mono ?_); rintro e w' ⟨rfl, ⟨nd, rfl⟩⟩) | (go_at_call 15; (with_reducible refine (vmfleetlaw1_awake.calls k true _ A7.out).mono ?_); rintro e w23 ⟨rfl, hb⟩; have HB := Aside0.mk hb; clear hb))
  go_ret
  refine ⟨rfl, below_step ?_ HB.out⟩
  repeat (first | (with_reducible first | exact Below.refl _ _ | apply below_alloc | apply pw_below_drewN | apply below_drew1) | exact Below.refl _ _)
theorem walk_out (k : Nat) (a0 a1 a2 a3 : Int) (w : World) (h : a2 < 0 ∨ 31 < a2 ∨ a3 < 1 ∨ 32 - a2 < a3) (b3 : a3 ≤ 9223372036854775807) (A7 : Aside0 (vmfleetlaw1_awake.f k = some true)) :
    Calls Try.prog 12 #[.int .u32 a0, .int .u32 a1, .int .i64 a2, .int .i64 a3] w fun e w' => e = .returned (.bool true) ∧ Below w.heap.size w w' := by
  by_cases c1 : a2 < 0
  · have d1 : decide (a2 < 0) = true := by simpa using c1
    clear h c1
    go_enter Try.func12, Try.ntmps12
    go_wp2_with (go_at_call 15; (with_reducible refine (vmfleetlaw1_awake.calls k true _ A7.out).mono ?_); rintro e w23 ⟨rfl, hb⟩; have HB := Aside0.mk hb; clear hb)
    go_ret
    exact ⟨rfl, HB.out⟩
  · have d1 : decide (a2 < 0) = false := by simpa using c1
    by_cases c2 : 31 < a2
    · have d2 : decide (31 < a2) = true := by simpa using c2
      clear h c1 c2
      go_enter Try.func12, Try.ntmps12
      go_wp2_with (go_at_call 15; (with_reducible refine (vmfleetlaw1_awake.calls k true _ A7.out).mono ?_); rintro e w23 ⟨rfl, hb⟩; have HB := Aside0.mk hb; clear hb)
      go_ret
      exact ⟨rfl, HB.out⟩
    · have d2 : decide (31 < a2) = false := by simpa using c2
      by_cases c3 : a3 < 1
      · have d3 : decide (a3 < 1) = true := by simpa using c3
        clear h
        go_enter Try.func12, Try.ntmps12
        go_wp2_with (go_at_call 15; (with_reducible refine (vmfleetlaw1_awake.calls k true _ A7.out).mono ?_); rintro e w23 ⟨rfl, hb⟩; have HB := Aside0.mk hb; clear hb)
        go_ret
        exact ⟨rfl, HB.out⟩
      · have d3 : decide (a3 < 1) = false := by simpa using c3
        have d4 : decide (32 - a2 < a3) = true := by simp; omega
        clear h
        go_enter Try.func12, Try.ntmps12
        go_wp2_with (go_at_call 15; (with_reducible refine (vmfleetlaw1_awake.calls k true _ A7.out).mono ?_); rintro e w23 ⟨rfl, hb⟩; have HB := Aside0.mk hb; clear hb)
        go_ret
        exact ⟨rfl, HB.out⟩

theorem BitsParts (a0 a1 a2 a3 : Int) (w : World) (h0 : (Lit.int .u32 a0).wf = true) (h1 : (Lit.int .u32 a1).wf = true) (h2 : (Lit.int .i64 a2).wf = true) (h3 : (Lit.int .i64 a3).wf = true) :
    Calls Try.prog 12 #[.int .u32 a0, .int .u32 a1, .int .i64 a2, .int .i64 a3] w fun e w' => e = .returned (.bool true) ∧ Below w.heap.size w w' := by
  obtain ⟨x, rfl⟩ := B_of a0 h0
  obtain ⟨v, rfl⟩ := B_of a1 h1
  have b3 := bounds_i64 h3
  by_cases h : a2 < 0 ∨ 31 < a2 ∨ a3 < 1 ∨ 32 - a2 < a3
  · exact walk_out 20 _ _ _ _ w h b3.2 ⟨awake_ends⟩
  · have c0 : 0 ≤ a2 := by omega
    have c1 : a2 ≤ 31 := by omega
    have c2 : 1 ≤ a3 := by omega
    have c3 : a3 ≤ 32 - a2 := by omega
    refine walk_in 20 (B x) (B v) a2 a3 (B (setv x a2 a3 v)) (B (fieldv v 0 a3)) (B (fieldv x a2 a3)) w c0 c1 c2 c3 ⟨SetField_eq _ _ _ _⟩ ⟨?_⟩ ⟨Field_eq _ _ _⟩ ⟨Field_eq _ _ _⟩ ⟨?_⟩ ⟨?_⟩ ⟨awake_ends⟩
    · rw [Field_eq, field_set x v a2 a3 c0 c1 c2 c3]
    · rw [SetField_eq, set_field x x a2 a3 c0 c1 c2 c3 (fun _ _ _ => rfl)]
    · rw [SetField_eq, set_field _ x a2 a3 c0 c1 c2 c3 (fun i hi hn => set_keeps x v a2 a3 c0 c1 c2 i hi hn)]
end Go.Proofs.Ytnpobmpdlcmipaa.Walk
