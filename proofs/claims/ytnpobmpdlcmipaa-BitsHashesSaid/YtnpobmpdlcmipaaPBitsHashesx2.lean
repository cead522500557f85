-- PRINTED BY print.sh 35421559b90ae4d0a3588c463048766b98c2df88dd9212a6774a882060cdf62d: not written by this session
import Derived.Test.YtnpobmpdlcmipaaPBitsHashesx0
import Derived.Test.YtnpobmpdlcmipaaPBitsHashesx1
namespace Go.Proofs.Ytnpobmpdlcmipaa.PBitsHashes
open Go.RowKit Go.Proofs.YtnpobmpdlcmipaaW.PrintWords Go.Proofs.YtnpobmpdlcmipaaW.PrintLast Go.Proofs.YtnpobmpdlcmipaaW.PrintMore
attribute [local go_sem] max2_int min2_int max_two min_two max_three min_three max_four min_four   -- for this text's walks alone
set_option linter.unusedVariables false
set_option linter.unusedSimpArgs false

/-! ### vmfleetlaw1_BitsHashes: function 5 -/
def vmfleetlaw1_BitsHashes.j0 : Nat → Int → ByteArray → ByteArray → Bool → Option (Bool)
  | 0, _, _, _, _ => none
  | k + 1, x0, x1, x2, x14 => if x14 = true then ((vmfleetlaw1_awake.f k).bind fun t111 => (some t111)) else ((bits_Hash.f k x0 x1).bind fun t112 => ((vmfleetref1_Hash.f k x0 x1).bind fun t113 => (if t112 = t113 then ((bits_Hash.f k x0 x1).bind fun t114 => ((bits_Hash.f k t114 x2).bind fun t115 => (if x1.size + x2.size ≤ 9223372036854775807 then ((bits_Hash.f k x0 (x1 ++ x2)).bind fun t116 => (if t115 = t116 then ((bits_Hash.f k x0 (⟨#[]⟩ : ByteArray)).bind fun t117 => (if t117 = x0 then ((vmfleetlaw1_awake.f k).bind fun t118 => (some t118)) else (some false))) else (some false))) else (none)))) else (some false))))
def vmfleetlaw1_BitsHashes.f (k : Nat) (a0 : Int) (a1 : ByteArray) (a2 : ByteArray) : Option (Bool) := if (a1.size : Int) > 2000 then (vmfleetlaw1_BitsHashes.j0 k a0 a1 a2 true) else (vmfleetlaw1_BitsHashes.j0 k a0 a1 a2 (decide ((a2.size : Int) > 2000)))
theorem vmfleetlaw1_BitsHashes.mono_l : ∀ k, (∀ y0 y1 y2 y3, LeO (vmfleetlaw1_BitsHashes.j0 k y0 y1 y2 y3) (vmfleetlaw1_BitsHashes.j0 (k + 1) y0 y1 y2 y3))
  | 0 => fun _ _ _ _ r h => by simp [vmfleetlaw1_BitsHashes.j0] at h
  | k + 1 => by
    have ih0 := vmfleetlaw1_BitsHashes.mono_l k
    · intro y0 y1 y2 y3
      unfold vmfleetlaw1_BitsHashes.j0
      repeat' first
      | (with_reducible exact ih0 _ _ _ _)
      | (with_reducible exact bits_Hash.mono _ _ _)
      | (with_reducible exact vmfleetlaw1_awake.mono _)
      | (with_reducible exact vmfleetref1_Hash.mono _ _ _)
      | (with_reducible exact LeO.refl _)
      | (with_reducible exact LeO.none _)
      | (with_reducible refine LeO.ite ?_ ?_)
      | (with_reducible refine LeO.bind ?_ (fun _ => ?_))
      | exact ih0 _ _ _ _
      | exact bits_Hash.mono _ _ _
      | exact vmfleetlaw1_awake.mono _
      | exact vmfleetref1_Hash.mono _ _ _
      | exact LeO.none _
      | refine LeO.ite ?_ ?_
      | refine LeO.bind ?_ (fun _ => ?_)
theorem vmfleetlaw1_BitsHashes.mono : ∀ a0 a1 a2 k, LeO (vmfleetlaw1_BitsHashes.f k a0 a1 a2) (vmfleetlaw1_BitsHashes.f (k + 1) a0 a1 a2) := by
  intro a0 a1 a2 k
  have ih0 := vmfleetlaw1_BitsHashes.mono_l k
  unfold vmfleetlaw1_BitsHashes.f
  repeat' first
      | (with_reducible exact ih0 _ _ _ _)
      | (with_reducible exact bits_Hash.mono _ _ _)
      | (with_reducible exact vmfleetlaw1_awake.mono _)
      | (with_reducible exact vmfleetref1_Hash.mono _ _ _)
      | (with_reducible exact LeO.refl _)
      | (with_reducible exact LeO.none _)
      | (with_reducible refine LeO.ite ?_ ?_)
      | (with_reducible refine LeO.bind ?_ (fun _ => ?_))
      | exact ih0 _ _ _ _
      | exact bits_Hash.mono _ _ _
      | exact vmfleetlaw1_awake.mono _
      | exact vmfleetref1_Hash.mono _ _ _
      | exact LeO.none _
      | refine LeO.ite ?_ ?_
      | refine LeO.bind ?_ (fun _ => ?_)
set_option maxHeartbeats 8000000 in
set_option maxRecDepth 100000 in
theorem vmfleetlaw1_BitsHashes.calls (k : Nat) (a0 : Int) (a1 : ByteArray) (a2 : ByteArray) (r : Bool) (w : World) (h : vmfleetlaw1_BitsHashes.f k a0 a1 a2 = some r) :
    Calls Try.prog 5 #[.int .u64 a0, .string a1, .string a2] w fun e w' => e = .returned (.bool r) ∧ Below w.heap.size w w' := by
  have HB := Aside0.mk (Below.refl w.heap.size w)
  have H : (if (a1.size : Int) > 2000 then (vmfleetlaw1_BitsHashes.j0 k a0 a1 a2 true) else (vmfleetlaw1_BitsHashes.j0 k a0 a1 a2 (decide ((a2.size : Int) > 2000)))) = some r := h
  clear h
  have HC4 := Aside0.mk H
  clear H
  go_enter Try.func5, Try.ntmps5
  go_upto_region 1 with (fail)
  go_cut [14] (fun v14 wc => ∃ (kq : Nat) (x14_3 : Bool), v14 = .bool x14_3 ∧ Aside0 (vmfleetlaw1_BitsHashes.j0 kq a0 a1 a2 x14_3 = some r) ∧ Aside0 (kq ≤ k) ∧ Aside0 (Below w.heap.size w wc))
  case first =>
    have H := HC4.out
    clear HC4
    by_cases c5 : (a1.size : Int) > 2000
    · rw [if_pos c5] at H
      have c5b0 : decide (2000 < (a1.size : Int)) = true := decide_eq_true c5
      have c5b1 : decide (2000 < a1.size) = true := decide_eq_true (by omega)
      clear c5
      (first | rw [c5b0] | (simp only [i64_w, i32_w]; rw [c5b0]) | skip)
      have H' := Aside0.mk H
      clear H
      go_wp2
      go_meet
      case rel => exact ⟨_, (true), (by first | rfl | (simp; done) | (simp [*]; done)), H', ⟨by first | omega | exact Nat.le_refl _⟩, ⟨by repeat (first | (with_reducible first | exact HB.out | apply below_alloc | apply pw_below_drewN | apply below_drew1) | exact HB.out)⟩⟩
    · rw [if_neg c5] at H
      have c5b0 : decide (2000 < (a1.size : Int)) = false := decide_eq_false c5
      have c5b1 : decide (2000 < a1.size) = false := decide_eq_false (by omega)
      clear c5
      (first | rw [c5b0] | (simp only [i64_w, i32_w]; rw [c5b0]) | skip)
      have H' := Aside0.mk H
      clear H
      go_wp2
      go_meet
      case rel => exact ⟨_, (decide ((a2.size : Int) > 2000)), (by first | rfl | (simp; done) | (simp [*]; done)), H', ⟨by first | omega | exact Nat.le_refl _⟩, ⟨by repeat (first | (with_reducible first | exact HB.out | apply below_alloc | apply pw_below_drewN | apply below_drew1) | exact HB.out)⟩⟩
  case rest =>
    clear HC4
    try clear p2
    try clear c5
    try clear c5b0
    try clear c5b1
    obtain ⟨kq, x14_3, rfl, HA, HJ3, HB⟩ := hcut
    cases kq with
    | zero => exact absurd HA.out (by simp [vmfleetlaw1_BitsHashes.j0])
    | succ kj3 =>
      have H := HA.out
      clear HA
      simp only [vmfleetlaw1_BitsHashes.j0] at H
      by_cases c6 : x14_3 = true
      · subst c6
        have H1 : ((vmfleetlaw1_awake.f kj3).bind fun t111 => (some t111)) = some r := by rw [if_pos rfl] at H; exact H
        clear H
        have H := H1
        clear H1
        replace H := Option.bind_eq_some_iff.mp H
        obtain ⟨t111, A70, H⟩ := H
        replace H : (some t111) = some r := H
        have A7 := Aside0.mk A70
        clear A70
        obtain rfl := Option.some.inj H
        go_wp2_with (first | ((with_reducible refine gate_callee (f := 15) rfl ?_); refine goesL_ (some 15) rfl rfl Try.func15 (by kernel_rfl) rfl #[] rfl (by (try simp only [List.map_toArray, List.map_cons, List.map_nil]); first | done | rfl | (simp only [List.length_drop, List.length_take]; rfl)) ?_; (with_reducible refine (vmfleetlaw1_awake.calls kj3  t111 _ A7.out).mono ?_); rintro e w8 ⟨rfl, hb⟩; refine ⟨_, rfl, ?_⟩; have n0_ := Aside0.mk (below_step (by repeat (first | (with_reducible first | exact HB.out | apply below_alloc | apply pw_below_drewN | apply below_drew1) | exact HB.out)) hb); clear HB; have HB := n0_; clear n0_; (try clear hb); (try clear hb2); (try clear hk); (try clear hi)))
        go_ret
        exact ⟨by first | rfl | (simp [errW_none, errW_some] <;> rfl) | (simp [*, errW_none, errW_some] <;> rfl), by repeat (first | (with_reducible first | exact HB.out | apply below_alloc | apply pw_below_drewN | apply below_drew1) | exact HB.out)⟩
      · replace c6 := Bool.eq_false_iff.mpr c6
        subst c6
        have H1 : ((bits_Hash.f kj3 a0 a1).bind fun t112 => ((vmfleetref1_Hash.f kj3 a0 a1).bind fun t113 => (if t112 = t113 then ((bits_Hash.f kj3 a0 a1).bind fun t114 => ((bits_Hash.f kj3 t114 a2).bind fun t115 => (if a1.size + a2.size ≤ 9223372036854775807 then ((bits_Hash.f kj3 a0 (a1 ++ a2)).bind fun t116 => (if t115 = t116 then ((bits_Hash.f kj3 a0 (⟨#[]⟩ : ByteArray)).bind fun t117 => (if t117 = a0 then ((vmfleetlaw1_awake.f kj3).bind fun t118 => (some t118)) else (some false))) else (some false))) else (none)))) else (some false)))) = some r := by rw [if_neg (show ¬ (false = true) by decide)] at H; exact H
        clear H
        have H := H1
        clear H1
        replace H := Option.bind_eq_some_iff.mp H
        obtain ⟨t112, A90, H⟩ := H
        replace H : ((vmfleetref1_Hash.f kj3 a0 a1).bind fun t113 => (if t112 = t113 then ((bits_Hash.f kj3 a0 a1).bind fun t114 => ((bits_Hash.f kj3 t114 a2).bind fun t115 => (if a1.size + a2.size ≤ 9223372036854775807 then ((bits_Hash.f kj3 a0 (a1 ++ a2)).bind fun t116 => (if t115 = t116 then ((bits_Hash.f kj3 a0 (⟨#[]⟩ : ByteArray)).bind fun t117 => (if t117 = a0 then ((vmfleetlaw1_awake.f kj3).bind fun t118 => (some t118)) else (some false))) else (some false))) else (none)))) else (some false))) = some r := H
        have A9 := Aside0.mk A90
        clear A90
        replace H := Option.bind_eq_some_iff.mp H
        obtain ⟨t113, A100, H⟩ := H
        replace H : (if t112 = t113 then ((bits_Hash.f kj3 a0 a1).bind fun t114 => ((bits_Hash.f kj3 t114 a2).bind fun t115 => (if a1.size + a2.size ≤ 9223372036854775807 then ((bits_Hash.f kj3 a0 (a1 ++ a2)).bind fun t116 => (if t115 = t116 then ((bits_Hash.f kj3 a0 (⟨#[]⟩ : ByteArray)).bind fun t117 => (if t117 = a0 then ((vmfleetlaw1_awake.f kj3).bind fun t118 => (some t118)) else (some false))) else (some false))) else (none)))) else (some false)) = some r := H
        have A10 := Aside0.mk A100
        clear A100
        by_cases c11 : t112 = t113
        · rw [if_pos c11] at H
          have c11b0 : (t112 == t113) = true := beq_iff_eq.mpr c11
          have c11b1 : (t112 != t113) = false := bne_eq_false_iff_eq.mpr c11
          clear c11
          replace H := Option.bind_eq_some_iff.mp H
          obtain ⟨t114, A120, H⟩ := H
          replace H : ((bits_Hash.f kj3 t114 a2).bind fun t115 => (if a1.size + a2.size ≤ 9223372036854775807 then ((bits_Hash.f kj3 a0 (a1 ++ a2)).bind fun t116 => (if t115 = t116 then ((bits_Hash.f kj3 a0 (⟨#[]⟩ : ByteArray)).bind fun t117 => (if t117 = a0 then ((vmfleetlaw1_awake.f kj3).bind fun t118 => (some t118)) else (some false))) else (some false))) else (none))) = some r := H
          have A12 := Aside0.mk A120
          clear A120
          replace H := Option.bind_eq_some_iff.mp H
          obtain ⟨t115, A130, H⟩ := H
          replace H : (if a1.size + a2.size ≤ 9223372036854775807 then ((bits_Hash.f kj3 a0 (a1 ++ a2)).bind fun t116 => (if t115 = t116 then ((bits_Hash.f kj3 a0 (⟨#[]⟩ : ByteArray)).bind fun t117 => (if t117 = a0 then ((vmfleetlaw1_awake.f kj3).bind fun t118 => (some t118)) else (some false))) else (some false))) else (none)) = some r := H
          have A13 := Aside0.mk A130
          clear A130
          by_cases c14 : a1.size + a2.size ≤ 9223372036854775807
          · rw [if_pos c14] at H
            have c14b0 := eq_true c14
            have c14b1 : decide (a1.size + a2.size ≤ 9223372036854775807) = true := decide_eq_true c14
            try have c14b2 : (9223372036854775807 < a1.size + a2.size) = False := eq_false (Nat.not_lt.2 c14)
            replace H := Option.bind_eq_some_iff.mp H
            obtain ⟨t116, A150, H⟩ := H
            replace H : (if t115 = t116 then ((bits_Hash.f kj3 a0 (⟨#[]⟩ : ByteArray)).bind fun t117 => (if t117 = a0 then ((vmfleetlaw1_awake.f kj3).bind fun t118 => (some t118)) else (some false))) else (some false)) = some r := H
            have A15 := Aside0.mk A150
            clear A150
            by_cases c16 : t115 = t116
            · rw [if_pos c16] at H
              have c16b0 : (t115 == t116) = true := beq_iff_eq.mpr c16
              have c16b1 : (t115 != t116) = false := bne_eq_false_iff_eq.mpr c16
              clear c16
              replace H := Option.bind_eq_some_iff.mp H
              obtain ⟨t117, A170, H⟩ := H
              replace H : (if t117 = a0 then ((vmfleetlaw1_awake.f kj3).bind fun t118 => (some t118)) else (some false)) = some r := H
              have A17 := Aside0.mk A170
              clear A170
              by_cases c18 : t117 = a0
              · rw [if_pos c18] at H
                have c18b0 : (t117 == a0) = true := beq_iff_eq.mpr c18
                have c18b1 : (t117 != a0) = false := bne_eq_false_iff_eq.mpr c18
                clear c18
                replace H := Option.bind_eq_some_iff.mp H
                obtain ⟨t118, A190, H⟩ := H
                replace H : (some t118) = some r := H
                have A19 := Aside0.mk A190
                clear A190
                obtain rfl := Option.some.inj H
                go_wp2_with (first | ((with_reducible refine gate_callee (f := 18) rfl ?_); refine goesL_ (some 18) rfl rfl Try.func18 (by kernel_rfl) rfl #[.int .u64 a0, .string a1] rfl (by (try simp only [List.map_toArray, List.map_cons, List.map_nil]); first | done | rfl | (simp only [List.length_drop, List.length_take]; rfl)) ?_; (with_reducible refine (bits_Hash.calls kj3 a0 a1 t112 _ A9.out).mono ?_); rintro e w' ⟨rfl, ⟨nd, rfl⟩⟩; refine ⟨_, rfl, ?_⟩) | ((with_reducible refine gate_callee (f := 19) rfl ?_); refine goesL_ (some 21) rfl rfl Try.func19 (by kernel_rfl) rfl #[.int .u64 a0, .string a1] rfl (by (try simp only [List.map_toArray, List.map_cons, List.map_nil]); first | done | rfl | (simp only [List.length_drop, List.length_take]; rfl)) ?_; (with_reducible refine (vmfleetref1_Hash.calls kj3 a0 a1 t113 _ A10.out).mono ?_); rintro e w' ⟨rfl, ⟨nd, rfl⟩⟩; refine ⟨_, rfl, ?_⟩) | (go_at_call 18; (with_reducible refine (bits_Hash.calls kj3 a0 a1 t114 _ A12.out).mono ?_); rintro e w' ⟨rfl, ⟨nd, rfl⟩⟩) | (go_at_call 18; (with_reducible refine (bits_Hash.calls kj3 t114 a2 t115 _ A13.out).mono ?_); rintro e w' ⟨rfl, ⟨nd, rfl⟩⟩) | (go_at_call 18; (with_reducible refine (bits_Hash.calls kj3 a0 (a1 ++ a2) t116 _ A15.out).mono ?_); rintro e w' ⟨rfl, ⟨nd, rfl⟩⟩) | (go_at_call 18; (with_reducible refine (bits_Hash.calls kj3 a0 (⟨#[]⟩ : ByteArray) t117 _ A17.out).mono ?_); rintro e w' ⟨rfl, ⟨nd, rfl⟩⟩) | (go_at_call 15; (with_reducible refine (vmfleetlaw1_awake.calls kj3  t118 _ A19.out).mono ?_); rintro e w20 ⟨rfl, hb⟩; have n0_ := Aside0.mk (below_step (by repeat (first | (with_reducible first | exact HB.out | apply below_alloc | apply pw_below_drewN | apply below_drew1) | exact HB.out)) hb); clear HB; have HB := n0_; clear n0_; (try clear hb); (try clear hb2); (try clear hk); (try clear hi)))
                go_ret
                exact ⟨by first | rfl | (simp [errW_none, errW_some] <;> rfl) | (simp [*, errW_none, errW_some] <;> rfl), by repeat (first | (with_reducible first | exact HB.out | apply below_alloc | apply pw_below_drewN | apply below_drew1) | exact HB.out)⟩
              · rw [if_neg c18] at H
                have c18b0 : (t117 == a0) = false := beq_eq_false_iff_ne.mpr c18
                have c18b1 : (t117 != a0) = true := bne_iff_ne.mpr c18
                obtain rfl := Option.some.inj H
                go_wp2_with (first | ((with_reducible refine gate_callee (f := 18) rfl ?_); refine goesL_ (some 18) rfl rfl Try.func18 (by kernel_rfl) rfl #[.int .u64 a0, .string a1] rfl (by (try simp only [List.map_toArray, List.map_cons, List.map_nil]); first | done | rfl | (simp only [List.length_drop, List.length_take]; rfl)) ?_; (with_reducible refine (bits_Hash.calls kj3 a0 a1 t112 _ A9.out).mono ?_); rintro e w' ⟨rfl, ⟨nd, rfl⟩⟩; refine ⟨_, rfl, ?_⟩) | ((with_reducible refine gate_callee (f := 19) rfl ?_); refine goesL_ (some 21) rfl rfl Try.func19 (by kernel_rfl) rfl #[.int .u64 a0, .string a1] rfl (by (try simp only [List.map_toArray, List.map_cons, List.map_nil]); first | done | rfl | (simp only [List.length_drop, List.length_take]; rfl)) ?_; (with_reducible refine (vmfleetref1_Hash.calls kj3 a0 a1 t113 _ A10.out).mono ?_); rintro e w' ⟨rfl, ⟨nd, rfl⟩⟩; refine ⟨_, rfl, ?_⟩) | (go_at_call 18; (with_reducible refine (bits_Hash.calls kj3 a0 a1 t114 _ A12.out).mono ?_); rintro e w' ⟨rfl, ⟨nd, rfl⟩⟩) | (go_at_call 18; (with_reducible refine (bits_Hash.calls kj3 t114 a2 t115 _ A13.out).mono ?_); rintro e w' ⟨rfl, ⟨nd, rfl⟩⟩) | (go_at_call 18; (with_reducible refine (bits_Hash.calls kj3 a0 (a1 ++ a2) t116 _ A15.out).mono ?_); rintro e w' ⟨rfl, ⟨nd, rfl⟩⟩) | (go_at_call 18; (with_reducible refine (bits_Hash.calls kj3 a0 (⟨#[]⟩ : ByteArray) t117 _ A17.out).mono ?_); rintro e w' ⟨rfl, ⟨nd, rfl⟩⟩))
                go_ret
                exact ⟨by first | rfl | (simp [errW_none, errW_some] <;> rfl) | (simp [*, errW_none, errW_some] <;> rfl), by repeat (first | (with_reducible first | exact HB.out | apply below_alloc | apply pw_below_drewN | apply below_drew1) | exact HB.out)⟩
            · rw [if_neg c16] at H
              have c16b0 : (t115 == t116) = false := beq_eq_false_iff_ne.mpr c16
              have c16b1 : (t115 != t116) = true := bne_iff_ne.mpr c16
              obtain rfl := Option.some.inj H
              go_wp2_with (first | ((with_reducible refine gate_callee (f := 18) rfl ?_); refine goesL_ (some 18) rfl rfl Try.func18 (by kernel_rfl) rfl #[.int .u64 a0, .string a1] rfl (by (try simp only [List.map_toArray, List.map_cons, List.map_nil]); first | done | rfl | (simp only [List.length_drop, List.length_take]; rfl)) ?_; (with_reducible refine (bits_Hash.calls kj3 a0 a1 t112 _ A9.out).mono ?_); rintro e w' ⟨rfl, ⟨nd, rfl⟩⟩; refine ⟨_, rfl, ?_⟩) | ((with_reducible refine gate_callee (f := 19) rfl ?_); refine goesL_ (some 21) rfl rfl Try.func19 (by kernel_rfl) rfl #[.int .u64 a0, .string a1] rfl (by (try simp only [List.map_toArray, List.map_cons, List.map_nil]); first | done | rfl | (simp only [List.length_drop, List.length_take]; rfl)) ?_; (with_reducible refine (vmfleetref1_Hash.calls kj3 a0 a1 t113 _ A10.out).mono ?_); rintro e w' ⟨rfl, ⟨nd, rfl⟩⟩; refine ⟨_, rfl, ?_⟩) | (go_at_call 18; (with_reducible refine (bits_Hash.calls kj3 a0 a1 t114 _ A12.out).mono ?_); rintro e w' ⟨rfl, ⟨nd, rfl⟩⟩) | (go_at_call 18; (with_reducible refine (bits_Hash.calls kj3 t114 a2 t115 _ A13.out).mono ?_); rintro e w' ⟨rfl, ⟨nd, rfl⟩⟩) | (go_at_call 18; (with_reducible refine (bits_Hash.calls kj3 a0 (a1 ++ a2) t116 _ A15.out).mono ?_); rintro e w' ⟨rfl, ⟨nd, rfl⟩⟩))
              go_ret
              exact ⟨by first | rfl | (simp [errW_none, errW_some] <;> rfl) | (simp [*, errW_none, errW_some] <;> rfl), by repeat (first | (with_reducible first | exact HB.out | apply below_alloc | apply pw_below_drewN | apply below_drew1) | exact HB.out)⟩
          · rw [if_neg c14] at H
            exact absurd H (by simp)
        · rw [if_neg c11] at H
          have c11b0 : (t112 == t113) = false := beq_eq_false_iff_ne.mpr c11
          have c11b1 : (t112 != t113) = true := bne_iff_ne.mpr c11
          obtain rfl := Option.some.inj H
          go_wp2_with (first | ((with_reducible refine gate_callee (f := 18) rfl ?_); refine goesL_ (some 18) rfl rfl Try.func18 (by kernel_rfl) rfl #[.int .u64 a0, .string a1] rfl (by (try simp only [List.map_toArray, List.map_cons, List.map_nil]); first | done | rfl | (simp only [List.length_drop, List.length_take]; rfl)) ?_; (with_reducible refine (bits_Hash.calls kj3 a0 a1 t112 _ A9.out).mono ?_); rintro e w' ⟨rfl, ⟨nd, rfl⟩⟩; refine ⟨_, rfl, ?_⟩) | ((with_reducible refine gate_callee (f := 19) rfl ?_); refine goesL_ (some 21) rfl rfl Try.func19 (by kernel_rfl) rfl #[.int .u64 a0, .string a1] rfl (by (try simp only [List.map_toArray, List.map_cons, List.map_nil]); first | done | rfl | (simp only [List.length_drop, List.length_take]; rfl)) ?_; (with_reducible refine (vmfleetref1_Hash.calls kj3 a0 a1 t113 _ A10.out).mono ?_); rintro e w' ⟨rfl, ⟨nd, rfl⟩⟩; refine ⟨_, rfl, ?_⟩))
          go_ret
          exact ⟨by first | rfl | (simp [errW_none, errW_some] <;> rfl) | (simp [*, errW_none, errW_some] <;> rfl), by repeat (first | (with_reducible first | exact HB.out | apply below_alloc | apply pw_below_drewN | apply below_drew1) | exact HB.out)⟩

/-- THE ONE PURE STATEMENT of vmfleetlaw1_BitsHashes: yours. -/
def vmfleetlaw1_BitsHashes.Pure : Prop := ∀ (a0 : Int) (a1 : ByteArray) (a2 : ByteArray), (Lit.int .u64 a0).wf = true → a1.size ≤ 140737488351232 → a2.size ≤ 140737488351232 → ∃ k, vmfleetlaw1_BitsHashes.f k a0 a1 a2 = some true
theorem vmfleetlaw1_BitsHashes.walk (P : vmfleetlaw1_BitsHashes.Pure) (a0 : Int) (a1 : ByteArray) (a2 : ByteArray) (w : World) (w0 : (Lit.int .u64 a0).wf = true) (w1 : a1.size ≤ 140737488351232) (w2 : a2.size ≤ 140737488351232) :
    Calls Try.prog 5 #[.int .u64 a0, .string a1, .string a2] w fun e w' => e = .returned (.bool true) ∧ Below w.heap.size w w' := by
  obtain ⟨k, h⟩ := P a0 a1 a2 w0 w1 w2
  refine (vmfleetlaw1_BitsHashes.calls k a0 a1 a2 true w h).mono ?_
  rintro e w' ⟨rfl, hd⟩
  exact ⟨rfl, hd⟩

end Go.Proofs.Ytnpobmpdlcmipaa.PBitsHashes
