-- Written for this claim by wip/hook.py, by means of the kit's print and of hand-proved contracts.
import Derived.Test.YtdaeflafdnlceaaHMemoryChangesx0
import Derived.Test.YtdaeflafdnlceaaHMemoryChangesx1
import Derived.Test.YtdaeflafdnlceaaHMemoryChangesx2
namespace Go.Proofs.Ytdaeflafdnlceaa.HMemoryChanges
open Go.RowKit Go.Proofs.YtdaeflafdnlceaaW.PrintWords Go.Proofs.YtdaeflafdnlceaaW.PrintLast Go.Proofs.YtdaeflafdnlceaaW.PrintMore
attribute [local go_sem] max2_int min2_int max_two min_two max_three min_three max_four min_four   -- for this text's walks alone
set_option linter.unusedVariables false
set_option linter.unusedSimpArgs false

/-! ### vmfleetlaw4_MemoryChanges: function 8 -/
def vmfleetlaw4_MemoryChanges.j0 : Nat → Int → Int → List Int → Int → List Int → Bool → Option (Bool)
  | 0, _, _, _, _, _, _ => none
  | k + 1, x2, x3, x9, x10, x12, x44 => if x44 = true then (some false) else ((memory_Changed.f k x9 x12).bind fun t168 => (if x10 = x3 then (if (t168.length : Int) = 0 then ((memory_Hash.f k x9).bind fun t171 => ((memory_Hash.f k x12).bind fun t172 => (if t171 = t172 then ((vmfleetlaw4_awake.f).bind fun t173 => (some t173)) else (some false)))) else (some false)) else (if (t168.length : Int) = 1 then (if 0 < (t168.length : Int) then (if (rd t168 0) = ((Int.tdiv x2 128) % 4294967296) then ((vmfleetlaw4_awake.f).bind fun t175 => (some t175)) else (some false)) else (none)) else (some false))))
def vmfleetlaw4_MemoryChanges.f (k : Nat) (l0 : List Int) (a1 : Int) (a2 : Int) (a3 : Int) : Option (Bool) := (vmfleetlaw4_shaped.f k ([] : List Int) false l0 a1).bind fun t159 => (if ((wrap64 (4 * (t159.length : Int))) % 4294967296) = 0 then (none) else ((memory_Load.f t159 ((((Int.tdiv (Int.tmod a2 ((wrap64 (4 * (t159.length : Int))) % 4294967296)) 4) % 4294967296) * 4) % 4294967296) 4).bind fun bt162 => ((memory_Store.f t159 ((((Int.tdiv (Int.tmod a2 ((wrap64 (4 * (t159.length : Int))) % 4294967296)) 4) % 4294967296) * 4) % 4294967296) 4 a3).bind fun bt164 => (if bt162.2 = true then (vmfleetlaw4_MemoryChanges.j0 k ((((Int.tdiv (Int.tmod a2 ((wrap64 (4 * (t159.length : Int))) % 4294967296)) 4) % 4294967296) * 4) % 4294967296) a3 t159 bt162.1 bt164.1 (!bt164.2)) else (vmfleetlaw4_MemoryChanges.j0 k ((((Int.tdiv (Int.tmod a2 ((wrap64 (4 * (t159.length : Int))) % 4294967296)) 4) % 4294967296) * 4) % 4294967296) a3 t159 bt162.1 bt164.1 true)))))
theorem vmfleetlaw4_MemoryChanges.mono_l : ∀ k, (∀ y0 y1 y2 y3 y4 y5, LeO (vmfleetlaw4_MemoryChanges.j0 k y0 y1 y2 y3 y4 y5) (vmfleetlaw4_MemoryChanges.j0 (k + 1) y0 y1 y2 y3 y4 y5))
  | 0 => fun _ _ _ _ _ _ r h => by simp [vmfleetlaw4_MemoryChanges.j0] at h
  | k + 1 => by
    have ih0 := vmfleetlaw4_MemoryChanges.mono_l k
    · intro y0 y1 y2 y3 y4 y5
      unfold vmfleetlaw4_MemoryChanges.j0
      repeat' first
      | (with_reducible exact ih0 _ _ _ _ _ _)
      | (with_reducible exact memory_Changed.mono _ _ _)
      | (with_reducible exact memory_Hash.mono _ _)
      | (with_reducible exact vmfleetlaw4_shaped.mono _ _ _ _ _)
      | (with_reducible exact LeO.refl _)
      | (with_reducible exact LeO.none _)
      | (with_reducible refine LeO.ite ?_ ?_)
      | (with_reducible refine LeO.bind ?_ (fun _ => ?_))
      | exact ih0 _ _ _ _ _ _
      | exact memory_Changed.mono _ _ _
      | exact memory_Hash.mono _ _
      | exact vmfleetlaw4_shaped.mono _ _ _ _ _
      | exact LeO.none _
      | refine LeO.ite ?_ ?_
      | refine LeO.bind ?_ (fun _ => ?_)
theorem vmfleetlaw4_MemoryChanges.mono : ∀ a0 a1 a2 a3 k, LeO (vmfleetlaw4_MemoryChanges.f k a0 a1 a2 a3) (vmfleetlaw4_MemoryChanges.f (k + 1) a0 a1 a2 a3) := by
  intro a0 a1 a2 a3 k
  have ih0 := vmfleetlaw4_MemoryChanges.mono_l k
  unfold vmfleetlaw4_MemoryChanges.f
  repeat' first
      | (with_reducible exact ih0 _ _ _ _ _ _)
      | (with_reducible exact memory_Changed.mono _ _ _)
      | (with_reducible exact memory_Hash.mono _ _)
      | (with_reducible exact vmfleetlaw4_shaped.mono _ _ _ _ _)
      | (with_reducible exact LeO.refl _)
      | (with_reducible exact LeO.none _)
      | (with_reducible refine LeO.ite ?_ ?_)
      | (with_reducible refine LeO.bind ?_ (fun _ => ?_))
      | exact ih0 _ _ _ _ _ _
      | exact memory_Changed.mono _ _ _
      | exact memory_Hash.mono _ _
      | exact vmfleetlaw4_shaped.mono _ _ _ _ _
      | exact LeO.none _
      | refine LeO.ite ?_ ?_
      | refine LeO.bind ?_ (fun _ => ?_)
set_option maxHeartbeats 8000000 in
set_option maxRecDepth 100000 in
theorem vmfleetlaw4_MemoryChanges.calls (k : Nat) (A0 : Option Addr) (c0 : Nat) (l0 : List Int) (a1 : Int) (a2 : Int) (a3 : Int) (r : Bool) (w : World) (hr0 : Kd.C (Kd.int .i64) w A0 l0.length l0) (hc0 : l0.length ≤ c0) (h : vmfleetlaw4_MemoryChanges.f k l0 a1 a2 a3 = some r) :
    Calls Try.prog 8 #[.slice A0 l0.length c0, .int .i64 a1, .int .u32 a2, .int .u32 a3] w fun e w' => e = .returned (.bool r) ∧ Below w.heap.size w w' := by
  have HR0 := Aside0.mk hr0
  have HC0 := Aside0.mk hc0
  clear hr0 hc0
  have HB := Aside0.mk (Below.refl w.heap.size w)
  have H : ((vmfleetlaw4_shaped.f k ([] : List Int) false l0 a1).bind fun t159 => (if ((wrap64 (4 * (t159.length : Int))) % 4294967296) = 0 then (none) else ((memory_Load.f t159 ((((Int.tdiv (Int.tmod a2 ((wrap64 (4 * (t159.length : Int))) % 4294967296)) 4) % 4294967296) * 4) % 4294967296) 4).bind fun bt162 => ((memory_Store.f t159 ((((Int.tdiv (Int.tmod a2 ((wrap64 (4 * (t159.length : Int))) % 4294967296)) 4) % 4294967296) * 4) % 4294967296) 4 a3).bind fun bt164 => (if bt162.2 = true then (vmfleetlaw4_MemoryChanges.j0 k ((((Int.tdiv (Int.tmod a2 ((wrap64 (4 * (t159.length : Int))) % 4294967296)) 4) % 4294967296) * 4) % 4294967296) a3 t159 bt162.1 bt164.1 (!bt164.2)) else (vmfleetlaw4_MemoryChanges.j0 k ((((Int.tdiv (Int.tmod a2 ((wrap64 (4 * (t159.length : Int))) % 4294967296)) 4) % 4294967296) * 4) % 4294967296) a3 t159 bt162.1 bt164.1 true)))))) = some r := h
  clear h
  replace H := Option.bind_eq_some_iff.mp H
  obtain ⟨t159, A50, H⟩ := H
  replace H : (if ((wrap64 (4 * (t159.length : Int))) % 4294967296) = 0 then (none) else ((memory_Load.f t159 ((((Int.tdiv (Int.tmod a2 ((wrap64 (4 * (t159.length : Int))) % 4294967296)) 4) % 4294967296) * 4) % 4294967296) 4).bind fun bt162 => ((memory_Store.f t159 ((((Int.tdiv (Int.tmod a2 ((wrap64 (4 * (t159.length : Int))) % 4294967296)) 4) % 4294967296) * 4) % 4294967296) 4 a3).bind fun bt164 => (if bt162.2 = true then (vmfleetlaw4_MemoryChanges.j0 k ((((Int.tdiv (Int.tmod a2 ((wrap64 (4 * (t159.length : Int))) % 4294967296)) 4) % 4294967296) * 4) % 4294967296) a3 t159 bt162.1 bt164.1 (!bt164.2)) else (vmfleetlaw4_MemoryChanges.j0 k ((((Int.tdiv (Int.tmod a2 ((wrap64 (4 * (t159.length : Int))) % 4294967296)) 4) % 4294967296) * 4) % 4294967296) a3 t159 bt162.1 bt164.1 true))))) = some r := H
  have A5 := Aside0.mk A50
  clear A50
  by_cases c6 : ((wrap64 (4 * (t159.length : Int))) % 4294967296) = 0
  · rw [if_pos c6] at H
    exact absurd H (by simp)
  · rw [if_neg c6] at H
    have c6b0 : (((wrap64 (4 * (t159.length : Int))) % 4294967296) == 0) = false := beq_eq_false_iff_ne.mpr c6
    have c6b1 : (((wrap64 (4 * (t159.length : Int))) % 4294967296) != 0) = true := bne_iff_ne.mpr c6
    replace H := Option.bind_eq_some_iff.mp H
    obtain ⟨⟨t162, t163⟩, A70, H⟩ := H
    replace H : ((memory_Store.f t159 ((((Int.tdiv (Int.tmod a2 ((wrap64 (4 * (t159.length : Int))) % 4294967296)) 4) % 4294967296) * 4) % 4294967296) 4 a3).bind fun bt164 => (if t163 = true then (vmfleetlaw4_MemoryChanges.j0 k ((((Int.tdiv (Int.tmod a2 ((wrap64 (4 * (t159.length : Int))) % 4294967296)) 4) % 4294967296) * 4) % 4294967296) a3 t159 t162 bt164.1 (!bt164.2)) else (vmfleetlaw4_MemoryChanges.j0 k ((((Int.tdiv (Int.tmod a2 ((wrap64 (4 * (t159.length : Int))) % 4294967296)) 4) % 4294967296) * 4) % 4294967296) a3 t159 t162 bt164.1 true))) = some r := H
    have A7 := Aside0.mk A70
    clear A70
    replace H := Option.bind_eq_some_iff.mp H
    obtain ⟨⟨t164, t165⟩, A80, H⟩ := H
    replace H : (if t163 = true then (vmfleetlaw4_MemoryChanges.j0 k ((((Int.tdiv (Int.tmod a2 ((wrap64 (4 * (t159.length : Int))) % 4294967296)) 4) % 4294967296) * 4) % 4294967296) a3 t159 t162 t164 (!t165)) else (vmfleetlaw4_MemoryChanges.j0 k ((((Int.tdiv (Int.tmod a2 ((wrap64 (4 * (t159.length : Int))) % 4294967296)) 4) % 4294967296) * 4) % 4294967296) a3 t159 t162 t164 true)) = some r := H
    have A8 := Aside0.mk A80
    clear A80
    have HC9 := Aside0.mk H
    clear H
    go_enter Try.func8, Try.ntmps8
    go_upto_region 5 with (first | ((with_reducible refine gate_callee (f := 10) rfl ?_); refine goesL_ (some 17) rfl rfl Try.func10 (by kernel_rfl) rfl #[.slice none 0 0, .bool false, .slice A0 l0.length c0, .int .i64 a1] rfl (by (try simp only [List.map_toArray, List.map_cons, List.map_nil]); first | done | rfl | (simp only [List.length_drop, List.length_take]; rfl)) ?_; (refine (vmfleetlaw4_shaped.calls k (fun k_ => some k_ = (.slice none 0 0 : Value).ownBlock) (.slice none 0 0) ([] : List Int) false _ _ l0 a1 t159 w _ ?side1 ?side2 ?side3 ?side4 A5.out).mono ?_); (case side1 => repeat (first | (with_reducible first | exact HB.out | apply below_alloc | apply pw_below_drewN | apply below_drew1) | exact HB.out)); (case side2 => exact Kd.R_nil _ _ _ _ _); (case side3 => exact Kd.C_kept_came (Kd.heap_int .i64) HR0.out (by repeat (first | (with_reducible first | exact HB.out | apply below_alloc | apply pw_below_drewN | apply below_drew1) | exact HB.out)) (fun k_ hs_ => (fun e_ => by simp [Value.ownBlock] at e_) hs_)); (case side4 => exact HC0.out); rintro e w10 ⟨v160, rfl, ho0, hb, hkp⟩; refine ⟨_, rfl, ?_⟩; have n0_ := Aside0.mk (Kd.R_mono (ok' := fun k_ => True) ho0 (fun k_ hk_ => trivial)); have n1_ := Aside0.mk (hb); clear HB; have HO161 := n0_; have HB := n1_; clear n0_ n1_; (try clear hb); (try clear hkp); (try clear ho0); obtain ⟨Ao11, co11, eo11⟩ := Kd.R_slice HO161.out; subst eo11) | ((with_reducible refine gate_callee (f := 12) rfl ?_); refine goesL_ (some 29) rfl rfl Try.func12 (by kernel_rfl) rfl #[.slice Ao11 t159.length co11, .int .u32 ((((Int.tdiv (Int.tmod a2 ((wrap64 (4 * (t159.length : Int))) % 4294967296)) 4) % 4294967296) * 4) % 4294967296), .int .i64 4] rfl (by (try simp only [List.map_toArray, List.map_cons, List.map_nil]); first | done | rfl | (simp only [List.length_drop, List.length_take]; rfl)) ?_; (with_reducible refine (memory_Load.calls _ _ t159 ((((Int.tdiv (Int.tmod a2 ((wrap64 (4 * (t159.length : Int))) % 4294967296)) 4) % 4294967296) * 4) % 4294967296) 4 t162 t163 _ ?side1 ?side2 A7.out).mono ?_); (case side1 => repeat (first | exact (Kd.R_reads' HO161.out).2.2 | (with_reducible refine Kd.C_alloc ?_ _) | (with_reducible refine Kd.C_drewN ?_ _) | (with_reducible refine Kd.C_drew ?_))); (case side2 => exact (Kd.R_reads' HO161.out).2.1); rintro e w' ⟨rfl, ⟨nd, rfl⟩⟩; refine ⟨_, rfl, ?_⟩) | ((with_reducible refine gate_callee (f := 14) rfl ?_); refine goesL_ (some 36) rfl rfl Try.func14 (by kernel_rfl) rfl #[.slice Ao11 t159.length co11, .int .u32 ((((Int.tdiv (Int.tmod a2 ((wrap64 (4 * (t159.length : Int))) % 4294967296)) 4) % 4294967296) * 4) % 4294967296), .int .i64 4, .int .u32 a3] rfl (by (try simp only [List.map_toArray, List.map_cons, List.map_nil]); first | done | rfl | (simp only [List.length_drop, List.length_take]; rfl)) ?_; (with_reducible refine (memory_Store.calls _ _ t159 ((((Int.tdiv (Int.tmod a2 ((wrap64 (4 * (t159.length : Int))) % 4294967296)) 4) % 4294967296) * 4) % 4294967296) 4 a3 t164 t165 _ ?side1 ?side2 A8.out).mono ?_); (case side1 => repeat (first | exact (Kd.R_reads' HO161.out).2.2 | (with_reducible refine Kd.C_alloc ?_ _) | (with_reducible refine Kd.C_drewN ?_ _) | (with_reducible refine Kd.C_drew ?_))); (case side2 => exact (Kd.R_reads' HO161.out).2.1); rintro e w12 ⟨v166, rfl, ho0, hb⟩; refine ⟨_, rfl, ?_⟩; have n0_ := Aside0.mk (Kd.R_elder' (by (with_reducible repeat (first | apply Kd.R_alloc | apply Kd.R_drewN | apply Kd.R_drew)); exact HO161.out) (Kd.R_base ho0) hb); have n1_ := Aside0.mk (Kd.R_lower (Kd.R_new' ho0 (Kd.R_lt (by (with_reducible repeat (first | apply Kd.R_alloc | apply Kd.R_drewN | apply Kd.R_drew)); exact HO161.out))) (below_size (by repeat (first | (with_reducible first | exact HB.out | apply below_alloc | apply pw_below_drewN | apply below_drew1) | exact HB.out)))); have n2_ := Aside0.mk (below_step (by repeat (first | (with_reducible first | exact HB.out | apply below_alloc | apply pw_below_drewN | apply below_drew1) | exact HB.out)) hb); clear HO161; clear HB; have HO161 := n0_; have HO167 := n1_; have HB := n2_; clear n0_ n1_ n2_; (try clear hb); (try clear hb2); (try clear hk); (try clear hi); (try clear ho0)))
    (try simp only [Act.put, List.setIfInBounds_toArray, List.set_cons_zero, List.set_cons_succ])
    go_cut [44] (fun v44 wc => ∃ (kq : Nat) (x44_8 : Bool), v44 = .bool x44_8 ∧ Aside0 (vmfleetlaw4_MemoryChanges.j0 kq ((((Int.tdiv (Int.tmod a2 ((wrap64 (4 * (t159.length : Int))) % 4294967296)) 4) % 4294967296) * 4) % 4294967296) a3 t159 t162 t164 x44_8 = some r) ∧ Aside0 (kq ≤ k) ∧ Aside0 (Kd.R (Kd.int .u32) 24 wc w.heap.size (fun k_ => some k_ ≠ (v166 : Value).ownBlock) (.slice Ao11 t159.length co11) t159) ∧ Aside0 (Kd.R (Kd.int .u32) 24 wc w.heap.size (fun k_ => some k_ ≠ ((.slice Ao11 t159.length co11) : Value).ownBlock) v166 t164) ∧ Aside0 (Below w.heap.size w wc))
    case first =>
      have H := HC9.out
      clear HC9
      by_cases c13 : t163 = true
      · subst c13
        have H1 : (vmfleetlaw4_MemoryChanges.j0 k ((((Int.tdiv (Int.tmod a2 ((wrap64 (4 * (t159.length : Int))) % 4294967296)) 4) % 4294967296) * 4) % 4294967296) a3 t159 t162 t164 (!t165)) = some r := by rw [if_pos rfl] at H; exact H
        clear H
        have H := H1
        clear H1
        have H' := Aside0.mk H
        clear H
        go_wp2
        go_meet
        case rel => exact ⟨_, (!t165), (by first | rfl | (simp; done) | (simp [*]; done)), H', ⟨by first | omega | exact Nat.le_refl _⟩, ⟨by (with_reducible repeat (first | apply Kd.R_alloc | apply Kd.R_drewN | apply Kd.R_drew)); exact Kd.R_mono HO161.out (fun _ hk => hk.2)⟩, ⟨by (with_reducible repeat (first | apply Kd.R_alloc | apply Kd.R_drewN | apply Kd.R_drew)); exact Kd.R_mono HO167.out (fun _ hk => hk.2)⟩, ⟨by repeat (first | (with_reducible first | exact HB.out | apply below_alloc | apply pw_below_drewN | apply below_drew1) | exact HB.out)⟩⟩
      · replace c13 := Bool.eq_false_iff.mpr c13
        subst c13
        have H1 : (vmfleetlaw4_MemoryChanges.j0 k ((((Int.tdiv (Int.tmod a2 ((wrap64 (4 * (t159.length : Int))) % 4294967296)) 4) % 4294967296) * 4) % 4294967296) a3 t159 t162 t164 true) = some r := by rw [if_neg (show ¬ (false = true) by decide)] at H; exact H
        clear H
        have H := H1
        clear H1
        have H' := Aside0.mk H
        clear H
        go_wp2
        go_meet
        case rel => exact ⟨_, (true), (by first | rfl | (simp; done) | (simp [*]; done)), H', ⟨by first | omega | exact Nat.le_refl _⟩, ⟨by (with_reducible repeat (first | apply Kd.R_alloc | apply Kd.R_drewN | apply Kd.R_drew)); exact Kd.R_mono HO161.out (fun _ hk => hk.2)⟩, ⟨by (with_reducible repeat (first | apply Kd.R_alloc | apply Kd.R_drewN | apply Kd.R_drew)); exact Kd.R_mono HO167.out (fun _ hk => hk.2)⟩, ⟨by repeat (first | (with_reducible first | exact HB.out | apply below_alloc | apply pw_below_drewN | apply below_drew1) | exact HB.out)⟩⟩
    case rest =>
      clear HC9
      try clear c1
      try clear p2
      try clear c6
      try clear c6b0
      try clear c6b1
      try clear p6
      try clear c8
      try clear c10
      try clear c12
      try clear c13
      obtain ⟨kq, x44_8, rfl, HA, HJ8, HO_9, HO_12, HB⟩ := hcut
      cases kq with
      | zero => exact absurd HA.out (by simp [vmfleetlaw4_MemoryChanges.j0])
      | succ kj8 =>
        have H := HA.out
        clear HA
        simp only [vmfleetlaw4_MemoryChanges.j0] at H
        by_cases c14 : x44_8 = true
        · subst c14
          have H1 : (some false) = some r := by rw [if_pos rfl] at H; exact H
          clear H
          have H := H1
          clear H1
          obtain rfl := Option.some.inj H
          go_wp2
          go_ret
          exact ⟨by first | rfl | (simp [errW_none, errW_some] <;> rfl) | (simp [*, errW_none, errW_some] <;> rfl), by repeat (first | (with_reducible first | exact HB.out | apply below_alloc | apply pw_below_drewN | apply below_drew1) | exact HB.out)⟩
        · replace c14 := Bool.eq_false_iff.mpr c14
          subst c14
          have H1 : ((memory_Changed.f kj8 t159 t164).bind fun t168 => (if t162 = a3 then (if (t168.length : Int) = 0 then ((memory_Hash.f kj8 t159).bind fun t171 => ((memory_Hash.f kj8 t164).bind fun t172 => (if t171 = t172 then ((vmfleetlaw4_awake.f).bind fun t173 => (some t173)) else (some false)))) else (some false)) else (if (t168.length : Int) = 1 then (if 0 < (t168.length : Int) then (if (rd t168 0) = ((Int.tdiv ((((Int.tdiv (Int.tmod a2 ((wrap64 (4 * (t159.length : Int))) % 4294967296)) 4) % 4294967296) * 4) % 4294967296) 128) % 4294967296) then ((vmfleetlaw4_awake.f).bind fun t175 => (some t175)) else (some false)) else (none)) else (some false)))) = some r := by rw [if_neg (show ¬ (false = true) by decide)] at H; exact H
          clear H
          have H := H1
          clear H1
          replace H := Option.bind_eq_some_iff.mp H
          obtain ⟨t168, A150, H⟩ := H
          replace H : (if t162 = a3 then (if (t168.length : Int) = 0 then ((memory_Hash.f kj8 t159).bind fun t171 => ((memory_Hash.f kj8 t164).bind fun t172 => (if t171 = t172 then ((vmfleetlaw4_awake.f).bind fun t173 => (some t173)) else (some false)))) else (some false)) else (if (t168.length : Int) = 1 then (if 0 < (t168.length : Int) then (if (rd t168 0) = ((Int.tdiv ((((Int.tdiv (Int.tmod a2 ((wrap64 (4 * (t159.length : Int))) % 4294967296)) 4) % 4294967296) * 4) % 4294967296) 128) % 4294967296) then ((vmfleetlaw4_awake.f).bind fun t175 => (some t175)) else (some false)) else (none)) else (some false))) = some r := H
          have A15 := Aside0.mk A150
          clear A150
          by_cases c16 : t162 = a3
          · rw [if_pos c16] at H
            have c16b0 : (t162 == a3) = true := beq_iff_eq.mpr c16
            have c16b1 : (t162 != a3) = false := bne_eq_false_iff_eq.mpr c16
            clear c16
            by_cases c17 : (t168.length : Int) = 0
            · rw [if_pos c17] at H
              have c17b0 : ((t168.length : Int) == 0) = true := beq_iff_eq.mpr c17
              have c17b1 : ((t168.length : Int) != 0) = false := bne_eq_false_iff_eq.mpr c17
              clear c17
              replace H := Option.bind_eq_some_iff.mp H
              obtain ⟨t171, A180, H⟩ := H
              replace H : ((memory_Hash.f kj8 t164).bind fun t172 => (if t171 = t172 then ((vmfleetlaw4_awake.f).bind fun t173 => (some t173)) else (some false))) = some r := H
              have A18 := Aside0.mk A180
              clear A180
              replace H := Option.bind_eq_some_iff.mp H
              obtain ⟨t172, A190, H⟩ := H
              replace H : (if t171 = t172 then ((vmfleetlaw4_awake.f).bind fun t173 => (some t173)) else (some false)) = some r := H
              have A19 := Aside0.mk A190
              clear A190
              by_cases c20 : t171 = t172
              · rw [if_pos c20] at H
                have c20b0 : (t171 == t172) = true := beq_iff_eq.mpr c20
                have c20b1 : (t171 != t172) = false := bne_eq_false_iff_eq.mpr c20
                clear c20
                replace H := Option.bind_eq_some_iff.mp H
                obtain ⟨t173, A210, H⟩ := H
                replace H : (some t173) = some r := H
                have A21 := Aside0.mk A210
                clear A210
                obtain rfl := Option.some.inj H
                obtain ⟨Ao22, co22, eo22⟩ := Kd.R_slice HO_12.out
                subst eo22
                go_wp2_with (first | ((with_reducible refine gate_callee (f := 31) rfl ?_); refine goesL_ (some 47) rfl rfl Try.func31 (by kernel_rfl) rfl #[.slice Ao11 t159.length co11, .slice Ao22 t164.length co22] rfl (by (try simp only [List.map_toArray, List.map_cons, List.map_nil]); first | done | rfl | (simp only [List.length_drop, List.length_take]; rfl)) ?_; (with_reducible refine (memory_Changed.calls kj8 _ _ t159 _ _ t164 t168 _ ?side1 ?side2 ?side3 ?side4 A15.out).mono ?_); (case side1 => repeat (first | exact (Kd.R_reads' HO_9.out).2.2 | (with_reducible refine Kd.C_alloc ?_ _) | (with_reducible refine Kd.C_drewN ?_ _) | (with_reducible refine Kd.C_drew ?_))); (case side2 => exact (Kd.R_reads' HO_9.out).2.1); (case side3 => repeat (first | exact (Kd.R_reads' HO_12.out).2.2 | (with_reducible refine Kd.C_alloc ?_ _) | (with_reducible refine Kd.C_drewN ?_ _) | (with_reducible refine Kd.C_drew ?_))); (case side4 => exact (Kd.R_reads' HO_12.out).2.1); rintro e w23 ⟨v169, rfl, ho0, hb⟩; refine ⟨_, rfl, ?_⟩; have n0_ := Aside0.mk (Kd.R_below (by (with_reducible repeat (first | apply Kd.R_alloc | apply Kd.R_drewN | apply Kd.R_drew)); exact HO_9.out) hb); have n1_ := Aside0.mk (Kd.R_below (by (with_reducible repeat (first | apply Kd.R_alloc | apply Kd.R_drewN | apply Kd.R_drew)); exact HO_12.out) hb); have n2_ := Aside0.mk (Kd.R_lower ho0 (below_size (by repeat (first | (with_reducible first | exact HB.out | apply below_alloc | apply pw_below_drewN | apply below_drew1) | exact HB.out)))); have n3_ := Aside0.mk (below_step (by repeat (first | (with_reducible first | exact HB.out | apply below_alloc | apply pw_below_drewN | apply below_drew1) | exact HB.out)) hb); clear HO_9; clear HO_12; clear HB; have HO_9 := n0_; have HO_12 := n1_; have HO170 := n2_; have HB := n3_; clear n0_ n1_ n2_ n3_; (try clear hb); (try clear hb2); (try clear hk); (try clear hi); (try clear ho0); obtain ⟨Ao24, co24, eo24⟩ := Kd.R_slice HO170.out; subst eo24) | (go_at_call 28; (with_reducible refine (memory_Hash.calls kj8 _ _ t159 t171 _ ?side1 ?side2 A18.out).mono ?_); (case side1 => repeat (first | exact (Kd.R_reads' HO_9.out).2.2 | (with_reducible refine Kd.C_alloc ?_ _) | (with_reducible refine Kd.C_drewN ?_ _) | (with_reducible refine Kd.C_drew ?_))); (case side2 => exact (Kd.R_reads' HO_9.out).2.1); rintro e w25 ⟨rfl, hb⟩; have n0_ := Aside0.mk (Kd.R_below (by (with_reducible repeat (first | apply Kd.R_alloc | apply Kd.R_drewN | apply Kd.R_drew)); exact HO_9.out) hb); have n1_ := Aside0.mk (Kd.R_below (by (with_reducible repeat (first | apply Kd.R_alloc | apply Kd.R_drewN | apply Kd.R_drew)); exact HO_12.out) hb); have n2_ := Aside0.mk (Kd.R_below (by (with_reducible repeat (first | apply Kd.R_alloc | apply Kd.R_drewN | apply Kd.R_drew)); exact HO170.out) hb); have n3_ := Aside0.mk (below_step (by repeat (first | (with_reducible first | exact HB.out | apply below_alloc | apply pw_below_drewN | apply below_drew1) | exact HB.out)) hb); clear HO_9; clear HO_12; clear HO170; clear HB; have HO_9 := n0_; have HO_12 := n1_; have HO170 := n2_; have HB := n3_; clear n0_ n1_ n2_ n3_; (try clear hb); (try clear hb2); (try clear hk); (try clear hi)) | (go_at_call 28; (with_reducible refine (memory_Hash.calls kj8 _ _ t164 t172 _ ?side1 ?side2 A19.out).mono ?_); (case side1 => repeat (first | exact (Kd.R_reads' HO_12.out).2.2 | (with_reducible refine Kd.C_alloc ?_ _) | (with_reducible refine Kd.C_drewN ?_ _) | (with_reducible refine Kd.C_drew ?_))); (case side2 => exact (Kd.R_reads' HO_12.out).2.1); rintro e w26 ⟨rfl, hb⟩; have n0_ := Aside0.mk (Kd.R_below (by (with_reducible repeat (first | apply Kd.R_alloc | apply Kd.R_drewN | apply Kd.R_drew)); exact HO_9.out) hb); have n1_ := Aside0.mk (Kd.R_below (by (with_reducible repeat (first | apply Kd.R_alloc | apply Kd.R_drewN | apply Kd.R_drew)); exact HO_12.out) hb); have n2_ := Aside0.mk (Kd.R_below (by (with_reducible repeat (first | apply Kd.R_alloc | apply Kd.R_drewN | apply Kd.R_drew)); exact HO170.out) hb); have n3_ := Aside0.mk (below_step (by repeat (first | (with_reducible first | exact HB.out | apply below_alloc | apply pw_below_drewN | apply below_drew1) | exact HB.out)) hb); clear HO_9; clear HO_12; clear HO170; clear HB; have HO_9 := n0_; have HO_12 := n1_; have HO170 := n2_; have HB := n3_; clear n0_ n1_ n2_ n3_; (try clear hb); (try clear hb2); (try clear hk); (try clear hi)) | (go_at_call 21; (with_reducible refine (vmfleetlaw4_awake.calls  t173 _ A21.out).mono ?_); rintro e w27 ⟨rfl, hb⟩; have n0_ := Aside0.mk (Kd.R_below (by (with_reducible repeat (first | apply Kd.R_alloc | apply Kd.R_drewN | apply Kd.R_drew)); exact HO_9.out) hb); have n1_ := Aside0.mk (Kd.R_below (by (with_reducible repeat (first | apply Kd.R_alloc | apply Kd.R_drewN | apply Kd.R_drew)); exact HO_12.out) hb); have n2_ := Aside0.mk (Kd.R_below (by (with_reducible repeat (first | apply Kd.R_alloc | apply Kd.R_drewN | apply Kd.R_drew)); exact HO170.out) hb); have n3_ := Aside0.mk (below_step (by repeat (first | (with_reducible first | exact HB.out | apply below_alloc | apply pw_below_drewN | apply below_drew1) | exact HB.out)) hb); clear HO_9; clear HO_12; clear HO170; clear HB; have HO_9 := n0_; have HO_12 := n1_; have HO170 := n2_; have HB := n3_; clear n0_ n1_ n2_ n3_; (try clear hb); (try clear hb2); (try clear hk); (try clear hi)))
                go_ret
                exact ⟨by first | rfl | (simp [errW_none, errW_some] <;> rfl) | (simp [*, errW_none, errW_some] <;> rfl), by repeat (first | (with_reducible first | exact HB.out | apply below_alloc | apply pw_below_drewN | apply below_drew1) | exact HB.out)⟩
              · rw [if_neg c20] at H
                have c20b0 : (t171 == t172) = false := beq_eq_false_iff_ne.mpr c20
                have c20b1 : (t171 != t172) = true := bne_iff_ne.mpr c20
                obtain rfl := Option.some.inj H
                obtain ⟨Ao28, co28, eo28⟩ := Kd.R_slice HO_12.out
                subst eo28
                go_wp2_with (first | ((with_reducible refine gate_callee (f := 31) rfl ?_); refine goesL_ (some 47) rfl rfl Try.func31 (by kernel_rfl) rfl #[.slice Ao11 t159.length co11, .slice Ao28 t164.length co28] rfl (by (try simp only [List.map_toArray, List.map_cons, List.map_nil]); first | done | rfl | (simp only [List.length_drop, List.length_take]; rfl)) ?_; (with_reducible refine (memory_Changed.calls kj8 _ _ t159 _ _ t164 t168 _ ?side1 ?side2 ?side3 ?side4 A15.out).mono ?_); (case side1 => repeat (first | exact (Kd.R_reads' HO_9.out).2.2 | (with_reducible refine Kd.C_alloc ?_ _) | (with_reducible refine Kd.C_drewN ?_ _) | (with_reducible refine Kd.C_drew ?_))); (case side2 => exact (Kd.R_reads' HO_9.out).2.1); (case side3 => repeat (first | exact (Kd.R_reads' HO_12.out).2.2 | (with_reducible refine Kd.C_alloc ?_ _) | (with_reducible refine Kd.C_drewN ?_ _) | (with_reducible refine Kd.C_drew ?_))); (case side4 => exact (Kd.R_reads' HO_12.out).2.1); rintro e w29 ⟨v169, rfl, ho0, hb⟩; refine ⟨_, rfl, ?_⟩; have n0_ := Aside0.mk (Kd.R_below (by (with_reducible repeat (first | apply Kd.R_alloc | apply Kd.R_drewN | apply Kd.R_drew)); exact HO_9.out) hb); have n1_ := Aside0.mk (Kd.R_below (by (with_reducible repeat (first | apply Kd.R_alloc | apply Kd.R_drewN | apply Kd.R_drew)); exact HO_12.out) hb); have n2_ := Aside0.mk (Kd.R_lower ho0 (below_size (by repeat (first | (with_reducible first | exact HB.out | apply below_alloc | apply pw_below_drewN | apply below_drew1) | exact HB.out)))); have n3_ := Aside0.mk (below_step (by repeat (first | (with_reducible first | exact HB.out | apply below_alloc | apply pw_below_drewN | apply below_drew1) | exact HB.out)) hb); clear HO_9; clear HO_12; clear HB; have HO_9 := n0_; have HO_12 := n1_; have HO170 := n2_; have HB := n3_; clear n0_ n1_ n2_ n3_; (try clear hb); (try clear hb2); (try clear hk); (try clear hi); (try clear ho0); obtain ⟨Ao30, co30, eo30⟩ := Kd.R_slice HO170.out; subst eo30) | (go_at_call 28; (with_reducible refine (memory_Hash.calls kj8 _ _ t159 t171 _ ?side1 ?side2 A18.out).mono ?_); (case side1 => repeat (first | exact (Kd.R_reads' HO_9.out).2.2 | (with_reducible refine Kd.C_alloc ?_ _) | (with_reducible refine Kd.C_drewN ?_ _) | (with_reducible refine Kd.C_drew ?_))); (case side2 => exact (Kd.R_reads' HO_9.out).2.1); rintro e w31 ⟨rfl, hb⟩; have n0_ := Aside0.mk (Kd.R_below (by (with_reducible repeat (first | apply Kd.R_alloc | apply Kd.R_drewN | apply Kd.R_drew)); exact HO_9.out) hb); have n1_ := Aside0.mk (Kd.R_below (by (with_reducible repeat (first | apply Kd.R_alloc | apply Kd.R_drewN | apply Kd.R_drew)); exact HO_12.out) hb); have n2_ := Aside0.mk (Kd.R_below (by (with_reducible repeat (first | apply Kd.R_alloc | apply Kd.R_drewN | apply Kd.R_drew)); exact HO170.out) hb); have n3_ := Aside0.mk (below_step (by repeat (first | (with_reducible first | exact HB.out | apply below_alloc | apply pw_below_drewN | apply below_drew1) | exact HB.out)) hb); clear HO_9; clear HO_12; clear HO170; clear HB; have HO_9 := n0_; have HO_12 := n1_; have HO170 := n2_; have HB := n3_; clear n0_ n1_ n2_ n3_; (try clear hb); (try clear hb2); (try clear hk); (try clear hi)) | (go_at_call 28; (with_reducible refine (memory_Hash.calls kj8 _ _ t164 t172 _ ?side1 ?side2 A19.out).mono ?_); (case side1 => repeat (first | exact (Kd.R_reads' HO_12.out).2.2 | (with_reducible refine Kd.C_alloc ?_ _) | (with_reducible refine Kd.C_drewN ?_ _) | (with_reducible refine Kd.C_drew ?_))); (case side2 => exact (Kd.R_reads' HO_12.out).2.1); rintro e w32 ⟨rfl, hb⟩; have n0_ := Aside0.mk (Kd.R_below (by (with_reducible repeat (first | apply Kd.R_alloc | apply Kd.R_drewN | apply Kd.R_drew)); exact HO_9.out) hb); have n1_ := Aside0.mk (Kd.R_below (by (with_reducible repeat (first | apply Kd.R_alloc | apply Kd.R_drewN | apply Kd.R_drew)); exact HO_12.out) hb); have n2_ := Aside0.mk (Kd.R_below (by (with_reducible repeat (first | apply Kd.R_alloc | apply Kd.R_drewN | apply Kd.R_drew)); exact HO170.out) hb); have n3_ := Aside0.mk (below_step (by repeat (first | (with_reducible first | exact HB.out | apply below_alloc | apply pw_below_drewN | apply below_drew1) | exact HB.out)) hb); clear HO_9; clear HO_12; clear HO170; clear HB; have HO_9 := n0_; have HO_12 := n1_; have HO170 := n2_; have HB := n3_; clear n0_ n1_ n2_ n3_; (try clear hb); (try clear hb2); (try clear hk); (try clear hi)))
                go_ret
                exact ⟨by first | rfl | (simp [errW_none, errW_some] <;> rfl) | (simp [*, errW_none, errW_some] <;> rfl), by repeat (first | (with_reducible first | exact HB.out | apply below_alloc | apply pw_below_drewN | apply below_drew1) | exact HB.out)⟩
            · rw [if_neg c17] at H
              have c17b0 : ((t168.length : Int) == 0) = false := beq_eq_false_iff_ne.mpr c17
              have c17b1 : ((t168.length : Int) != 0) = true := bne_iff_ne.mpr c17
              have c17b2 : ¬ (t168 = []) := fun h_ => c17 (by rw [h_]; rfl)
              obtain rfl := Option.some.inj H
              obtain ⟨Ao33, co33, eo33⟩ := Kd.R_slice HO_12.out
              subst eo33
              go_wp2_with (first | ((with_reducible refine gate_callee (f := 31) rfl ?_); refine goesL_ (some 47) rfl rfl Try.func31 (by kernel_rfl) rfl #[.slice Ao11 t159.length co11, .slice Ao33 t164.length co33] rfl (by (try simp only [List.map_toArray, List.map_cons, List.map_nil]); first | done | rfl | (simp only [List.length_drop, List.length_take]; rfl)) ?_; (with_reducible refine (memory_Changed.calls kj8 _ _ t159 _ _ t164 t168 _ ?side1 ?side2 ?side3 ?side4 A15.out).mono ?_); (case side1 => repeat (first | exact (Kd.R_reads' HO_9.out).2.2 | (with_reducible refine Kd.C_alloc ?_ _) | (with_reducible refine Kd.C_drewN ?_ _) | (with_reducible refine Kd.C_drew ?_))); (case side2 => exact (Kd.R_reads' HO_9.out).2.1); (case side3 => repeat (first | exact (Kd.R_reads' HO_12.out).2.2 | (with_reducible refine Kd.C_alloc ?_ _) | (with_reducible refine Kd.C_drewN ?_ _) | (with_reducible refine Kd.C_drew ?_))); (case side4 => exact (Kd.R_reads' HO_12.out).2.1); rintro e w34 ⟨v169, rfl, ho0, hb⟩; refine ⟨_, rfl, ?_⟩; have n0_ := Aside0.mk (Kd.R_below (by (with_reducible repeat (first | apply Kd.R_alloc | apply Kd.R_drewN | apply Kd.R_drew)); exact HO_9.out) hb); have n1_ := Aside0.mk (Kd.R_below (by (with_reducible repeat (first | apply Kd.R_alloc | apply Kd.R_drewN | apply Kd.R_drew)); exact HO_12.out) hb); have n2_ := Aside0.mk (Kd.R_lower ho0 (below_size (by repeat (first | (with_reducible first | exact HB.out | apply below_alloc | apply pw_below_drewN | apply below_drew1) | exact HB.out)))); have n3_ := Aside0.mk (below_step (by repeat (first | (with_reducible first | exact HB.out | apply below_alloc | apply pw_below_drewN | apply below_drew1) | exact HB.out)) hb); clear HO_9; clear HO_12; clear HB; have HO_9 := n0_; have HO_12 := n1_; have HO170 := n2_; have HB := n3_; clear n0_ n1_ n2_ n3_; (try clear hb); (try clear hb2); (try clear hk); (try clear hi); (try clear ho0); obtain ⟨Ao35, co35, eo35⟩ := Kd.R_slice HO170.out; subst eo35))
              go_ret
              exact ⟨by first | rfl | (simp [errW_none, errW_some] <;> rfl) | (simp [*, errW_none, errW_some] <;> rfl), by repeat (first | (with_reducible first | exact HB.out | apply below_alloc | apply pw_below_drewN | apply below_drew1) | exact HB.out)⟩
          · rw [if_neg c16] at H
            have c16b0 : (t162 == a3) = false := beq_eq_false_iff_ne.mpr c16
            have c16b1 : (t162 != a3) = true := bne_iff_ne.mpr c16
            by_cases c36 : (t168.length : Int) = 1
            · rw [if_pos c36] at H
              have c36b0 : ((t168.length : Int) == 1) = true := beq_iff_eq.mpr c36
              have c36b1 : ((t168.length : Int) != 1) = false := bne_eq_false_iff_eq.mpr c36
              clear c36
              by_cases c37 : 0 < (t168.length : Int)
              · rw [if_pos c37] at H
                have c37b0 : decide (0 < (t168.length : Int)) = true := decide_eq_true c37
                have c37b1 : decide (0 < t168.length) = true := decide_eq_true (by omega)
                clear c37
                by_cases c38 : (rd t168 0) = ((Int.tdiv ((((Int.tdiv (Int.tmod a2 ((wrap64 (4 * (t159.length : Int))) % 4294967296)) 4) % 4294967296) * 4) % 4294967296) 128) % 4294967296)
                · rw [if_pos c38] at H
                  have c38b0 : ((rd t168 0) == ((Int.tdiv ((((Int.tdiv (Int.tmod a2 ((wrap64 (4 * (t159.length : Int))) % 4294967296)) 4) % 4294967296) * 4) % 4294967296) 128) % 4294967296)) = true := beq_iff_eq.mpr c38
                  have c38b0x : ((rd t168 0) == (((((Int.tdiv (Int.tmod a2 ((wrap64 (4 * (t159.length : Int))) % 4294967296)) 4) % 4294967296) * 4) % 4294967296) / 128)) = true := by have e_ := c38b0; rw [Go.Proofs.Ytdaeflafdnlceaa.Hand.tdm _ 128 (by decide)] at e_; exact e_
                  have c38b1 : ((rd t168 0) != ((Int.tdiv ((((Int.tdiv (Int.tmod a2 ((wrap64 (4 * (t159.length : Int))) % 4294967296)) 4) % 4294967296) * 4) % 4294967296) 128) % 4294967296)) = false := bne_eq_false_iff_eq.mpr c38
                  have c38b1x : ((rd t168 0) != (((((Int.tdiv (Int.tmod a2 ((wrap64 (4 * (t159.length : Int))) % 4294967296)) 4) % 4294967296) * 4) % 4294967296) / 128)) = false := by have e_ := c38b1; rw [Go.Proofs.Ytdaeflafdnlceaa.Hand.tdm _ 128 (by decide)] at e_; exact e_
                  clear c38
                  replace H := Option.bind_eq_some_iff.mp H
                  obtain ⟨t175, A390, H⟩ := H
                  replace H : (some t175) = some r := H
                  have A39 := Aside0.mk A390
                  clear A390
                  obtain rfl := Option.some.inj H
                  obtain ⟨Ao40, co40, eo40⟩ := Kd.R_slice HO_12.out
                  subst eo40
                  go_wp2_with (first | ((with_reducible refine gate_callee (f := 31) rfl ?_); refine goesL_ (some 47) rfl rfl Try.func31 (by kernel_rfl) rfl #[.slice Ao11 t159.length co11, .slice Ao40 t164.length co40] rfl (by (try simp only [List.map_toArray, List.map_cons, List.map_nil]); first | done | rfl | (simp only [List.length_drop, List.length_take]; rfl)) ?_; (with_reducible refine (memory_Changed.calls kj8 _ _ t159 _ _ t164 t168 _ ?side1 ?side2 ?side3 ?side4 A15.out).mono ?_); (case side1 => repeat (first | exact (Kd.R_reads' HO_9.out).2.2 | (with_reducible refine Kd.C_alloc ?_ _) | (with_reducible refine Kd.C_drewN ?_ _) | (with_reducible refine Kd.C_drew ?_))); (case side2 => exact (Kd.R_reads' HO_9.out).2.1); (case side3 => repeat (first | exact (Kd.R_reads' HO_12.out).2.2 | (with_reducible refine Kd.C_alloc ?_ _) | (with_reducible refine Kd.C_drewN ?_ _) | (with_reducible refine Kd.C_drew ?_))); (case side4 => exact (Kd.R_reads' HO_12.out).2.1); rintro e w41 ⟨v169, rfl, ho0, hb⟩; refine ⟨_, rfl, ?_⟩; have n0_ := Aside0.mk (Kd.R_below (by (with_reducible repeat (first | apply Kd.R_alloc | apply Kd.R_drewN | apply Kd.R_drew)); exact HO_9.out) hb); have n1_ := Aside0.mk (Kd.R_below (by (with_reducible repeat (first | apply Kd.R_alloc | apply Kd.R_drewN | apply Kd.R_drew)); exact HO_12.out) hb); have n2_ := Aside0.mk (Kd.R_lower ho0 (below_size (by repeat (first | (with_reducible first | exact HB.out | apply below_alloc | apply pw_below_drewN | apply below_drew1) | exact HB.out)))); have n3_ := Aside0.mk (below_step (by repeat (first | (with_reducible first | exact HB.out | apply below_alloc | apply pw_below_drewN | apply below_drew1) | exact HB.out)) hb); clear HO_9; clear HO_12; clear HB; have HO_9 := n0_; have HO_12 := n1_; have HO170 := n2_; have HB := n3_; clear n0_ n1_ n2_ n3_; (try clear hb); (try clear hb2); (try clear hk); (try clear hi); (try clear ho0); obtain ⟨Ao42, co42, eo42⟩ := Kd.R_slice HO170.out; subst eo42; have p174 : 0 ≤ (0 : Int) := (by omega); have q174 : 0 < (t168.length : Int) := of_decide_eq_true (by first | (with_reducible assumption) | assumption); obtain ⟨ad174, e174, hx174_0⟩ := Kd.at_int (Kd.R_reads' HO170.out).2.2 0 p174 q174; cases e174; have qi174 : (0 < t168.length) = True := eq_true (by omega); (try rw [show ((0 : Int)).toNat = 0 from rfl] at hx174_0); (try rw [Addr.add_zero'] at hx174_0); replace p174 := eq_true p174; replace q174 := eq_true q174) | (go_at_call 21; (with_reducible refine (vmfleetlaw4_awake.calls  t175 _ A39.out).mono ?_); rintro e w43 ⟨rfl, hb⟩; have n0_ := Aside0.mk (Kd.R_below (by (with_reducible repeat (first | apply Kd.R_alloc | apply Kd.R_drewN | apply Kd.R_drew)); exact HO_9.out) hb); have n1_ := Aside0.mk (Kd.R_below (by (with_reducible repeat (first | apply Kd.R_alloc | apply Kd.R_drewN | apply Kd.R_drew)); exact HO_12.out) hb); have n2_ := Aside0.mk (Kd.R_below (by (with_reducible repeat (first | apply Kd.R_alloc | apply Kd.R_drewN | apply Kd.R_drew)); exact HO170.out) hb); have n3_ := Aside0.mk (below_step (by repeat (first | (with_reducible first | exact HB.out | apply below_alloc | apply pw_below_drewN | apply below_drew1) | exact HB.out)) hb); clear HO_9; clear HO_12; clear HO170; clear HB; have HO_9 := n0_; have HO_12 := n1_; have HO170 := n2_; have HB := n3_; clear n0_ n1_ n2_ n3_; (try clear hb); (try clear hb2); (try clear hk); (try clear hi)))
                  go_ret
                  exact ⟨by first | rfl | (simp [errW_none, errW_some] <;> rfl) | (simp [*, errW_none, errW_some] <;> rfl), by repeat (first | (with_reducible first | exact HB.out | apply below_alloc | apply pw_below_drewN | apply below_drew1) | exact HB.out)⟩
                · rw [if_neg c38] at H
                  have c38b0 : ((rd t168 0) == ((Int.tdiv ((((Int.tdiv (Int.tmod a2 ((wrap64 (4 * (t159.length : Int))) % 4294967296)) 4) % 4294967296) * 4) % 4294967296) 128) % 4294967296)) = false := beq_eq_false_iff_ne.mpr c38
                  have c38b0x : ((rd t168 0) == (((((Int.tdiv (Int.tmod a2 ((wrap64 (4 * (t159.length : Int))) % 4294967296)) 4) % 4294967296) * 4) % 4294967296) / 128)) = false := by have e_ := c38b0; rw [Go.Proofs.Ytdaeflafdnlceaa.Hand.tdm _ 128 (by decide)] at e_; exact e_
                  have c38b1 : ((rd t168 0) != ((Int.tdiv ((((Int.tdiv (Int.tmod a2 ((wrap64 (4 * (t159.length : Int))) % 4294967296)) 4) % 4294967296) * 4) % 4294967296) 128) % 4294967296)) = true := bne_iff_ne.mpr c38
                  have c38b1x : ((rd t168 0) != (((((Int.tdiv (Int.tmod a2 ((wrap64 (4 * (t159.length : Int))) % 4294967296)) 4) % 4294967296) * 4) % 4294967296) / 128)) = true := by have e_ := c38b1; rw [Go.Proofs.Ytdaeflafdnlceaa.Hand.tdm _ 128 (by decide)] at e_; exact e_
                  obtain rfl := Option.some.inj H
                  obtain ⟨Ao44, co44, eo44⟩ := Kd.R_slice HO_12.out
                  subst eo44
                  go_wp2_with (first | ((with_reducible refine gate_callee (f := 31) rfl ?_); refine goesL_ (some 47) rfl rfl Try.func31 (by kernel_rfl) rfl #[.slice Ao11 t159.length co11, .slice Ao44 t164.length co44] rfl (by (try simp only [List.map_toArray, List.map_cons, List.map_nil]); first | done | rfl | (simp only [List.length_drop, List.length_take]; rfl)) ?_; (with_reducible refine (memory_Changed.calls kj8 _ _ t159 _ _ t164 t168 _ ?side1 ?side2 ?side3 ?side4 A15.out).mono ?_); (case side1 => repeat (first | exact (Kd.R_reads' HO_9.out).2.2 | (with_reducible refine Kd.C_alloc ?_ _) | (with_reducible refine Kd.C_drewN ?_ _) | (with_reducible refine Kd.C_drew ?_))); (case side2 => exact (Kd.R_reads' HO_9.out).2.1); (case side3 => repeat (first | exact (Kd.R_reads' HO_12.out).2.2 | (with_reducible refine Kd.C_alloc ?_ _) | (with_reducible refine Kd.C_drewN ?_ _) | (with_reducible refine Kd.C_drew ?_))); (case side4 => exact (Kd.R_reads' HO_12.out).2.1); rintro e w45 ⟨v169, rfl, ho0, hb⟩; refine ⟨_, rfl, ?_⟩; have n0_ := Aside0.mk (Kd.R_below (by (with_reducible repeat (first | apply Kd.R_alloc | apply Kd.R_drewN | apply Kd.R_drew)); exact HO_9.out) hb); have n1_ := Aside0.mk (Kd.R_below (by (with_reducible repeat (first | apply Kd.R_alloc | apply Kd.R_drewN | apply Kd.R_drew)); exact HO_12.out) hb); have n2_ := Aside0.mk (Kd.R_lower ho0 (below_size (by repeat (first | (with_reducible first | exact HB.out | apply below_alloc | apply pw_below_drewN | apply below_drew1) | exact HB.out)))); have n3_ := Aside0.mk (below_step (by repeat (first | (with_reducible first | exact HB.out | apply below_alloc | apply pw_below_drewN | apply below_drew1) | exact HB.out)) hb); clear HO_9; clear HO_12; clear HB; have HO_9 := n0_; have HO_12 := n1_; have HO170 := n2_; have HB := n3_; clear n0_ n1_ n2_ n3_; (try clear hb); (try clear hb2); (try clear hk); (try clear hi); (try clear ho0); obtain ⟨Ao46, co46, eo46⟩ := Kd.R_slice HO170.out; subst eo46; have p174 : 0 ≤ (0 : Int) := (by omega); have q174 : 0 < (t168.length : Int) := of_decide_eq_true (by first | (with_reducible assumption) | assumption); obtain ⟨ad174, e174, hx174_0⟩ := Kd.at_int (Kd.R_reads' HO170.out).2.2 0 p174 q174; cases e174; have qi174 : (0 < t168.length) = True := eq_true (by omega); (try rw [show ((0 : Int)).toNat = 0 from rfl] at hx174_0); (try rw [Addr.add_zero'] at hx174_0); replace p174 := eq_true p174; replace q174 := eq_true q174))
                  go_ret
                  exact ⟨by first | rfl | (simp [errW_none, errW_some] <;> rfl) | (simp [*, errW_none, errW_some] <;> rfl), by repeat (first | (with_reducible first | exact HB.out | apply below_alloc | apply pw_below_drewN | apply below_drew1) | exact HB.out)⟩
              · rw [if_neg c37] at H
                exact absurd H (by simp)
            · rw [if_neg c36] at H
              have c36b0 : ((t168.length : Int) == 1) = false := beq_eq_false_iff_ne.mpr c36
              have c36b1 : ((t168.length : Int) != 1) = true := bne_iff_ne.mpr c36
              obtain rfl := Option.some.inj H
              obtain ⟨Ao47, co47, eo47⟩ := Kd.R_slice HO_12.out
              subst eo47
              go_wp2_with (first | ((with_reducible refine gate_callee (f := 31) rfl ?_); refine goesL_ (some 47) rfl rfl Try.func31 (by kernel_rfl) rfl #[.slice Ao11 t159.length co11, .slice Ao47 t164.length co47] rfl (by (try simp only [List.map_toArray, List.map_cons, List.map_nil]); first | done | rfl | (simp only [List.length_drop, List.length_take]; rfl)) ?_; (with_reducible refine (memory_Changed.calls kj8 _ _ t159 _ _ t164 t168 _ ?side1 ?side2 ?side3 ?side4 A15.out).mono ?_); (case side1 => repeat (first | exact (Kd.R_reads' HO_9.out).2.2 | (with_reducible refine Kd.C_alloc ?_ _) | (with_reducible refine Kd.C_drewN ?_ _) | (with_reducible refine Kd.C_drew ?_))); (case side2 => exact (Kd.R_reads' HO_9.out).2.1); (case side3 => repeat (first | exact (Kd.R_reads' HO_12.out).2.2 | (with_reducible refine Kd.C_alloc ?_ _) | (with_reducible refine Kd.C_drewN ?_ _) | (with_reducible refine Kd.C_drew ?_))); (case side4 => exact (Kd.R_reads' HO_12.out).2.1); rintro e w48 ⟨v169, rfl, ho0, hb⟩; refine ⟨_, rfl, ?_⟩; have n0_ := Aside0.mk (Kd.R_below (by (with_reducible repeat (first | apply Kd.R_alloc | apply Kd.R_drewN | apply Kd.R_drew)); exact HO_9.out) hb); have n1_ := Aside0.mk (Kd.R_below (by (with_reducible repeat (first | apply Kd.R_alloc | apply Kd.R_drewN | apply Kd.R_drew)); exact HO_12.out) hb); have n2_ := Aside0.mk (Kd.R_lower ho0 (below_size (by repeat (first | (with_reducible first | exact HB.out | apply below_alloc | apply pw_below_drewN | apply below_drew1) | exact HB.out)))); have n3_ := Aside0.mk (below_step (by repeat (first | (with_reducible first | exact HB.out | apply below_alloc | apply pw_below_drewN | apply below_drew1) | exact HB.out)) hb); clear HO_9; clear HO_12; clear HB; have HO_9 := n0_; have HO_12 := n1_; have HO170 := n2_; have HB := n3_; clear n0_ n1_ n2_ n3_; (try clear hb); (try clear hb2); (try clear hk); (try clear hi); (try clear ho0); obtain ⟨Ao49, co49, eo49⟩ := Kd.R_slice HO170.out; subst eo49))
              go_ret
              exact ⟨by first | rfl | (simp [errW_none, errW_some] <;> rfl) | (simp [*, errW_none, errW_some] <;> rfl), by repeat (first | (with_reducible first | exact HB.out | apply below_alloc | apply pw_below_drewN | apply below_drew1) | exact HB.out)⟩

/-- THE ONE PURE STATEMENT of vmfleetlaw4_MemoryChanges: yours. -/
def vmfleetlaw4_MemoryChanges.Pure : Prop := ∀ (l0 : List Int) (a1 : Int) (a2 : Int) (a3 : Int), l0.length ≤ maxLen → l0.length * 8 ≤ 140737488351232 → (∀ x ∈ l0, (Lit.int .i64 x).wf = true) → (Lit.int .i64 a1).wf = true → (Lit.int .u32 a2).wf = true → (Lit.int .u32 a3).wf = true → ∃ k, vmfleetlaw4_MemoryChanges.f k l0 a1 a2 a3 = some true
theorem vmfleetlaw4_MemoryChanges.walk (P : vmfleetlaw4_MemoryChanges.Pure) (a0 : Option Addr) (len0 cap0 : Nat) (z0 : List Int) (a1 : Int) (a2 : Int) (a3 : Int) (w : World) (w0 : (a0 = none ∧ len0 = 0 ∧ cap0 = 0 ∧ z0 = []) ∨ ∃ x, a0 = some x ∧ len0 ≤ cap0 ∧ cap0 ≤ maxLen ∧ z0.length = cap0 ∧ (∀ i, i < z0.length → w.cell? (x.add i) = some (.int .i64 (z0.getD i 0))) ∧ ∀ n ∈ z0, (Lit.int .i64 n).wf = true) (y0 : len0 * 8 ≤ 140737488351232) (w1 : (Lit.int .i64 a1).wf = true) (w2 : (Lit.int .u32 a2).wf = true) (w3 : (Lit.int .u32 a3).wf = true) :
    Calls Try.prog 8 #[.slice a0 len0 cap0, .int .i64 a1, .int .u32 a2, .int .u32 a3] w fun e w' => e = .returned (.bool true) ∧ Below w.heap.size w w' := by
  obtain ⟨l0, rfl, hr0, hm0, hw0, hc0⟩ := ReadsInt.ofRowC w0
  obtain ⟨k, h⟩ := P l0 a1 a2 a3 hm0 y0 hw0 w1 w2 w3
  refine (vmfleetlaw4_MemoryChanges.calls k _ _ l0 a1 a2 a3 true w (Kd.C_of_reads (d := (0 : Int)) (h1 := fun _ => rfl) hr0) hc0 h).mono ?_
  rintro e w' ⟨rfl, hd⟩
  exact ⟨rfl, hd⟩

end Go.Proofs.Ytdaeflafdnlceaa.HMemoryChanges
