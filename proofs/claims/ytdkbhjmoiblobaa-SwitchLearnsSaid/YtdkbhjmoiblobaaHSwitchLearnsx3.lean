-- Written for this claim by wip/hook.py, by means of the kit's print and of hand-proved contracts.
import Derived.Test.YtdkbhjmoiblobaaHSwitchLearnsx0
import Derived.Test.YtdkbhjmoiblobaaHSwitchLearnsx1
namespace Go.Proofs.Ytdkbhjmoiblobaa.HSwitchLearns
open Go.RowKit Go.Proofs.YtdkbhjmoiblobaaW.PrintWords Go.Proofs.YtdkbhjmoiblobaaW.PrintLast Go.Proofs.YtdkbhjmoiblobaaW.PrintMore
attribute [local go_sem] max2_int min2_int max_two min_two max_three min_three max_four min_four   -- for this text's walks alone
attribute [local go_sem] Instr.field asAgg
set_option linter.unusedVariables false
set_option linter.unusedSimpArgs false

/-! ### network_Port: function 12 -/
def network_Port.f (a0_0 : Int) (l0_1 : List (S35)) (a1 : Int) : Option (Int × Bool) := (network_find.f l0_1 a1).bind fun t111 => (if t111 < 0 then (some (0, false)) else (if 0 ≤ t111 then (if t111 < (l0_1.length : Int) then (some ((rd_T35 l0_1 t111).f1, true)) else (none)) else (none)))
set_option maxHeartbeats 8000000 in
set_option maxRecDepth 100000 in
theorem network_Port.calls (a0_0 : Int) (A0_1 : Option Addr) (c0_1 : Nat) (l0_1 : List (S35)) (a1 : Int) (r1 : Int) (r2 : Bool) (w : World) (hr0_1 : Kd.C k35 w A0_1 l0_1.length l0_1) (hc0_1 : l0_1.length ≤ c0_1) (h : network_Port.f a0_0 l0_1 a1 = some (r1, r2)) :
    Calls Try.prog 12 #[.agg #[.int .i64 a0_0, .slice A0_1 l0_1.length c0_1], .int .u8 a1] w fun e w' => e = .returned (.tuple #[.int .i64 r1, .bool r2]) ∧ Below w.heap.size w w' := by
  have hu26 := Try.underlying26
  have HR0_1 := Aside0.mk hr0_1
  have HC0_1 := Aside0.mk hc0_1
  clear hr0_1 hc0_1
  have HB := Aside0.mk (Below.refl w.heap.size w)
  have H : ((network_find.f l0_1 a1).bind fun t111 => (if t111 < 0 then (some (0, false)) else (if 0 ≤ t111 then (if t111 < (l0_1.length : Int) then (some ((rd_T35 l0_1 t111).f1, true)) else (none)) else (none)))) = some (r1, r2) := h
  clear h
  replace H := Option.bind_eq_some_iff.mp H
  obtain ⟨t111, A30, H⟩ := H
  replace H : (if t111 < 0 then (some (0, false)) else (if 0 ≤ t111 then (if t111 < (l0_1.length : Int) then (some ((rd_T35 l0_1 t111).f1, true)) else (none)) else (none))) = some (r1, r2) := H
  have A3 := Aside0.mk A30
  clear A30
  by_cases c4 : t111 < 0
  · rw [if_pos c4] at H
    have c4b0 : decide (t111 < 0) = true := decide_eq_true c4
    clear c4
    simp only [Option.some.injEq, Prod.mk.injEq] at H
    obtain ⟨rfl, rfl⟩ := H
    go_enter Try.func12, Try.ntmps12
    go_wp2_with (first | ((with_reducible refine gate_dst (N := 2) rfl ?_); refine box_event ?hg (N := 2) ?hd (cs := #[.int .i64 a0_0, .slice A0_1 l0_1.length c0_1]) (t := 26) ?hr ?_; (case hd => rfl); (case hg => rfl); (case hr => first | (go_simp; done) | (go_simp; rfl)); intro gb110 hg w5 hbox hb; have n0_ := Aside0.mk (below_step (by repeat (first | (with_reducible first | exact HB.out | apply below_alloc | apply pw_below_drewN | apply below_drew1) | exact HB.out)) hb); have n1_ := Aside0.mk (hbox); have n2_ := Aside0.mk ((by rw [hg]; exact (below_size (by repeat (first | (with_reducible first | exact HB.out | apply below_alloc | apply pw_below_drewN | apply below_drew1) | exact HB.out))) : w.heap.size ≤ gb110)); have n3_ := Aside0.mk ((by rw [hg]; exact (below_size (by repeat (first | (with_reducible first | exact HB.out | apply below_alloc | apply pw_below_drewN | apply below_drew1) | exact HB.out))) : w.heap.size ≤ gb110)); clear HB; have HB := n0_; have BK110 := n1_; have GW110 := n2_; have GE110 := n3_; clear n0_ n1_ n2_ n3_; clear hb hbox hg; have hcz6_0 : w5.cell? ⟨gb110, 0, none⟩ = some (.int .i64 a0_0) := (blk_cell BK110.out 0).trans rfl; have hcz6_1 : w5.cell? ⟨gb110, 1, none⟩ = some (.slice A0_1 l0_1.length c0_1) := (blk_cell BK110.out 1).trans rfl; have hfz6_0 := blk_frozen BK110.out 0; have hfz6_1 := blk_frozen BK110.out 1) | ((with_reducible refine gate_callee (f := 18) rfl ?_); refine goesL_ (some 10) rfl rfl Try.func18 (by kernel_rfl) rfl #[.slice A0_1 l0_1.length c0_1, .int .u8 a1] rfl (by (try simp only [List.map_toArray, List.map_cons, List.map_nil]); first | done | rfl | (simp only [List.length_drop, List.length_take]; rfl)) ?_; (with_reducible refine (network_find.calls _ _ l0_1 a1 t111 _ ?side1 ?side2 A3.out).mono ?_); (case side1 => repeat (first | exact (Kd.C_below HR0_1.out HB.out) | (with_reducible refine Kd.C_alloc ?_ _) | (with_reducible refine Kd.C_drewN ?_ _) | (with_reducible refine Kd.C_drew ?_))); (case side2 => exact HC0_1.out); rintro e w7 ⟨rfl, hb⟩; refine ⟨_, rfl, ?_⟩; have n0_ := Aside0.mk (blk_below (g := gb110) (o := .cells #[.int .i64 a0_0, .slice A0_1 l0_1.length c0_1] 26 (0, 0)) (by (with_reducible repeat (first | refine blk_drewN ?_ _ | refine blk_drew ?_ | refine blk_alloc ?_ _)); exact BK110.out) hb); have n1_ := Aside0.mk (below_step (by repeat (first | (with_reducible first | exact HB.out | apply below_alloc | apply pw_below_drewN | apply below_drew1 | refine below_set ?_ GE110.out) | exact HB.out)) hb); clear BK110; clear HB; have BK110 := n0_; have HB := n1_; clear n0_ n1_; (try clear hb); (try clear hb2); (try clear hk); (try clear hi)))
    go_ret2
    exact ⟨by first | rfl | (simp [errW_none, errW_some] <;> rfl) | (simp [*, errW_none, errW_some] <;> rfl), by repeat (first | (with_reducible first | exact HB.out | apply below_alloc | apply pw_below_drewN | apply below_drew1 | refine below_set ?_ GE110.out) | exact HB.out)⟩
  · rw [if_neg c4] at H
    have c4b0 : decide (t111 < 0) = false := decide_eq_false c4
    clear c4
    by_cases c8 : 0 ≤ t111
    · rw [if_pos c8] at H
      have c8b0 : decide (0 ≤ t111) = true := decide_eq_true c8
      clear c8
      by_cases c9 : t111 < (l0_1.length : Int)
      · rw [if_pos c9] at H
        have c9b0 : decide (t111 < (l0_1.length : Int)) = true := decide_eq_true c9
        clear c9
        simp only [Option.some.injEq, Prod.mk.injEq] at H
        obtain ⟨rfl, rfl⟩ := H
        go_enter Try.func12, Try.ntmps12
        go_wp2_with (first | ((with_reducible refine gate_dst (N := 2) rfl ?_); refine box_event ?hg (N := 2) ?hd (cs := #[.int .i64 a0_0, .slice A0_1 l0_1.length c0_1]) (t := 26) ?hr ?_; (case hd => rfl); (case hg => rfl); (case hr => first | (go_simp; done) | (go_simp; rfl)); intro gb110 hg w10 hbox hb; have n0_ := Aside0.mk (below_step (by repeat (first | (with_reducible first | exact HB.out | apply below_alloc | apply pw_below_drewN | apply below_drew1) | exact HB.out)) hb); have n1_ := Aside0.mk (hbox); have n2_ := Aside0.mk ((by rw [hg]; exact (below_size (by repeat (first | (with_reducible first | exact HB.out | apply below_alloc | apply pw_below_drewN | apply below_drew1) | exact HB.out))) : w.heap.size ≤ gb110)); have n3_ := Aside0.mk ((by rw [hg]; exact (below_size (by repeat (first | (with_reducible first | exact HB.out | apply below_alloc | apply pw_below_drewN | apply below_drew1) | exact HB.out))) : w.heap.size ≤ gb110)); clear HB; have HB := n0_; have BK110 := n1_; have GW110 := n2_; have GE110 := n3_; clear n0_ n1_ n2_ n3_; clear hb hbox hg; have hcz11_0 : w10.cell? ⟨gb110, 0, none⟩ = some (.int .i64 a0_0) := (blk_cell BK110.out 0).trans rfl; have hcz11_1 : w10.cell? ⟨gb110, 1, none⟩ = some (.slice A0_1 l0_1.length c0_1) := (blk_cell BK110.out 1).trans rfl; have hfz11_0 := blk_frozen BK110.out 0; have hfz11_1 := blk_frozen BK110.out 1) | ((with_reducible refine gate_callee (f := 18) rfl ?_); refine goesL_ (some 10) rfl rfl Try.func18 (by kernel_rfl) rfl #[.slice A0_1 l0_1.length c0_1, .int .u8 a1] rfl (by (try simp only [List.map_toArray, List.map_cons, List.map_nil]); first | done | rfl | (simp only [List.length_drop, List.length_take]; rfl)) ?_; (with_reducible refine (network_find.calls _ _ l0_1 a1 t111 _ ?side1 ?side2 A3.out).mono ?_); (case side1 => repeat (first | exact (Kd.C_below HR0_1.out HB.out) | (with_reducible refine Kd.C_alloc ?_ _) | (with_reducible refine Kd.C_drewN ?_ _) | (with_reducible refine Kd.C_drew ?_))); (case side2 => exact HC0_1.out); rintro e w12 ⟨rfl, hb⟩; refine ⟨_, rfl, ?_⟩; have n0_ := Aside0.mk (blk_below (g := gb110) (o := .cells #[.int .i64 a0_0, .slice A0_1 l0_1.length c0_1] 26 (0, 0)) (by (with_reducible repeat (first | refine blk_drewN ?_ _ | refine blk_drew ?_ | refine blk_alloc ?_ _)); exact BK110.out) hb); have n1_ := Aside0.mk (below_step (by repeat (first | (with_reducible first | exact HB.out | apply below_alloc | apply pw_below_drewN | apply below_drew1 | refine below_set ?_ GE110.out) | exact HB.out)) hb); clear BK110; clear HB; have BK110 := n0_; have HB := n1_; clear n0_ n1_; (try clear hb); (try clear hb2); (try clear hk); (try clear hi); have hcz13_0 : w12.cell? ⟨gb110, 0, none⟩ = some (.int .i64 a0_0) := (blk_cell BK110.out 0).trans rfl; have hcz13_1 : w12.cell? ⟨gb110, 1, none⟩ = some (.slice A0_1 l0_1.length c0_1) := (blk_cell BK110.out 1).trans rfl; have hfz13_0 := blk_frozen BK110.out 0; have hfz13_1 := blk_frozen BK110.out 1; have p112 : 0 ≤ (t111 : Int) := of_decide_eq_true (by first | (with_reducible assumption) | assumption); have q112 : t111 < (l0_1.length : Int) := of_decide_eq_true (by first | (with_reducible assumption) | assumption); obtain ⟨ad112, e112, hx112_0, hx112_1⟩ := at_T35 HR0_1.out t111 p112 q112; cases e112; replace hx112_0 := (HB.out.cell (World.block_lt_of_cell? w _ hx112_0)).trans hx112_0; replace hx112_1 := (HB.out.cell (World.block_lt_of_cell? w _ hx112_1)).trans hx112_1; replace p112 := eq_true p112; replace q112 := eq_true q112))
        go_ret2
        exact ⟨by first | rfl | (simp [errW_none, errW_some] <;> rfl) | (simp [*, errW_none, errW_some] <;> rfl), by repeat (first | (with_reducible first | exact HB.out | apply below_alloc | apply pw_below_drewN | apply below_drew1 | refine below_set ?_ GE110.out) | exact HB.out)⟩
      · rw [if_neg c9] at H
        exact absurd H (by simp)
    · rw [if_neg c8] at H
      exact absurd H (by simp)

/-! ### api_Learned_16: function 16 -/
def api_Learned_16.f (l0 : List S35) : Option (List S35) := if l0.length ≤ 1000000000000 then some l0 else none
set_option maxHeartbeats 4000000 in
set_option maxRecDepth 100000 in
theorem api_Learned_16.calls (A0 : Option Addr) (c0 : Nat) (l0 : List S35) (r : List S35) (w : World) (hr0 : Kd.C k35 w A0 l0.length l0) (hc0 : l0.length ≤ c0) (h : api_Learned_16.f l0 = some r) :
    Calls Try.prog 16 #[.slice A0 l0.length c0] w fun e w' => ∃ v0_ : Value, e = .returned (v0_) ∧ Kd.R k35 35 w' w.heap.size (fun _ => True) v0_ r ∧ Below w.heap.size w w' := by
  unfold api_Learned_16.f at h
  by_cases hb0 : l0.length ≤ 1000000000000
  · rw [if_pos hb0] at h
    obtain rfl := Option.some.inj h
    have HB := Aside0.mk (Below.refl w.heap.size w)
    cases A0 with
    | none =>
      have h0 : l0.length = 0 := by
        rcases Nat.eq_zero_or_pos l0.length with h0 | h0
        · exact h0
        · obtain ⟨ad, he, _⟩ := hr0.2.2 h0; cases he
      obtain rfl : l0 = [] := List.eq_nil_of_length_eq_zero h0
      clear h hb0 hr0 hc0 h0
      have hq_ := Go.Lib.run_eql_slice_nil (P := Try.prog) w 24 35 none 0 c0 0 0 Try.underlying24
      simp only [Option.isNone] at hq_
      go_enter Try.func16, Try.ntmps16
      go_wp2
      go_ret
      exact ⟨_, rfl, Kd.R_nil _ _ _ _ _, by repeat (first | (with_reducible first | exact HB.out | apply below_alloc | apply pw_below_drewN | apply below_drew1) | exact HB.out)⟩
    | some ad =>
      have HR0 := Aside0.mk hr0
      have HC0 := Aside0.mk hc0
      have HL := Aside0.mk hb0
      clear h hb0 hr0 hc0
      have HE : ∀ W : World, Kd.R k35 35 (W.alloc (.cells #[] 35)) W.heap.size (fun _ => True) (.slice (some ⟨W.heap.size, 0, none⟩) 0 0) [] := fun W =>
        ⟨fun _ _ => trivial, [], ⟨rfl, .inr ⟨W.heap.size, 0, #[], rfl, Nat.le_refl _, heap_alloc_new W _, Nat.le_refl _, Nat.zero_le _, rfl, rfl⟩⟩, rfl, fun j p hp => by simp at hp⟩
      have hq_ := Go.Lib.run_eql_slice_nil (P := Try.prog) w 24 35 (some ad) l0.length c0 0 0 Try.underlying24
      simp only [Option.isNone] at hq_
      go_enter Try.func16, Try.ntmps16
      go_wp2_with (first | ((with_reducible refine gate_builtin (b := .append) (xs := #[.tmp 5, .tmp 6]) rfl ?_); at_builtin; refine Kd.R_append_rows k35 (Rr := k35.K (w.alloc (.cells #[] 35))) (w0 := w) w.heap.size rfl (.tmp 5) (.tmp 6) 24 35 (.agg #[(.int .u8 0), (.int .i64 0)]) 16 rfl Try.underlying24 info35 rfl (by decide) (by omega) (.slice (some ⟨w.heap.size, 0, none⟩) 0 0) [] l0 _ _ _ (fun _ => True) (fun _ => False) rfl rfl ?aO ?aR (fun _ _ h => by obtain rfl := k35_open h; exact k35_mkM _ _ _ _) (fun _ h => h.elim) ?aF ?aB ?aS ?aL ?_; (case aO => exact HE w); (case aR => exact Kd.C_below HR0.out (Below.alloc (Below.refl w.heap.size w) (Nat.le_refl _) _)); (case aB => exact Below.alloc (Below.refl w.heap.size w) (Nat.le_refl _) _); (case aF => exact fun _ _ => trivial); (case aS => simp); (case aL => have := HL.out; simp; omega); intro v1 w1 ho hb hg hat; have HO9 := Aside0.mk ho; have HB9 := Aside0.mk hb; clear ho hb hg hat))
      go_ret
      exact ⟨_, rfl, HO9.out, HB9.out⟩
  · rw [if_neg hb0] at h
    exact absurd h (by simp)

/-! ### network_Addresses: function 17 -/
def network_Addresses.f (a0 : ByteArray) : Option (Int × Int × Bool) := if (a0.size : Int) < 2 then (some (0, 0, false)) else (if (a0.size : Int) > 128 then (some (0, 0, false)) else (if 0 < (a0.size : Int) then (if 1 < (a0.size : Int) then (some (bt a0 0, bt a0 1, true)) else (none)) else (none)))
set_option maxHeartbeats 8000000 in
set_option maxRecDepth 100000 in
theorem network_Addresses.calls (a0 : ByteArray) (r1 : Int) (r2 : Int) (r3 : Bool) (w : World) (h : network_Addresses.f a0 = some (r1, r2, r3)) :
    Calls Try.prog 17 #[.string a0] w fun e w' => e = .returned (.tuple #[.int .u8 r1, .int .u8 r2, .bool r3]) ∧ Drawn0 w w' := by
  have H : (if (a0.size : Int) < 2 then (some (0, 0, false)) else (if (a0.size : Int) > 128 then (some (0, 0, false)) else (if 0 < (a0.size : Int) then (if 1 < (a0.size : Int) then (some (bt a0 0, bt a0 1, true)) else (none)) else (none)))) = some (r1, r2, r3) := h
  clear h
  by_cases c2 : (a0.size : Int) < 2
  · rw [if_pos c2] at H
    have c2b0 : decide ((a0.size : Int) < 2) = true := decide_eq_true c2
    have c2b1 : decide (a0.size < 2) = true := decide_eq_true (by omega)
    clear c2
    simp only [Option.some.injEq, Prod.mk.injEq] at H
    obtain ⟨rfl, rfl, rfl⟩ := H
    go_enter Try.func17, Try.ntmps17
    go_wp2
    repeat (go_quiet (fail); try go_wp2)
    go_ret3
    exact ⟨by first | rfl | (simp; done) | (simp [*]; done), by repeat (first | exact Drawn0.refl _ | apply Drawn0.step)⟩
  · rw [if_neg c2] at H
    have c2b0 : decide ((a0.size : Int) < 2) = false := decide_eq_false c2
    have c2b1 : decide (a0.size < 2) = false := decide_eq_false (by omega)
    clear c2
    by_cases c3 : (a0.size : Int) > 128
    · rw [if_pos c3] at H
      have c3b0 : decide (128 < (a0.size : Int)) = true := decide_eq_true c3
      have c3b1 : decide (128 < a0.size) = true := decide_eq_true (by omega)
      clear c3
      simp only [Option.some.injEq, Prod.mk.injEq] at H
      obtain ⟨rfl, rfl, rfl⟩ := H
      go_enter Try.func17, Try.ntmps17
      go_wp2
      repeat (go_quiet (fail); try go_wp2)
      go_ret3
      exact ⟨by first | rfl | (simp; done) | (simp [*]; done), by repeat (first | exact Drawn0.refl _ | apply Drawn0.step)⟩
    · rw [if_neg c3] at H
      have c3b0 : decide (128 < (a0.size : Int)) = false := decide_eq_false c3
      have c3b1 : decide (128 < a0.size) = false := decide_eq_false (by omega)
      clear c3
      by_cases c4 : 0 < (a0.size : Int)
      · rw [if_pos c4] at H
        have c4b0 : decide (0 < (a0.size : Int)) = true := decide_eq_true c4
        have c4b1 : decide (0 < a0.size) = true := decide_eq_true (by omega)
        clear c4
        by_cases c6 : 1 < (a0.size : Int)
        · rw [if_pos c6] at H
          have c6b0 : decide (1 < (a0.size : Int)) = true := decide_eq_true c6
          have c6b1 : decide (1 < a0.size) = true := decide_eq_true (by omega)
          clear c6
          simp only [Option.some.injEq, Prod.mk.injEq] at H
          obtain ⟨rfl, rfl, rfl⟩ := H
          have p5 : 0 ≤ (0 : Int) := (by omega)
          have q5 : 0 < a0.size := (by have : (0 : Int) < (a0.size : Int) := of_decide_eq_true (by first | (with_reducible assumption) | assumption); omega)
          have hx5 : ∀ h : 0 < a0.size, ((a0[0]'h).toNat : Int) = bt a0 0 := bt_at a0 0
          clear p5
          have qi5 : (0 < (a0.size : Int)) = True := eq_true (of_decide_eq_true (by first | (with_reducible assumption) | assumption))
          replace q5 := eq_true q5
          have p7 : 0 ≤ (1 : Int) := (by omega)
          have q7 : 1 < a0.size := (by have : (1 : Int) < (a0.size : Int) := of_decide_eq_true (by first | (with_reducible assumption) | assumption); omega)
          have hx7 : ∀ h : 1 < a0.size, ((a0[1]'h).toNat : Int) = bt a0 1 := bt_at a0 1
          clear p7
          have qi7 : (1 < (a0.size : Int)) = True := eq_true (of_decide_eq_true (by first | (with_reducible assumption) | assumption))
          replace q7 := eq_true q7
          go_enter Try.func17, Try.ntmps17
          go_wp2
          repeat (go_quiet (fail); try go_wp2)
          go_ret3
          exact ⟨by first | rfl | (simp; done) | (simp [*]; done), by repeat (first | exact Drawn0.refl _ | apply Drawn0.step)⟩
        · rw [if_neg c6] at H
          exact absurd H (by simp)
      · rw [if_neg c4] at H
        exact absurd H (by simp)

-- NOT PRINTED: function 19 (api_Learned_19)

-- NOT PRINTED: function 24 (api_Learned_24)


-- NOT PRINTED: function 26 (api_Learned_26)

-- NOT PRINTED: function 25 (api_Learned_25)

-- NOT PRINTED: function 20 (api_Learned_20)

end Go.Proofs.Ytdkbhjmoiblobaa.HSwitchLearns
