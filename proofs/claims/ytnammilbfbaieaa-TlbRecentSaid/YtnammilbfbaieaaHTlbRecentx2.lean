-- Written for this claim by wip/hook.py, by means of the kit's print and of hand-proved contracts.
import Derived.Test.YtnammilbfbaieaaHTlbRecentx0
namespace Go.Proofs.Ytnammilbfbaieaa.HTlbRecent
open Go.RowKit Go.Proofs.YtnammilbfbaieaaW.PrintWords Go.Proofs.YtnammilbfbaieaaW.PrintLast Go.Proofs.YtnammilbfbaieaaW.PrintMore
attribute [local go_sem] max2_int min2_int max_two min_two max_three min_three max_four min_four   -- for this text's walks alone
attribute [local go_sem] Instr.field asAgg
set_option linter.unusedVariables false
set_option linter.unusedSimpArgs false

/-! ### api_TlbEntry_18: function 18 -/
/-- The place of the first entry of a page from i on. -/
def tlb_idx (pg : Int) : List S49 → Nat → Int
  | [], _ => -1
  | x :: xs, i => if x.f0 = pg then (i : Int) else tlb_idx pg xs (i + 1)
set_option maxHeartbeats 4000000 in
set_option maxRecDepth 100000 in
theorem tlb_eq_calls (B : Nat) (x : S49) (pg : Int) (w : World) (hB : B < w.heap.size) (hc : w.cell? ⟨B, 0, none⟩ = some (.int .u32 pg)) :
    Calls Try.prog 19 #[.agg #[.int .u32 x.f0, .int .u32 x.f1, .bool x.f2, .bool x.f3], .pointer (some ⟨B, 0, none⟩)] w fun e w' => e = .returned (.bool (x.f0 == pg)) ∧ Below w.heap.size w w' := by
  have HB := Aside0.mk (Below.refl w.heap.size w)
  go_enter Try.func19, Try.ntmps19
  go_wp2
  go_ret
  exact ⟨rfl, by repeat (first | (with_reducible first | exact HB.out | apply below_alloc | apply pw_below_drewN | apply below_drew1) | exact HB.out)⟩
set_option maxHeartbeats 4000000 in
set_option maxRecDepth 100000 in
theorem tlb_index_calls (A0 : Option Addr) (c0 : Nat) (l0 : List S49) (B : Nat) (pg : Int) (w : World) (hr0 : Kd.C k49 w A0 l0.length l0) (hc0 : l0.length ≤ c0) (hlen : l0.length ≤ 1000000000000) (hB : B < w.heap.size) (hc : w.cell? ⟨B, 0, none⟩ = some (.int .u32 pg)) :
    Calls Try.prog 18 #[.slice A0 l0.length c0, .func (.func 19) #[] #[.pointer (some ⟨B, 0, none⟩)]] w fun e w' => e = .returned (.int .i64 (tlb_idx pg l0 0)) ∧ Below w.heap.size w w' := by
  go_enter Try.func18, Try.ntmps18
  go_wp2
  go_loopg [8] (l0.length + 1) (fun kq v8 w' => ∃ i : Nat, v8 = .int .i64 (i : Int) ∧ i ≤ l0.length ∧ l0.length - i < kq ∧ tlb_idx pg l0 0 = tlb_idx pg (l0.drop i) i ∧ Below w.heap.size w w')
  case atStart => exact ⟨0, rfl, by omega, by omega, by simp, Below.refl _ _⟩
  case round =>
    obtain ⟨i, rfl, hi, hk, hx, hb⟩ := hrel
    cases gk with
    | zero => exact absurd hk (by omega)
    | succ k1 =>
      by_cases hlt : i < l0.length
      · have q1 : decide ((i : Int) < (l0.length : Int)) = true := decide_eq_true (by omega)
        obtain ⟨ad, e1, hx0, hx1, hx2, hx3⟩ := at_T49 (Kd.C_below hr0 hb) (i : Int) (by omega) (by omega)
        subst e1
        rw [Int.toNat_natCast] at hx0 hx1 hx2 hx3
        have cB := (hb.cell (p := ⟨B, 0, none⟩) hB).trans hc
        have hd : l0.drop i = rd_T49 l0 (i : Int) :: l0.drop (i + 1) := by
          rw [List.drop_eq_getElem_cons hlt]
          congr 1
          unfold rd_T49
          rw [Int.toNat_natCast, List.getD_eq_getElem?_getD, List.getElem?_eq_getElem hlt]; rfl
        rw [hd] at hx
        have q2 : (0 ≤ (i : Int)) = True := eq_true (by omega)
        have q3 : ((i : Int) < (l0.length : Int)) = True := eq_true (by omega)
        by_cases hp : (rd_T49 l0 (i : Int)).f0 = pg
        · have hp1 : ((rd_T49 l0 (i : Int)).f0 == pg) = true := beq_iff_eq.2 hp
          rw [tlb_idx, if_pos hp] at hx
          clear hp
          go_wp2_with (first | (go_at_call 19; refine (tlb_eq_calls B (rd_T49 l0 (i : Int)) pg _ (by have := hb.size; omega) cB).mono ?_; rintro e w5 ⟨rfl, hb5⟩; rw [hp1]))
          go_ret
          exact ⟨by rw [hx]; rfl, hb.trans (hb5.mono hb.size)⟩
        · have hp1 : ((rd_T49 l0 (i : Int)).f0 == pg) = false := beq_eq_false_iff_ne.2 hp
          rw [tlb_idx, if_neg hp] at hx
          go_wp2_with (first | (go_at_call 19; refine (tlb_eq_calls B (rd_T49 l0 (i : Int)) pg _ (by have := hb.size; omega) cB).mono ?_; rintro e w5 ⟨rfl, hb5⟩; rw [hp1]))
          go_roundg k1
          case rel => exact ⟨i + 1, by simp, by omega, by omega, hx, hb.trans (hb5.mono hb.size)⟩
          case measure => omega
      · have q1 : decide ((i : Int) < (l0.length : Int)) = false := decide_eq_false (by omega)
        rw [List.drop_of_length_le (by omega)] at hx
        go_wp2
        go_ret
        exact ⟨by rw [hx]; rfl, hb⟩
def api_TlbEntry_18.f (l0 : List S49) (a1 : Int) : Option Int := if l0.length ≤ 1000000000000 then some (tlb_idx a1 l0 0) else none
theorem api_TlbEntry_18.calls (A0 : Option Addr) (c0 : Nat) (l0 : List S49) (a1 : Int) (r : Int) (B : Nat) (w : World) (hr0 : Kd.C k49 w A0 l0.length l0) (hc0 : l0.length ≤ c0) (hB : B < w.heap.size) (hc : w.cell? ⟨B, 0, none⟩ = some (.int .u32 a1)) (h : api_TlbEntry_18.f l0 a1 = some r) :
    Calls Try.prog 18 #[.slice A0 l0.length c0, .func (.func 19) #[] #[.pointer (some ⟨B, 0, none⟩)]] w fun e w' => e = .returned (.int .i64 r) ∧ Below w.heap.size w w' := by
  unfold api_TlbEntry_18.f at h
  by_cases hb : l0.length ≤ 1000000000000
  · rw [if_pos hb] at h
    obtain rfl := Option.some.inj h
    exact tlb_index_calls A0 c0 l0 B a1 w hr0 hc0 hb hB hc
  · rw [if_neg hb] at h; exact absurd h (by simp)

/-! ### api_TlbEntry_20: function 20 -/
def api_TlbEntry_20.f (l0 : List S49) : Option (List S49) := if l0.length ≤ 1000000000000 then some l0 else none
set_option maxHeartbeats 4000000 in
set_option maxRecDepth 100000 in
theorem api_TlbEntry_20.calls (A0 : Option Addr) (c0 : Nat) (l0 : List S49) (r : List S49) (w : World) (hr0 : Kd.C k49 w A0 l0.length l0) (hc0 : l0.length ≤ c0) (h : api_TlbEntry_20.f l0 = some r) :
    Calls Try.prog 20 #[.slice A0 l0.length c0] w fun e w' => ∃ v0_ : Value, e = .returned (v0_) ∧ Kd.R k49 49 w' w.heap.size (fun _ => True) v0_ r ∧ Below w.heap.size w w' := by
  unfold api_TlbEntry_20.f at h
  by_cases hb0 : l0.length ≤ 1000000000000
  · rw [if_pos hb0] at h
    obtain rfl := Option.some.inj h
    have HB := Aside0.mk (Below.refl w.heap.size w)
    cases A0 with
    | none =>
      have h0 : l0.length = 0 := by
        rcases Nat.eq_zero_or_pos l0.length with h0 | h0
        · exact h0
        · obtain ⟨ad, he, _⟩ := hr0.2.2 h0; cases he
      obtain rfl : l0 = [] := List.eq_nil_of_length_eq_zero h0
      clear h hb0 hr0 hc0 h0
      have hq_ := Go.Lib.run_eql_slice_nil (P := Try.prog) w 28 49 none 0 c0 0 0 Try.underlying28
      simp only [Option.isNone] at hq_
      go_enter Try.func20, Try.ntmps20
      go_wp2
      go_ret
      exact ⟨_, rfl, Kd.R_nil _ _ _ _ _, by repeat (first | (with_reducible first | exact HB.out | apply below_alloc | apply pw_below_drewN | apply below_drew1) | exact HB.out)⟩
    | some ad =>
      have HR0 := Aside0.mk hr0
      have HC0 := Aside0.mk hc0
      have HL := Aside0.mk hb0
      clear h hb0 hr0 hc0
      have HE : ∀ W : World, Kd.R k49 49 (W.alloc (.cells #[] 49)) W.heap.size (fun _ => True) (.slice (some ⟨W.heap.size, 0, none⟩) 0 0) [] := fun W =>
        ⟨fun _ _ => trivial, [], ⟨rfl, .inr ⟨W.heap.size, 0, #[], rfl, Nat.le_refl _, heap_alloc_new W _, Nat.le_refl _, Nat.zero_le _, rfl, rfl⟩⟩, rfl, fun j p hp => by simp at hp⟩
      have hq_ := Go.Lib.run_eql_slice_nil (P := Try.prog) w 28 49 (some ad) l0.length c0 0 0 Try.underlying28
      simp only [Option.isNone] at hq_
      go_enter Try.func20, Try.ntmps20
      go_wp2_with (first | ((with_reducible refine gate_builtin (b := .append) (xs := #[.tmp 5, .tmp 6]) rfl ?_); at_builtin; refine Kd.R_append_rows k49 (Rr := k49.K (w.alloc (.cells #[] 49))) (w0 := w) w.heap.size rfl (.tmp 5) (.tmp 6) 28 49 (.agg #[(.int .u32 0), (.int .u32 0), (.bool false), (.bool false)]) 12 rfl Try.underlying28 info49 rfl (by decide) (by omega) (.slice (some ⟨w.heap.size, 0, none⟩) 0 0) [] l0 _ _ _ (fun _ => True) (fun _ => False) rfl rfl ?aO ?aR (fun _ _ h => by obtain rfl := k49_open h; exact k49_mkM _ _ _ _) (fun _ h => h.elim) ?aF ?aB ?aS ?aL ?_; (case aO => exact HE w); (case aR => exact Kd.C_below HR0.out (Below.alloc (Below.refl w.heap.size w) (Nat.le_refl _) _)); (case aB => exact Below.alloc (Below.refl w.heap.size w) (Nat.le_refl _) _); (case aF => exact fun _ _ => trivial); (case aS => simp); (case aL => have := HL.out; simp; omega); intro v1 w1 ho hb hg hat; have HO9 := Aside0.mk ho; have HB9 := Aside0.mk hb; clear ho hb hg hat))
      go_ret
      exact ⟨_, rfl, HO9.out, HB9.out⟩
  · rw [if_neg hb0] at h
    exact absurd h (by simp)

/-! ### api_TlbEntry_21: function 21 -/
def api_TlbEntry_21.f (l0 : List (S49)) (a1 : Int) : Option ((List (S49))) := if 0 ≤ (l0.length : Int) then (if ((l0.length : Int) : Int).toNat ≤ 23456248059221 then ((some (([] : List (S49)) : List (S49))).bind fun y101 => (if 0 ≤ a1 then (if a1 < (l0.length : Int) then ((some (([(⟨(rd_T49 l0 a1).f0, (rd_T49 l0 a1).f1, (rd_T49 l0 a1).f2, (rd_T49 l0 a1).f3⟩ : S49)] : List (S49)) : List (S49))).bind fun y105 => (if y101.length + y105.length < 11728124029610 then ((some (y101 ++ y105 : List (S49))).bind fun y108 => (if a1 ≤ (l0.length : Int) then ((some (l0.take (a1 : Int).toNat : List (S49))).bind fun y111 => (if y108.length + y111.length < 11728124029610 then ((some (y108 ++ y111 : List (S49))).bind fun y115 => (if 0 ≤ (wrap64 (a1 + 1)) then (if (wrap64 (a1 + 1)) ≤ (l0.length : Int) then ((some (l0.drop ((wrap64 (a1 + 1)) : Int).toNat : List (S49))).bind fun y118 => (if y115.length + y118.length < 11728124029610 then (some (y115 ++ y118)) else (none))) else (none)) else (none))) else (none))) else (none))) else (none))) else (none)) else (none))) else (none)) else (none)
def api_TlbEntry_21.T1 : Bool × List (List Nat × List Nat) := (true, [([], []), ([0], [0]), ([1], [1]), ([], []), ([], []), ([3, 4], [3, 4]), ([5], [5]), ([6], [6]), ([2, 7], [2, 7]), ([8, 8, 0, 1, 2, 3, 4, 5, 6, 7, 8], [8])])
def api_TlbEntry_21.B1 : List Nat := [0, 1, 3, 0, 0, 24, 56, 120, 255, 511]
theorem api_TlbEntry_21.tab1 : rtab .any (opsOf Try.f21 1) = api_TlbEntry_21.T1 := by kernel_rfl
theorem api_TlbEntry_21.bits1 : waitsOk api_TlbEntry_21.T1.2 api_TlbEntry_21.B1 = true := by kernel_rfl
set_option maxHeartbeats 8000000 in
set_option maxRecDepth 100000 in
theorem api_TlbEntry_21.calls (A0 : Option Addr) (c0 : Nat) (l0 : List (S49)) (a1 : Int) (r : List (S49)) (w : World) (hr0 : Kd.C k49 w A0 l0.length l0) (hc0 : l0.length ≤ c0) (h : api_TlbEntry_21.f l0 a1 = some r) :
    Calls Try.prog 21 #[.slice A0 l0.length c0, .int .i64 a1] w fun e w' => ∃ v0_ : Value, e = .returned (v0_) ∧ Kd.R k49 49 w' w.heap.size (fun _ => True) v0_ r ∧ Below w.heap.size w w' := by
  have hu49 := Try.underlying49
  have HR0 := Aside0.mk hr0
  have HC0 := Aside0.mk hc0
  clear hr0 hc0
  have HB := Aside0.mk (Below.refl w.heap.size w)
  have H : (if 0 ≤ (l0.length : Int) then (if ((l0.length : Int) : Int).toNat ≤ 23456248059221 then ((some (([] : List (S49)) : List (S49))).bind fun y101 => (if 0 ≤ a1 then (if a1 < (l0.length : Int) then ((some (([(⟨(rd_T49 l0 a1).f0, (rd_T49 l0 a1).f1, (rd_T49 l0 a1).f2, (rd_T49 l0 a1).f3⟩ : S49)] : List (S49)) : List (S49))).bind fun y105 => (if y101.length + y105.length < 11728124029610 then ((some (y101 ++ y105 : List (S49))).bind fun y108 => (if a1 ≤ (l0.length : Int) then ((some (l0.take (a1 : Int).toNat : List (S49))).bind fun y111 => (if y108.length + y111.length < 11728124029610 then ((some (y108 ++ y111 : List (S49))).bind fun y115 => (if 0 ≤ (wrap64 (a1 + 1)) then (if (wrap64 (a1 + 1)) ≤ (l0.length : Int) then ((some (l0.drop ((wrap64 (a1 + 1)) : Int).toNat : List (S49))).bind fun y118 => (if y115.length + y118.length < 11728124029610 then (some (y115 ++ y118)) else (none))) else (none)) else (none))) else (none))) else (none))) else (none))) else (none)) else (none))) else (none)) else (none)) = some r := h
  clear h
  by_cases c3 : 0 ≤ (l0.length : Int)
  · rw [if_pos c3] at H
    have c3b0 := eq_true c3
    have c3b1 : decide (0 ≤ (l0.length : Int)) = true := decide_eq_true c3
    clear c3
    by_cases c4 : ((l0.length : Int) : Int).toNat ≤ 23456248059221
    · rw [if_pos c4] at H
      have c4b0 := eq_true c4
      have c4b1 : decide (((l0.length : Int) : Int).toNat ≤ 23456248059221) = true := decide_eq_true c4
      clear c4
      obtain ⟨y101, hy101⟩ : ∃ y_ : List (S49), y_ = (([] : List (S49))) := ⟨_, rfl⟩
      replace H : (if 0 ≤ a1 then (if a1 < (l0.length : Int) then ((some (([(⟨(rd_T49 l0 a1).f0, (rd_T49 l0 a1).f1, (rd_T49 l0 a1).f2, (rd_T49 l0 a1).f3⟩ : S49)] : List (S49)) : List (S49))).bind fun y105 => (if y101.length + y105.length < 11728124029610 then ((some (y101 ++ y105 : List (S49))).bind fun y108 => (if a1 ≤ (l0.length : Int) then ((some (l0.take (a1 : Int).toNat : List (S49))).bind fun y111 => (if y108.length + y111.length < 11728124029610 then ((some (y108 ++ y111 : List (S49))).bind fun y115 => (if 0 ≤ (wrap64 (a1 + 1)) then (if (wrap64 (a1 + 1)) ≤ (l0.length : Int) then ((some (l0.drop ((wrap64 (a1 + 1)) : Int).toNat : List (S49))).bind fun y118 => (if y115.length + y118.length < 11728124029610 then (some (y115 ++ y118)) else (none))) else (none)) else (none))) else (none))) else (none))) else (none))) else (none)) else (none)) = some r := by first | (rw [hy101]; with_reducible exact H) | (have H2_ := (Option.bind_some _ _).symm.trans H; rw [hy101]; with_reducible exact H2_) | (have H2_ := (Option.bind_some _ _).symm.trans H; with_reducible exact H2_) | with_reducible exact H | (rw [hy101]; exact H) | exact H
      have Ny101 := Aside0.mk hy101
      clear hy101
      by_cases c5 : 0 ≤ a1
      · rw [if_pos c5] at H
        have c5b0 : decide (0 ≤ a1) = true := decide_eq_true c5
        clear c5
        by_cases c6 : a1 < (l0.length : Int)
        · rw [if_pos c6] at H
          have c6b0 : decide (a1 < (l0.length : Int)) = true := decide_eq_true c6
          clear c6
          obtain ⟨y105, hy105⟩ : ∃ y_ : List (S49), y_ = (([(⟨(rd_T49 l0 a1).f0, (rd_T49 l0 a1).f1, (rd_T49 l0 a1).f2, (rd_T49 l0 a1).f3⟩ : S49)] : List (S49))) := ⟨_, rfl⟩
          replace H : (if y101.length + y105.length < 11728124029610 then ((some (y101 ++ y105 : List (S49))).bind fun y108 => (if a1 ≤ (l0.length : Int) then ((some (l0.take (a1 : Int).toNat : List (S49))).bind fun y111 => (if y108.length + y111.length < 11728124029610 then ((some (y108 ++ y111 : List (S49))).bind fun y115 => (if 0 ≤ (wrap64 (a1 + 1)) then (if (wrap64 (a1 + 1)) ≤ (l0.length : Int) then ((some (l0.drop ((wrap64 (a1 + 1)) : Int).toNat : List (S49))).bind fun y118 => (if y115.length + y118.length < 11728124029610 then (some (y115 ++ y118)) else (none))) else (none)) else (none))) else (none))) else (none))) else (none)) = some r := by first | (rw [hy105]; with_reducible exact H) | (have H2_ := (Option.bind_some _ _).symm.trans H; rw [hy105]; with_reducible exact H2_) | (have H2_ := (Option.bind_some _ _).symm.trans H; with_reducible exact H2_) | with_reducible exact H | (rw [hy105]; exact H) | exact H
          have Ny105 := Aside0.mk hy105
          clear hy105
          by_cases c7 : y101.length + y105.length < 11728124029610
          · rw [if_pos c7] at H
            have LMc7 := Aside0.mk c7
            clear c7
            obtain ⟨y108, hy108⟩ : ∃ y_ : List (S49), y_ = (y101 ++ y105) := ⟨_, rfl⟩
            replace H : (if a1 ≤ (l0.length : Int) then ((some (l0.take (a1 : Int).toNat : List (S49))).bind fun y111 => (if y108.length + y111.length < 11728124029610 then ((some (y108 ++ y111 : List (S49))).bind fun y115 => (if 0 ≤ (wrap64 (a1 + 1)) then (if (wrap64 (a1 + 1)) ≤ (l0.length : Int) then ((some (l0.drop ((wrap64 (a1 + 1)) : Int).toNat : List (S49))).bind fun y118 => (if y115.length + y118.length < 11728124029610 then (some (y115 ++ y118)) else (none))) else (none)) else (none))) else (none))) else (none)) = some r := by first | (rw [hy108]; with_reducible exact H) | (have H2_ := (Option.bind_some _ _).symm.trans H; rw [hy108]; with_reducible exact H2_) | (have H2_ := (Option.bind_some _ _).symm.trans H; with_reducible exact H2_) | with_reducible exact H | (rw [hy108]; exact H) | exact H
            have Ny108 := Aside0.mk hy108
            clear hy108
            have c8b0 := eq_true (of_decide_eq_true (by first | (with_reducible assumption) | assumption) : 0 ≤ a1)
            by_cases c9 : a1 ≤ (l0.length : Int)
            · rw [if_pos c9] at H
              have c9b0 := eq_true c9
              have c9b1 : decide (a1 ≤ (l0.length : Int)) = true := decide_eq_true c9
              clear c9
              obtain ⟨y111, hy111⟩ : ∃ y_ : List (S49), y_ = (l0.take (a1 : Int).toNat) := ⟨_, rfl⟩
              replace H : (if y108.length + y111.length < 11728124029610 then ((some (y108 ++ y111 : List (S49))).bind fun y115 => (if 0 ≤ (wrap64 (a1 + 1)) then (if (wrap64 (a1 + 1)) ≤ (l0.length : Int) then ((some (l0.drop ((wrap64 (a1 + 1)) : Int).toNat : List (S49))).bind fun y118 => (if y115.length + y118.length < 11728124029610 then (some (y115 ++ y118)) else (none))) else (none)) else (none))) else (none)) = some r := by first | (rw [hy111]; with_reducible exact H) | (have H2_ := (Option.bind_some _ _).symm.trans H; rw [hy111]; with_reducible exact H2_) | (have H2_ := (Option.bind_some _ _).symm.trans H; with_reducible exact H2_) | with_reducible exact H | (rw [hy111]; exact H) | exact H
              have Ny111 := Aside0.mk hy111
              clear hy111
              by_cases c10 : y108.length + y111.length < 11728124029610
              · rw [if_pos c10] at H
                have LMc10 := Aside0.mk c10
                clear c10
                obtain ⟨y115, hy115⟩ : ∃ y_ : List (S49), y_ = (y108 ++ y111) := ⟨_, rfl⟩
                replace H : (if 0 ≤ (wrap64 (a1 + 1)) then (if (wrap64 (a1 + 1)) ≤ (l0.length : Int) then ((some (l0.drop ((wrap64 (a1 + 1)) : Int).toNat : List (S49))).bind fun y118 => (if y115.length + y118.length < 11728124029610 then (some (y115 ++ y118)) else (none))) else (none)) else (none)) = some r := by first | (rw [hy115]; with_reducible exact H) | (have H2_ := (Option.bind_some _ _).symm.trans H; rw [hy115]; with_reducible exact H2_) | (have H2_ := (Option.bind_some _ _).symm.trans H; with_reducible exact H2_) | with_reducible exact H | (rw [hy115]; exact H) | exact H
                have Ny115 := Aside0.mk hy115
                clear hy115
                obtain ⟨ji11, hji11⟩ : ∃ j_ : Int, (wrap64 (a1 + 1)) = j_ := ⟨_, rfl⟩
                replace H : (if 0 ≤ (ji11) then (if (ji11) ≤ (l0.length : Int) then ((some (l0.drop ((ji11) : Int).toNat : List (S49))).bind fun y118 => (if y115.length + y118.length < 11728124029610 then (some (y115 ++ y118)) else (none))) else (none)) else (none)) = some r := by first | (rw [hji11] at H; exact H) | (simp only [hji11] at H ⊢; exact H)
                have hji11w : (IntKind.i64.wrap (a1 + 1)) = ji11 := (i64_w _).trans hji11
                by_cases c12 : 0 ≤ (ji11)
                · rw [if_pos c12] at H
                  have c12b0 := eq_true c12
                  have c12b1 : decide (0 ≤ (ji11)) = true := decide_eq_true c12
                  clear c12
                  by_cases c13 : (ji11) ≤ (l0.length : Int)
                  · rw [if_pos c13] at H
                    have c13b0 := eq_true c13
                    have c13b1 : decide ((ji11) ≤ (l0.length : Int)) = true := decide_eq_true c13
                    clear c13
                    obtain ⟨y118, hy118⟩ : ∃ y_ : List (S49), y_ = (l0.drop ((ji11) : Int).toNat) := ⟨_, rfl⟩
                    replace H : (if y115.length + y118.length < 11728124029610 then (some (y115 ++ y118)) else (none)) = some r := by first | (rw [hy118]; with_reducible exact H) | (have H2_ := (Option.bind_some _ _).symm.trans H; rw [hy118]; with_reducible exact H2_) | (have H2_ := (Option.bind_some _ _).symm.trans H; with_reducible exact H2_) | with_reducible exact H | (rw [hy118]; exact H) | exact H
                    have Ny118 := Aside0.mk hy118
                    clear hy118
                    by_cases c14 : y115.length + y118.length < 11728124029610
                    · rw [if_pos c14] at H
                      have LMc14 := Aside0.mk c14
                      clear c14
                      obtain ⟨y122, hy122⟩ : ∃ y_ : List (S49), y_ = (y115 ++ y118) := ⟨_, rfl⟩
                      replace H : (some y122) = some r := by first | (rw [hy122]; with_reducible exact H) | (have H2_ := (Option.bind_some _ _).symm.trans H; rw [hy122]; with_reducible exact H2_) | (have H2_ := (Option.bind_some _ _).symm.trans H; with_reducible exact H2_) | with_reducible exact H | (rw [hy122]; exact H) | exact H
                      have Ny122 := Aside0.mk hy122
                      clear hy122
                      obtain rfl := Option.some.inj H
                      go_enter Try.func21, Try.ntmps21
                      try go_wp2
                      have n0_ := Aside0.mk (below_drew1 HB.out)
                      clear HB
                      have HB := n0_
                      clear n0_
                      have p104 : 0 ≤ (a1 : Int) := of_decide_eq_true (by first | (with_reducible assumption) | assumption)
                      have q104 : a1 < (l0.length : Int) := of_decide_eq_true (by first | (with_reducible assumption) | assumption)
                      obtain ⟨ad104, e104, hx104_0, hx104_1, hx104_2, hx104_3⟩ := at_T49 HR0.out a1 p104 q104
                      have hw104_3 := hx104_3
                      have hw104_2 := hx104_2
                      have hw104_1 := hx104_1
                      have hw104_0 := hx104_0
                      cases e104
                      replace hx104_0 := (HB.out.cell (World.block_lt_of_cell? w _ hx104_0)).trans hx104_0
                      replace hx104_1 := (HB.out.cell (World.block_lt_of_cell? w _ hx104_1)).trans hx104_1
                      replace hx104_2 := (HB.out.cell (World.block_lt_of_cell? w _ hx104_2)).trans hx104_2
                      replace hx104_3 := (HB.out.cell (World.block_lt_of_cell? w _ hx104_3)).trans hx104_3
                      replace p104 := eq_true p104
                      replace q104 := eq_true q104
                      refine start_ (n := 10) (S := fun w' => w'.cell? (ad104.add ((a1).toNat * 4)) = some (.int .u32 ((rd_T49 l0 a1).f0)) ∧ w'.cell? ⟨(ad104.add ((a1).toNat * 4)).block, (ad104.add ((a1).toNat * 4)).off + 1, none⟩ = some (.int .u32 ((rd_T49 l0 a1).f1)) ∧ w'.cell? ⟨(ad104.add ((a1).toNat * 4)).block, (ad104.add ((a1).toNat * 4)).off + 2, none⟩ = some (.bool ((rd_T49 l0 a1).f2)) ∧ w'.cell? ⟨(ad104.add ((a1).toNat * 4)).block, (ad104.add ((a1).toNat * 4)).off + 3, none⟩ = some (.bool ((rd_T49 l0 a1).f3))) (ds := []) #[false, false, false, false, false, false, false, false, false, false] (by kernel_rfl) rfl rfl ⟨((HB.out.cell (World.block_lt_of_cell? w _ hw104_0)).trans hw104_0), ((HB.out.cell (World.block_lt_of_cell? w _ hw104_1)).trans hw104_1), ((HB.out.cell (World.block_lt_of_cell? w _ hw104_2)).trans hw104_2), ((HB.out.cell (World.block_lt_of_cell? w _ hw104_3)).trans hw104_3)⟩ (fun hHeld => ?_); refine with_tabW api_TlbEntry_21.tab1 api_TlbEntry_21.bits1 (fun HT_ HW_ => ?_)
                      generalize w.drew = w15 at HB hx104_0 hx104_1 hx104_2 hx104_3 hHeld ⊢
                      refine pure_ (i := 0) (N := some 6) (v := ?_) (a' := ?_) #[true, false, false, false, false, false, false, false, false, false] rfl rfl (any_of HT_.out (by kernel_rfl)) (fun _ _ _ h => h) (Or.inl ⟨by rfl, ?_⟩) ?_ ?_
                      rotate_left
                      · intro w'
                        go_simp
                        with_reducible rfl
                      rotate_left
                      · simp only [Act.put, List.setIfInBounds_toArray, List.set_cons_zero, List.set_cons_succ, i64_w, i32_w]
                        rfl
                      refine pure_ (i := 1) (N := some 7) (v := ?_) (a' := ?_) #[true, true, false, false, false, false, false, false, false, false] rfl rfl (any_of HT_.out (by kernel_rfl)) (fun _ _ _ h => h) (Or.inl ⟨by rfl, ?_⟩) ?_ ?_
                      rotate_left
                      · intro w'
                        go_simp
                        with_reducible rfl
                      rotate_left
                      · simp only [Act.put, List.setIfInBounds_toArray, List.set_cons_zero, List.set_cons_succ, i64_w, i32_w]
                        rfl
                      refine pure_ (i := 3) (N := some 9) (v := ?_) (a' := ?_) #[true, true, false, true, false, false, false, false, false, false] rfl rfl (any_of HT_.out (by kernel_rfl)) (fun _ _ _ h => h) (Or.inl ⟨by rfl, ?_⟩) ?_ ?_
                      rotate_left
                      · intro w'
                        go_simp
                        with_reducible rfl
                      rotate_left
                      · simp only [Act.put, List.setIfInBounds_toArray, List.set_cons_zero, List.set_cons_succ, i64_w, i32_w]
                        rfl
                      refine pure_ (i := 4) (N := some 10) (v := ?_) (a' := ?_) #[true, true, false, true, true, false, false, false, false, false] rfl rfl (any_of HT_.out (by kernel_rfl)) (fun _ _ _ h => h) (Or.inl ⟨by rfl, ?_⟩) ?_ ?_
                      rotate_left
                      · intro w'
                        go_simp
                        with_reducible rfl
                      rotate_left
                      · simp only [Act.put, List.setIfInBounds_toArray, List.set_cons_zero, List.set_cons_succ, i64_w, i32_w]
                        rfl
                      refine pure_ (i := 5) (N := some 11) (v := ?_) (a' := ?_) #[true, true, false, true, true, true, false, false, false, false] rfl rfl (any_of HT_.out (by kernel_rfl)) (fun _ _ _ h => h) (Or.inl ⟨by rfl, ?_⟩) ?_ ?_
                      rotate_left
                      · intro w'
                        go_simp
                        with_reducible rfl
                      rotate_left
                      · simp only [Act.put, List.setIfInBounds_toArray, List.set_cons_zero, List.set_cons_succ, i64_w, i32_w]
                        rfl
                      refine take_ (i := 6) (N := some 12) (v := ?_) (a' := ?_) #[true, true, false, true, true, true, true, false, false, false] rfl rfl (take_ofW HT_.out HW_.out (by kernel_rfl)) (fun _ _ _ h => h) (Or.inl ⟨by rfl, ?_⟩) hHeld ?_ ?_
                      rotate_left
                      · rintro w' ⟨s0, s1, s2, s3⟩
                        go_simp
                        with_reducible rfl
                      rotate_left
                      · simp only [Act.put, List.setIfInBounds_toArray, List.set_cons_zero, List.set_cons_succ, i64_w, i32_w]
                        rfl
                      refine join_ (σ := Value × Value) 2 #[true, true, true, true, true, true, true, true, false, false] (fun s_ => [(8, s_.1), (13, s_.2)]) (fun s_ w' => (w'.cell? (ad104.add ((a1).toNat * 4)) = some (.int .u32 ((rd_T49 l0 a1).f0)) ∧ w'.cell? ⟨(ad104.add ((a1).toNat * 4)).block, (ad104.add ((a1).toNat * 4)).off + 1, none⟩ = some (.int .u32 ((rd_T49 l0 a1).f1)) ∧ w'.cell? ⟨(ad104.add ((a1).toNat * 4)).block, (ad104.add ((a1).toNat * 4)).off + 2, none⟩ = some (.bool ((rd_T49 l0 a1).f2)) ∧ w'.cell? ⟨(ad104.add ((a1).toNat * 4)).block, (ad104.add ((a1).toNat * 4)).off + 3, none⟩ = some (.bool ((rd_T49 l0 a1).f3))) ∧ (Kd.R k49 49 w' w.heap.size (fun k_ => some k_ ≠ (s_.2 : Value).ownBlock) s_.1 y101) ∧ (Kd.R k49 49 w' w.heap.size (fun k_ => some k_ ≠ (s_.1 : Value).ownBlock) s_.2 y105) ∧ (Below w.heap.size w w')) ?_ ?_
                      rotate_left
                      · intro hCont
                        refine two_ (i := 2) (j := 7) (Ni := some 8) (Nj := some 13) #[true, true, true, true, true, true, true, false, false, false] #[true, true, false, true, true, true, true, true, false, false] rfl rfl rfl rfl (two_of HT_.out (by kernel_rfl)) (by decide) (by decide) (fun K hK => ?_) (fun K hK => ?_)
                        · skip
                          refine Go.Proofs.Ytnammilbfbaieaa.Hand.R_make0_step k49 _ 49 (by rfl) (N := 8) rfl 28 _ _ rfl (l0.length : Int) rfl rfl Try.underlying28 (.agg #[(.int .u32 0), (.int .u32 0), (.bool false), (.bool false)]) 12 info49 rfl (by decide) (by omega) z49 (ok := fun _ => True) (okp := fun _ => True) (k49_mkM _ _ _ z49 ) (fun _ hk => hk) trivial (of_decide_eq_true (by first | (with_reducible assumption) | assumption)) (Nat.le_trans (Nat.mul_le_mul_right _ (of_decide_eq_true (by first | (with_reducible assumption) | assumption) : (l0.length : Int).toNat ≤ 23456248059221)) (by omega)) (Below.refl _ _) (Nat.le_refl _) ?_
                          intro v102 w16 ho17 hb hg_ hnew_
                          clear hg_ hnew_
                          (first | rw [← Ny101.out] at ho17 | (simp only [Int.reduceToNat] at ho17; rw [← Ny101.out] at ho17))
                          have n0_ := Aside0.mk (Kd.R_lower ho17 (below_size (by repeat (first | (with_reducible first | exact HB.out | apply below_alloc | apply pw_below_drewN | apply below_drew1) | exact HB.out))))
                          have n1_ := Aside0.mk (below_step (by repeat (first | (with_reducible first | exact HB.out | apply below_alloc | apply pw_below_drewN | apply below_drew1) | exact HB.out)) hb)
                          clear HB
                          have HO103 := n0_
                          have HB := n1_
                          clear n0_ n1_
                          clear hb ho17
                          refine hK.out _ _ ⟨((HB.out.cell (World.block_lt_of_cell? w _ hw104_0)).trans hw104_0), ((HB.out.cell (World.block_lt_of_cell? w _ hw104_1)).trans hw104_1), ((HB.out.cell (World.block_lt_of_cell? w _ hw104_2)).trans hw104_2), ((HB.out.cell (World.block_lt_of_cell? w _ hw104_3)).trans hw104_3)⟩ (fun hHeld => ?_)
                          clear hK K
                          refine norm_ (a' := ?_) ?_ ?_
                          rotate_left
                          · show Act.put _ (some 8) _ = _
                            simp only [Act.put, List.setIfInBounds_toArray, List.set_cons_zero, List.set_cons_succ, i64_w, i32_w]
                            rfl
                          refine one_ (i := 7) (N := some 13) #[true, true, true, true, true, true, true, true, false, false] rfl rfl (one_of HT_.out (by kernel_rfl)) (by decide) (fun K hK => ?_)
                          refine Kd.R_lit_step k49 _ 49 ?hg (N := 13) ?hd (xs := ([(⟨(rd_T49 l0 a1).f0, (rd_T49 l0 a1).f1, (rd_T49 l0 a1).f2, (rd_T49 l0 a1).f3⟩ : S49)] : List (S49))) (inner := [.int .u32 ((rd_T49 l0 a1).f0), .int .u32 ((rd_T49 l0 a1).f1), .bool ((rd_T49 l0 a1).f2), .bool ((rd_T49 l0 a1).f3)]) (ok := fun _ => True) (okp := fun _ => True) ?hr ?hp (fun _ hk => hk) trivial (Below.refl _ _) (Nat.le_refl _) (by simp) ?_; (case hd => rfl); (case hg => rfl); (case hr => first | (go_simp; done) | (go_simp; rfl)); (case hp => exact (Reps.c4 (show Kd.M k49 _ _ _ (⟨(rd_T49 l0 a1).f0, (rd_T49 l0 a1).f1, (rd_T49 l0 a1).f2, (rd_T49 l0 a1).f3⟩ : S49) [.int .u32 ((rd_T49 l0 a1).f0), .int .u32 ((rd_T49 l0 a1).f1), .bool ((rd_T49 l0 a1).f2), .bool ((rd_T49 l0 a1).f3)] from (k49_mkM _ _ _ (⟨(rd_T49 l0 a1).f0, (rd_T49 l0 a1).f1, (rd_T49 l0 a1).f2, (rd_T49 l0 a1).f3⟩ : S49) )) (Reps.none _ _)))
                          intro v106 w18 ho19 hb hg_ hnew_
                          clear hg_ hnew_
                          (first | rw [← Ny105.out] at ho19 | (simp only [Int.reduceToNat] at ho19; rw [← Ny105.out] at ho19))
                          have n0_ := Aside0.mk (Kd.R_elder' (by (with_reducible repeat (first | apply Kd.R_alloc | apply Kd.R_drewN | apply Kd.R_drew)); exact HO103.out) (Kd.R_base ho19) hb)
                          have n1_ := Aside0.mk (Kd.R_lower (Kd.R_new' ho19 (Kd.R_lt (by (with_reducible repeat (first | apply Kd.R_alloc | apply Kd.R_drewN | apply Kd.R_drew)); exact HO103.out))) (below_size (by repeat (first | (with_reducible first | exact HB.out | apply below_alloc | apply pw_below_drewN | apply below_drew1) | exact HB.out))))
                          have n2_ := Aside0.mk (below_step (by repeat (first | (with_reducible first | exact HB.out | apply below_alloc | apply pw_below_drewN | apply below_drew1) | exact HB.out)) hb)
                          clear HO103
                          clear HB
                          have HO103 := n0_
                          have HO107 := n1_
                          have HB := n2_
                          clear n0_ n1_ n2_
                          clear hb ho19
                          refine hK.out _ _ ⟨((HB.out.cell (World.block_lt_of_cell? w _ hw104_0)).trans hw104_0), ((HB.out.cell (World.block_lt_of_cell? w _ hw104_1)).trans hw104_1), ((HB.out.cell (World.block_lt_of_cell? w _ hw104_2)).trans hw104_2), ((HB.out.cell (World.block_lt_of_cell? w _ hw104_3)).trans hw104_3)⟩ (fun hHeld => ?_)
                          clear hK K
                          refine norm_ (a' := ?_) ?_ ?_
                          rotate_left
                          · show Act.put _ (some 13) _ = _
                            simp only [Act.put, List.setIfInBounds_toArray, List.set_cons_zero, List.set_cons_succ, i64_w, i32_w]
                            rfl
                          exact norm_ (by simp only [putAll, Act.put, List.setIfInBounds_toArray, List.set_cons_zero, List.set_cons_succ]) (hCont (v102, v106) _ ⟨hHeld, (by (with_reducible repeat (first | apply Kd.R_alloc | apply Kd.R_drewN | apply Kd.R_drew)); exact Kd.R_mono HO103.out (fun _ hk => hk.2)), (by (with_reducible repeat (first | apply Kd.R_alloc | apply Kd.R_drewN | apply Kd.R_drew)); exact Kd.R_mono HO107.out (fun _ hk => hk.2)), (by repeat (first | (with_reducible first | exact HB.out | apply below_alloc | apply pw_below_drewN | apply below_drew1) | exact HB.out))⟩)
                        · skip
                          refine Kd.R_lit_step k49 _ 49 ?hg (N := 13) ?hd (xs := ([(⟨(rd_T49 l0 a1).f0, (rd_T49 l0 a1).f1, (rd_T49 l0 a1).f2, (rd_T49 l0 a1).f3⟩ : S49)] : List (S49))) (inner := [.int .u32 ((rd_T49 l0 a1).f0), .int .u32 ((rd_T49 l0 a1).f1), .bool ((rd_T49 l0 a1).f2), .bool ((rd_T49 l0 a1).f3)]) (ok := fun _ => True) (okp := fun _ => True) ?hr ?hp (fun _ hk => hk) trivial (Below.refl _ _) (Nat.le_refl _) (by simp) ?_; (case hd => rfl); (case hg => rfl); (case hr => first | (go_simp; done) | (go_simp; rfl)); (case hp => exact (Reps.c4 (show Kd.M k49 _ _ _ (⟨(rd_T49 l0 a1).f0, (rd_T49 l0 a1).f1, (rd_T49 l0 a1).f2, (rd_T49 l0 a1).f3⟩ : S49) [.int .u32 ((rd_T49 l0 a1).f0), .int .u32 ((rd_T49 l0 a1).f1), .bool ((rd_T49 l0 a1).f2), .bool ((rd_T49 l0 a1).f3)] from (k49_mkM _ _ _ (⟨(rd_T49 l0 a1).f0, (rd_T49 l0 a1).f1, (rd_T49 l0 a1).f2, (rd_T49 l0 a1).f3⟩ : S49) )) (Reps.none _ _)))
                          intro v106 w16 ho17 hb hg_ hnew_
                          clear hg_ hnew_
                          (first | rw [← Ny105.out] at ho17 | (simp only [Int.reduceToNat] at ho17; rw [← Ny105.out] at ho17))
                          have n0_ := Aside0.mk (Kd.R_lower ho17 (below_size (by repeat (first | (with_reducible first | exact HB.out | apply below_alloc | apply pw_below_drewN | apply below_drew1) | exact HB.out))))
                          have n1_ := Aside0.mk (below_step (by repeat (first | (with_reducible first | exact HB.out | apply below_alloc | apply pw_below_drewN | apply below_drew1) | exact HB.out)) hb)
                          clear HB
                          have HO107 := n0_
                          have HB := n1_
                          clear n0_ n1_
                          clear hb ho17
                          refine hK.out _ _ ⟨((HB.out.cell (World.block_lt_of_cell? w _ hw104_0)).trans hw104_0), ((HB.out.cell (World.block_lt_of_cell? w _ hw104_1)).trans hw104_1), ((HB.out.cell (World.block_lt_of_cell? w _ hw104_2)).trans hw104_2), ((HB.out.cell (World.block_lt_of_cell? w _ hw104_3)).trans hw104_3)⟩ (fun hHeld => ?_)
                          clear hK K
                          refine norm_ (a' := ?_) ?_ ?_
                          rotate_left
                          · show Act.put _ (some 13) _ = _
                            simp only [Act.put, List.setIfInBounds_toArray, List.set_cons_zero, List.set_cons_succ, i64_w, i32_w]
                            rfl
                          refine one_ (i := 2) (N := some 8) #[true, true, true, true, true, true, true, true, false, false] rfl rfl (one_of HT_.out (by kernel_rfl)) (by decide) (fun K hK => ?_)
                          refine Go.Proofs.Ytnammilbfbaieaa.Hand.R_make0_step k49 _ 49 (by rfl) (N := 8) rfl 28 _ _ rfl (l0.length : Int) rfl rfl Try.underlying28 (.agg #[(.int .u32 0), (.int .u32 0), (.bool false), (.bool false)]) 12 info49 rfl (by decide) (by omega) z49 (ok := fun _ => True) (okp := fun _ => True) (k49_mkM _ _ _ z49 ) (fun _ hk => hk) trivial (of_decide_eq_true (by first | (with_reducible assumption) | assumption)) (Nat.le_trans (Nat.mul_le_mul_right _ (of_decide_eq_true (by first | (with_reducible assumption) | assumption) : (l0.length : Int).toNat ≤ 23456248059221)) (by omega)) (Below.refl _ _) (Nat.le_refl _) ?_
                          intro v102 w18 ho19 hb hg_ hnew_
                          clear hg_ hnew_
                          (first | rw [← Ny101.out] at ho19 | (simp only [Int.reduceToNat] at ho19; rw [← Ny101.out] at ho19))
                          have n0_ := Aside0.mk (Kd.R_elder' (by (with_reducible repeat (first | apply Kd.R_alloc | apply Kd.R_drewN | apply Kd.R_drew)); exact HO107.out) (Kd.R_base ho19) hb)
                          have n1_ := Aside0.mk (Kd.R_lower (Kd.R_new' ho19 (Kd.R_lt (by (with_reducible repeat (first | apply Kd.R_alloc | apply Kd.R_drewN | apply Kd.R_drew)); exact HO107.out))) (below_size (by repeat (first | (with_reducible first | exact HB.out | apply below_alloc | apply pw_below_drewN | apply below_drew1) | exact HB.out))))
                          have n2_ := Aside0.mk (below_step (by repeat (first | (with_reducible first | exact HB.out | apply below_alloc | apply pw_below_drewN | apply below_drew1) | exact HB.out)) hb)
                          clear HO107
                          clear HB
                          have HO107 := n0_
                          have HO103 := n1_
                          have HB := n2_
                          clear n0_ n1_ n2_
                          clear hb ho19
                          refine hK.out _ _ ⟨((HB.out.cell (World.block_lt_of_cell? w _ hw104_0)).trans hw104_0), ((HB.out.cell (World.block_lt_of_cell? w _ hw104_1)).trans hw104_1), ((HB.out.cell (World.block_lt_of_cell? w _ hw104_2)).trans hw104_2), ((HB.out.cell (World.block_lt_of_cell? w _ hw104_3)).trans hw104_3)⟩ (fun hHeld => ?_)
                          clear hK K
                          refine norm_ (a' := ?_) ?_ ?_
                          rotate_left
                          · show Act.put _ (some 8) _ = _
                            simp only [Act.put, List.setIfInBounds_toArray, List.set_cons_zero, List.set_cons_succ, i64_w, i32_w]
                            rfl
                          exact norm_ (by simp only [putAll, Act.put, List.setIfInBounds_toArray, List.set_cons_zero, List.set_cons_succ]) (hCont (v102, v106) _ ⟨hHeld, (by (with_reducible repeat (first | apply Kd.R_alloc | apply Kd.R_drewN | apply Kd.R_drew)); exact Kd.R_mono HO103.out (fun _ hk => hk.2)), (by (with_reducible repeat (first | apply Kd.R_alloc | apply Kd.R_drewN | apply Kd.R_drew)); exact Kd.R_mono HO107.out (fun _ hk => hk.2)), (by repeat (first | (with_reducible first | exact HB.out | apply below_alloc | apply pw_below_drewN | apply below_drew1) | exact HB.out))⟩)
                      rintro ⟨v102, v106⟩ w20 ⟨hS_, h0_, h1_, h2_⟩
                      have n0_ : Aside0 (Kd.R k49 49 w20 w.heap.size (fun k_ => some k_ ≠ (v106 : Value).ownBlock) v102 y101) := ⟨h0_⟩
                      have n1_ : Aside0 (Kd.R k49 49 w20 w.heap.size (fun k_ => some k_ ≠ (v102 : Value).ownBlock) v106 y105) := ⟨h1_⟩
                      have n2_ : Aside0 (Below w.heap.size w w20) := ⟨h2_⟩
                      clear HB
                      clear h0_ h1_ h2_
                      have HO103 := n0_
                      have HO107 := n1_
                      have HB := n2_
                      clear n0_ n1_ n2_
                      have hHeld : w20.cell? (ad104.add ((a1).toNat * 4)) = some (.int .u32 ((rd_T49 l0 a1).f0)) ∧ w20.cell? ⟨(ad104.add ((a1).toNat * 4)).block, (ad104.add ((a1).toNat * 4)).off + 1, none⟩ = some (.int .u32 ((rd_T49 l0 a1).f1)) ∧ w20.cell? ⟨(ad104.add ((a1).toNat * 4)).block, (ad104.add ((a1).toNat * 4)).off + 2, none⟩ = some (.bool ((rd_T49 l0 a1).f2)) ∧ w20.cell? ⟨(ad104.add ((a1).toNat * 4)).block, (ad104.add ((a1).toNat * 4)).off + 3, none⟩ = some (.bool ((rd_T49 l0 a1).f3)) := hS_
                      obtain ⟨Ao22, co22, eo22⟩ := Kd.R_slice HO107.out
                      (first | subst eo22 | (injection eo22 with f1_ f2_ f3_; have f4_ := f1_.symm; have f5_ := f3_.symm; clear f1_ f2_ f3_; subst f4_; subst f5_))
                      refine norm_ (a' := ?_) ?_ ?_
                      rotate_left
                      · simp only [putAll, Act.put, List.setIfInBounds_toArray, List.set_cons_zero, List.set_cons_succ]
                        rfl
                      refine one_ (i := 8) (N := some 14) #[true, true, true, true, true, true, true, true, true, false] rfl rfl (one_of HT_.out (by kernel_rfl)) (by decide) (fun K hK => ?_)
                      refine Kd.R_append_rows_step k49 (w0 := w) w.heap.size (by rfl) (.tmp 8) (.tmp 13) 28 49 (.agg #[(.int .u32 0), (.int .u32 0), (.bool false), (.bool false)]) 12 rfl Try.underlying28 info49 rfl (by decide) (by omega) v102 y101 y105 _ _ _ (fun k_ => some k_ ≠ (.slice Ao22 y105.length co22 : Value).ownBlock) (fun _ => False) rfl rfl ?aO ?aR (fun _ _ h => h) (fun _ h => h.elim) ?aF ?aB ?aS ?aL ?_
                      (case aR => repeat (first | exact (Kd.R_reads' HO107.out).2.2 | (with_reducible refine Kd.C_alloc ?_ _) | (with_reducible refine Kd.C_drewN ?_ _) | (with_reducible refine Kd.C_drew ?_)))
                      (case aB => exact (by repeat (first | (with_reducible first | exact HB.out | apply below_alloc | apply pw_below_drewN | apply below_drew1) | exact HB.out)))
                      (case aF => exact (fun k_ hk => Kd.fresh' (Kd.R_lt (by (with_reducible repeat (first | apply Kd.R_alloc | apply Kd.R_drewN | apply Kd.R_drew)); exact HO107.out)) k_ hk))
                      (case aO => exact (by (with_reducible repeat (first | apply Kd.R_alloc | apply Kd.R_drewN | apply Kd.R_drew)); exact HO103.out))
                      (case aS => exact (below_size (by repeat (first | (with_reducible first | exact HB.out | apply below_alloc | apply pw_below_drewN | apply below_drew1) | exact HB.out))))
                      (case aL => have := LMc7.out; omega)
                      intro v109 w21 ho hb hg hat
                      rw [← Ny108.out] at ho
                      have n0_ := Aside0.mk (Kd.R_after (ok := (fun _ => True)) (by (with_reducible repeat (first | apply Kd.R_alloc | apply Kd.R_drewN | apply Kd.R_drew)); exact Kd.R_mono HO107.out (fun _ hk => ⟨trivial, hk⟩)) hg hat)
                      have n1_ := Aside0.mk (hb)
                      have n2_ := Aside0.mk (ho)
                      clear HO107
                      clear HB
                      clear HO103
                      have HO107 := n0_
                      have HB := n1_
                      have HO110 := n2_
                      clear n0_ n1_ n2_
                      clear ho hb hg hat
                      refine hK.out _ _ ⟨((HB.out.cell (World.block_lt_of_cell? w _ hw104_0)).trans hw104_0), ((HB.out.cell (World.block_lt_of_cell? w _ hw104_1)).trans hw104_1), ((HB.out.cell (World.block_lt_of_cell? w _ hw104_2)).trans hw104_2), ((HB.out.cell (World.block_lt_of_cell? w _ hw104_3)).trans hw104_3)⟩ (fun hHeld => ?_)
                      clear hK K
                      refine norm_ (a' := ?_) ?_ ?_
                      rotate_left
                      · show Act.put _ (some 14) _ = _
                        simp only [Act.put, List.setIfInBounds_toArray, List.set_cons_zero, List.set_cons_succ, i64_w, i32_w]
                        rfl
                      refine pure_ (i := 9) (N := some 5) (v := ?_) (a' := ?_) #[true, true, true, true, true, true, true, true, true, true] rfl rfl (any_of HT_.out (by kernel_rfl)) (fun _ _ _ h => h) (Or.inl ⟨by rfl, ?_⟩) ?_ ?_
                      rotate_left
                      · intro w'
                        go_simp
                        with_reducible rfl
                      rotate_left
                      · simp only [Act.put, List.setIfInBounds_toArray, List.set_cons_zero, List.set_cons_succ, i64_w, i32_w]
                        rfl
                      refine done_ (done_of HT_.out (by kernel_rfl)) ?_
                      have q23 : (a1 : Int) ≤ ((l0.length : Int) : Int) := of_decide_eq_true (by first | (with_reducible assumption) | assumption)
                      obtain ⟨i023, hi023, _, hsz23, _⟩ := info_parts info49
                      have hroom23 : l0.length ≤ c0 := HC0.out
                      have hC23 : Kd.C k49 _ (some ad104) l0.length l0 := HR0.out
                      have hcut23 := cut_to (P := Try.prog) 28 49 .i64 Try.underlying28 hi023 (some ad104) l0.length c0 a1 (of_decide_eq_true (by first | (with_reducible assumption) | assumption)) q23 hroom23
                      have hr23 := Kd.C_take (m := (a1 : Int).toNat) hC23 (by omega)
                      have hy23 : y111.length = (a1 : Int).toNat := (by rw [Ny111.out, List.length_take]; omega)
                      rw [← Ny111.out] at hr23
                      rw [← hy23] at hcut23
                      have HR114 := Aside0.mk hr23
                      have HC114 := Aside0.mk (show y111.length ≤ c0 from by omega)
                      clear hr23 hC23 hroom23 hi023 hsz23
                      have KY23 := Aside0.mk hy23
                      clear hy23
                      replace q23 := eq_true q23
                      try go_wp2_with (first | ((with_reducible refine gate_builtin (b := .append) (xs := #[.tmp 15, .tmp 18]) rfl ?_); at_builtin; refine Kd.R_append_rows k49 (w0 := w) w.heap.size rfl (.tmp 15) (.tmp 18) 28 49 (.agg #[(.int .u32 0), (.int .u32 0), (.bool false), (.bool false)]) 12 rfl Try.underlying28 info49 rfl (by decide) (by omega) v109 y108 y111 _ _ _ (fun k_ => some k_ ≠ (.slice Ao22 y105.length co22 : Value).ownBlock) (fun _ => False) rfl rfl ?aO ?aR (fun _ _ h => h) (fun _ h => h.elim) ?aF ?aB ?aS ?aL ?_; (case aR => repeat (first | exact (Kd.C_below HR114.out HB.out) | (with_reducible refine Kd.C_alloc ?_ _) | (with_reducible refine Kd.C_drewN ?_ _) | (with_reducible refine Kd.C_drew ?_))); (case aB => exact (by repeat (first | (with_reducible first | exact HB.out | apply below_alloc | apply pw_below_drewN | apply below_drew1) | exact HB.out))); (case aF => exact (fun k_ hk => Kd.fresh' (Kd.R_lt (by (with_reducible repeat (first | apply Kd.R_alloc | apply Kd.R_drewN | apply Kd.R_drew)); exact HO107.out)) k_ hk)); (case aO => exact (by (with_reducible repeat (first | apply Kd.R_alloc | apply Kd.R_drewN | apply Kd.R_drew)); exact HO110.out)); (case aS => exact (below_size (by repeat (first | (with_reducible first | exact HB.out | apply below_alloc | apply pw_below_drewN | apply below_drew1) | exact HB.out)))); (case aL => have := LMc10.out; omega); intro v116 w24 ho hb hg hat; rw [← Ny115.out] at ho; have n0_ := Aside0.mk (Kd.R_after (ok := (fun _ => True)) (by (with_reducible repeat (first | apply Kd.R_alloc | apply Kd.R_drewN | apply Kd.R_drew)); exact HO107.out) hg hat); have n1_ := Aside0.mk (hb); have n2_ := Aside0.mk (ho); clear HO107; clear HB; clear HO110; have HO107 := n0_; have HB := n1_; have HO117 := n2_; clear n0_ n1_ n2_; clear ho hb hg hat; have q25 : ((ji11) : Int) ≤ ((l0.length : Int) : Int) := of_decide_eq_true (by first | (with_reducible assumption) | assumption); obtain ⟨i025, hi025, _, hsz25, _⟩ := info_parts info49; have hroom25 : l0.length ≤ c0 := HC0.out; have hC25 : Kd.C k49 _ (some ad104) l0.length l0 := HR0.out; have q025 : (0 : Int) ≤ ((ji11) : Int) := of_decide_eq_true (by first | (with_reducible assumption) | assumption); have hcut25 := cut_from (P := Try.prog) 28 49 .i64 Try.underlying28 hi025 4 hsz25 (some ad104) l0.length c0 (ji11) q025 q25; have hr25 := Kd.C_drop (m := ((ji11) : Int).toNat) (c := c0) hC25 (by omega) hroom25; obtain ⟨A25, hA25⟩ : ∃ A1, A1 = (if c0 = ((ji11) : Int).toNat then (some ad104) else ((some ad104) : Option Addr).map (·.add (((ji11) : Int).toNat * 4))) := ⟨_, rfl⟩; obtain ⟨c25, hc25⟩ : ∃ c1, c1 = c0 - ((ji11) : Int).toNat := ⟨_, rfl⟩; have hy25 : y118.length = l0.length - ((ji11) : Int).toNat := (by rw [Ny118.out, List.length_drop] <;> omega); rw [show (l0).drop ((ji11) : Int).toNat = y118 from Ny118.out.symm] at hr25; replace hr25 : Kd.C k49 _ A25 y118.length y118 := (by rw [hA25]; exact hr25); rw [← hy25, ← hA25, ← hc25] at hcut25; have HR121 := Aside0.mk hr25; have HC121 := Aside0.mk (show y118.length ≤ c25 from by rw [hy25, hc25]; exact Nat.sub_le_sub_right hroom25 _); clear hr25 hC25 hroom25 hi025 hsz25 hc25; have KY25 := Aside0.mk hy25; have KA25 := Aside0.mk hA25; clear hy25 hA25; replace q25 := eq_true q25) | ((with_reducible refine gate_builtin (b := .append) (xs := #[.tmp 20, .tmp 24]) rfl ?_); at_builtin; refine Kd.R_append_rows k49 (w0 := w) w.heap.size rfl (.tmp 20) (.tmp 24) 28 49 (.agg #[(.int .u32 0), (.int .u32 0), (.bool false), (.bool false)]) 12 rfl Try.underlying28 info49 rfl (by decide) (by omega) v116 y115 y118 _ _ _ (fun k_ => some k_ ≠ (.slice Ao22 y105.length co22 : Value).ownBlock) (fun _ => False) rfl rfl ?aO ?aR (fun _ _ h => h) (fun _ h => h.elim) ?aF ?aB ?aS ?aL ?_; (case aR => repeat (first | exact (Kd.C_below HR121.out HB.out) | (with_reducible refine Kd.C_alloc ?_ _) | (with_reducible refine Kd.C_drewN ?_ _) | (with_reducible refine Kd.C_drew ?_))); (case aB => exact (by repeat (first | (with_reducible first | exact HB.out | apply below_alloc | apply pw_below_drewN | apply below_drew1) | exact HB.out))); (case aF => exact (fun k_ hk => Kd.fresh' (Kd.R_lt (by (with_reducible repeat (first | apply Kd.R_alloc | apply Kd.R_drewN | apply Kd.R_drew)); exact HO107.out)) k_ hk)); (case aO => exact (by (with_reducible repeat (first | apply Kd.R_alloc | apply Kd.R_drewN | apply Kd.R_drew)); exact HO117.out)); (case aS => exact (below_size (by repeat (first | (with_reducible first | exact HB.out | apply below_alloc | apply pw_below_drewN | apply below_drew1) | exact HB.out)))); (case aL => have := LMc14.out; omega); intro v123 w26 ho hb hg hat; rw [← Ny122.out] at ho; have n0_ := Aside0.mk (Kd.R_after (ok := (fun _ => True)) (by (with_reducible repeat (first | apply Kd.R_alloc | apply Kd.R_drewN | apply Kd.R_drew)); exact HO107.out) hg hat); have n1_ := Aside0.mk (hb); have n2_ := Aside0.mk (ho); clear HO107; clear HB; clear HO117; have HO107 := n0_; have HB := n1_; have HO124 := n2_; clear n0_ n1_ n2_; clear ho hb hg hat))
                      go_ret
                      exact ⟨_, by first | rfl | (simp [errW_none, errW_some] <;> rfl) | (simp only [← hji11]; first | rfl | (simp [errW_none, errW_some] <;> rfl)) | (simp [*, errW_none, errW_some] <;> rfl), by (with_reducible repeat (first | apply Kd.R_alloc | apply Kd.R_drewN | apply Kd.R_drew)); exact Kd.R_mono HO124.out (fun _ hk => trivial), by repeat (first | (with_reducible first | exact HB.out | apply below_alloc | apply pw_below_drewN | apply below_drew1) | exact HB.out)⟩
                    · rw [if_neg c14] at H
                      exact absurd H (by simp)
                  · rw [if_neg c13] at H
                    exact absurd H (by simp)
                · rw [if_neg c12] at H
                  exact absurd H (by simp)
              · rw [if_neg c10] at H
                exact absurd H (by simp)
            · rw [if_neg c9] at H
              exact absurd H (by simp)
          · rw [if_neg c7] at H
            exact absurd H (by simp)
        · rw [if_neg c6] at H
          exact absurd H (by simp)
      · rw [if_neg c5] at H
        exact absurd H (by simp)
    · rw [if_neg c4] at H
      exact absurd H (by simp)
  · rw [if_neg c3] at H
    exact absurd H (by simp)

/-! ### tlb_Lookup: function 9 -/
def tlb_Lookup.j0 : Nat → List (S49) → Int → Bool → Option (Int × (List (S49)) × Bool)
  | 0, _, _, _ => none
  | k + 1, x0, x9, x10 => if x10 = true then (if 0 ≤ x9 then (if x9 < (x0.length : Int) then ((api_TlbEntry_21.f x0 x9).bind fun t132 => (some ((rd_T49 x0 x9).f1, t132, true))) else (none)) else (none)) else ((api_TlbEntry_20.f x0).bind fun t135 => (some (0, t135, false)))
def tlb_Lookup.f (k : Nat) (l0 : List (S49)) (a1 : Int) (a2 : Int) : Option (Int × (List (S49)) × Bool) := (api_TlbEntry_18.f l0 a1).bind fun t125 => (if t125 < 0 then ((api_TlbEntry_20.f l0).bind fun t126 => (some (0, t126, false))) else (if a2 = 2 then (tlb_Lookup.j0 k l0 t125 true) else (if a2 = 3 then (if 0 ≤ t125 then (if t125 < (l0.length : Int) then (tlb_Lookup.j0 k l0 t125 ((rd_T49 l0 t125).f2)) else (none)) else (none)) else (if a2 = 1 then (if 0 ≤ t125 then (if t125 < (l0.length : Int) then (tlb_Lookup.j0 k l0 t125 ((rd_T49 l0 t125).f3)) else (none)) else (none)) else (tlb_Lookup.j0 k l0 t125 false)))))
theorem tlb_Lookup.mono_l : ∀ k, (∀ y0 y1 y2, LeO (tlb_Lookup.j0 k y0 y1 y2) (tlb_Lookup.j0 (k + 1) y0 y1 y2))
  | 0 => fun _ _ _ r h => by simp [tlb_Lookup.j0] at h
  | k + 1 => by
    have ih0 := tlb_Lookup.mono_l k
    · intro y0 y1 y2
      unfold tlb_Lookup.j0
      repeat' first
      | (with_reducible exact ih0 _ _ _)
      | (with_reducible exact LeO.refl _)
      | (with_reducible exact LeO.none _)
      | (with_reducible refine LeO.ite ?_ ?_)
      | (with_reducible refine LeO.bind ?_ (fun _ => ?_))
      | exact ih0 _ _ _
      | exact LeO.none _
      | refine LeO.ite ?_ ?_
      | refine LeO.bind ?_ (fun _ => ?_)
theorem tlb_Lookup.mono : ∀ a0 a1 a2 k, LeO (tlb_Lookup.f k a0 a1 a2) (tlb_Lookup.f (k + 1) a0 a1 a2) := by
  intro a0 a1 a2 k
  have ih0 := tlb_Lookup.mono_l k
  unfold tlb_Lookup.f
  repeat' first
      | (with_reducible exact ih0 _ _ _)
      | (with_reducible exact LeO.refl _)
      | (with_reducible exact LeO.none _)
      | (with_reducible refine LeO.ite ?_ ?_)
      | (with_reducible refine LeO.bind ?_ (fun _ => ?_))
      | exact ih0 _ _ _
      | exact LeO.none _
      | refine LeO.ite ?_ ?_
      | refine LeO.bind ?_ (fun _ => ?_)
def tlb_Lookup.T14 : Bool × List (List Nat × List Nat) := (true, [([], []), ([], []), ([0, 1], [0, 1]), ([2], [2]), ([3], [3]), ([], []), ([], []), ([5, 6], [5, 6]), ([4, 7, 0, 1, 2, 3, 4], [4]), ([7, 8, 0, 1, 2, 3, 4, 5, 6, 7, 8], [7]), ([9, 0, 1, 2, 3, 4, 5, 6, 7, 8, 9], [])])
def tlb_Lookup.B14 : List Nat := [0, 0, 3, 7, 15, 0, 0, 96, 255, 511, 1023]
theorem tlb_Lookup.tab14 : rtab .any (opsOf Try.f9 14) = tlb_Lookup.T14 := by kernel_rfl
theorem tlb_Lookup.bits14 : waitsOk tlb_Lookup.T14.2 tlb_Lookup.B14 = true := by kernel_rfl
set_option maxHeartbeats 8000000 in
set_option maxRecDepth 100000 in
theorem tlb_Lookup.calls (k : Nat) (A0 : Option Addr) (c0 : Nat) (l0 : List (S49)) (a1 : Int) (a2 : Int) (r1 : Int) (r2 : List (S49)) (r3 : Bool) (w : World) (hr0 : Kd.C k49 w A0 l0.length l0) (hc0 : l0.length ≤ c0) (h : tlb_Lookup.f k l0 a1 a2 = some (r1, r2, r3)) :
    Calls Try.prog 9 #[.slice A0 l0.length c0, .int .u32 a1, .int .i64 a2] w fun e w' => ∃ v1_ : Value, e = .returned (.tuple #[.int .u32 r1, v1_, .bool r3]) ∧ Kd.R k49 49 w' w.heap.size (fun _ => True) v1_ r2 ∧ Below w.heap.size w w' := by
  have HR0 := Aside0.mk hr0
  have HC0 := Aside0.mk hc0
  clear hr0 hc0
  have HB := Aside0.mk (Below.refl w.heap.size w)
  have H : ((api_TlbEntry_18.f l0 a1).bind fun t125 => (if t125 < 0 then ((api_TlbEntry_20.f l0).bind fun t126 => (some (0, t126, false))) else (if a2 = 2 then (tlb_Lookup.j0 k l0 t125 true) else (if a2 = 3 then (if 0 ≤ t125 then (if t125 < (l0.length : Int) then (tlb_Lookup.j0 k l0 t125 ((rd_T49 l0 t125).f2)) else (none)) else (none)) else (if a2 = 1 then (if 0 ≤ t125 then (if t125 < (l0.length : Int) then (tlb_Lookup.j0 k l0 t125 ((rd_T49 l0 t125).f3)) else (none)) else (none)) else (tlb_Lookup.j0 k l0 t125 false)))))) = some (r1, r2, r3) := h
  clear h
  replace H := Option.bind_eq_some_iff.mp H
  obtain ⟨t125, A40, H⟩ := H
  replace H : (if t125 < 0 then ((api_TlbEntry_20.f l0).bind fun t126 => (some (0, t126, false))) else (if a2 = 2 then (tlb_Lookup.j0 k l0 t125 true) else (if a2 = 3 then (if 0 ≤ t125 then (if t125 < (l0.length : Int) then (tlb_Lookup.j0 k l0 t125 ((rd_T49 l0 t125).f2)) else (none)) else (none)) else (if a2 = 1 then (if 0 ≤ t125 then (if t125 < (l0.length : Int) then (tlb_Lookup.j0 k l0 t125 ((rd_T49 l0 t125).f3)) else (none)) else (none)) else (tlb_Lookup.j0 k l0 t125 false))))) = some (r1, r2, r3) := H
  have A4 := Aside0.mk A40
  clear A40
  by_cases c5 : t125 < 0
  · rw [if_pos c5] at H
    have c5b0 : decide (t125 < 0) = true := decide_eq_true c5
    clear c5
    replace H := Option.bind_eq_some_iff.mp H
    obtain ⟨t126, A60, H⟩ := H
    replace H : (some (0, t126, false)) = some (r1, r2, r3) := H
    have A6 := Aside0.mk A60
    clear A60
    simp only [Option.some.injEq, Prod.mk.injEq] at H
    obtain ⟨rfl, rfl, rfl⟩ := H
    go_enter Try.func9, Try.ntmps9
    go_wp2_with (first | ((with_reducible refine gate_callee (f := 18) rfl ?_); refine goesL_ (some 13) rfl rfl Try.func18 (by kernel_rfl) rfl #[.slice A0 l0.length c0, .func (.func 19) #[] #[.pointer (some ⟨w.heap.size, 0, none⟩)]] rfl (by (try simp only [List.map_toArray, List.map_cons, List.map_nil]); first | done | rfl | (simp only [List.length_drop, List.length_take]; rfl)) ?_; (with_reducible refine (api_TlbEntry_18.calls _ _ l0 a1 t125 w.heap.size _ ?side1 ?side2 ?sideB ?sideC A4.out).mono ?_); (case sideB => exact Go.Proofs.Ytnammilbfbaieaa.Hand.alloc_lt _ _); (case sideC => exact Go.Proofs.Ytnammilbfbaieaa.Hand.box_new _ _ _); (case side1 => repeat (first | exact HR0.out | (with_reducible refine Kd.C_alloc ?_ _) | (with_reducible refine Kd.C_drewN ?_ _) | (with_reducible refine Kd.C_drew ?_))); (case side2 => exact HC0.out); rintro e w7 ⟨rfl, hb⟩; refine ⟨_, rfl, ?_⟩; have n0_ := Aside0.mk (below_step (by repeat (first | (with_reducible first | exact HB.out | apply below_alloc | apply pw_below_drewN | apply below_drew1) | exact HB.out)) hb); clear HB; have HB := n0_; clear n0_; (try clear hb); (try clear hb2); (try clear hk); (try clear hi)) | ((with_reducible refine gate_callee (f := 20) rfl ?_); refine goesL_ (some 17) rfl rfl Try.func20 (by kernel_rfl) rfl #[.slice A0 l0.length c0] rfl (by (try simp only [List.map_toArray, List.map_cons, List.map_nil]); first | done | rfl | (simp only [List.length_drop, List.length_take]; rfl)) ?_; (with_reducible refine (api_TlbEntry_20.calls _ _ l0 t126 _ ?side1 ?side2 A6.out).mono ?_); (case side1 => repeat (first | exact (Kd.C_below HR0.out HB.out) | (with_reducible refine Kd.C_alloc ?_ _) | (with_reducible refine Kd.C_drewN ?_ _) | (with_reducible refine Kd.C_drew ?_))); (case side2 => exact HC0.out); rintro e w8 ⟨v127, rfl, ho0, hb⟩; refine ⟨_, rfl, ?_⟩; have n0_ := Aside0.mk (Kd.R_lower ho0 (below_size (by repeat (first | (with_reducible first | exact HB.out | apply below_alloc | apply pw_below_drewN | apply below_drew1) | exact HB.out)))); have n1_ := Aside0.mk (below_step (by repeat (first | (with_reducible first | exact HB.out | apply below_alloc | apply pw_below_drewN | apply below_drew1) | exact HB.out)) hb); clear HB; have HO128 := n0_; have HB := n1_; clear n0_ n1_; (try clear hb); (try clear hb2); (try clear hk); (try clear hi); (try clear ho0)))
    go_ret3
    exact ⟨_, by first | rfl | (simp [errW_none, errW_some] <;> rfl) | (simp [*, errW_none, errW_some] <;> rfl), by (with_reducible repeat (first | apply Kd.R_alloc | apply Kd.R_drewN | apply Kd.R_drew)); exact HO128.out, by repeat (first | (with_reducible first | exact HB.out | apply below_alloc | apply pw_below_drewN | apply below_drew1) | exact HB.out)⟩
  · rw [if_neg c5] at H
    have c5b0 : decide (t125 < 0) = false := decide_eq_false c5
    clear c5
    have HC9 := Aside0.mk H
    clear H
    go_enter Try.func9, Try.ntmps9
    go_upto_block 0 with (first | ((with_reducible refine gate_callee (f := 18) rfl ?_); refine goesL_ (some 13) rfl rfl Try.func18 (by kernel_rfl) rfl #[.slice A0 l0.length c0, .func (.func 19) #[] #[.pointer (some ⟨w.heap.size, 0, none⟩)]] rfl (by (try simp only [List.map_toArray, List.map_cons, List.map_nil]); first | done | rfl | (simp only [List.length_drop, List.length_take]; rfl)) ?_; (with_reducible refine (api_TlbEntry_18.calls _ _ l0 a1 t125 w.heap.size _ ?side1 ?side2 ?sideB ?sideC A4.out).mono ?_); (case sideB => exact Go.Proofs.Ytnammilbfbaieaa.Hand.alloc_lt _ _); (case sideC => exact Go.Proofs.Ytnammilbfbaieaa.Hand.box_new _ _ _); (case side1 => repeat (first | exact HR0.out | (with_reducible refine Kd.C_alloc ?_ _) | (with_reducible refine Kd.C_drewN ?_ _) | (with_reducible refine Kd.C_drew ?_))); (case side2 => exact HC0.out); rintro e w10 ⟨rfl, hb⟩; refine ⟨_, rfl, ?_⟩; have n0_ := Aside0.mk (below_step (by repeat (first | (with_reducible first | exact HB.out | apply below_alloc | apply pw_below_drewN | apply below_drew1) | exact HB.out)) hb); clear HB; have HB := n0_; clear n0_; (try clear hb); (try clear hb2); (try clear hk); (try clear hi)))
    (try simp only [Act.put, List.setIfInBounds_toArray, List.set_cons_zero, List.set_cons_succ])
    go_cut [10] (fun v10 wc => ∃ (kq : Nat) (x10_8 : Bool), v10 = .bool x10_8 ∧ Aside0 (tlb_Lookup.j0 kq l0 t125 x10_8 = some (r1, r2, r3)) ∧ Aside0 (kq ≤ k) ∧ Aside0 (Below w.heap.size w wc))
    case first =>
      have H := HC9.out
      clear HC9
      by_cases c11 : a2 = 2
      · rw [if_pos c11] at H
        have c11b0 : (a2 == 2) = true := beq_iff_eq.mpr c11
        have c11b1 : (a2 != 2) = false := bne_eq_false_iff_eq.mpr c11
        clear c11
        (first | rw [c11b0] | (simp only [i64_w, i32_w]; rw [c11b0]) | skip)
        have H' := Aside0.mk H
        clear H
        go_wp2
        go_meet
        case rel => exact ⟨_, (true), (by first | rfl | (simp; done) | (simp [*]; done)), H', ⟨by first | omega | exact Nat.le_refl _⟩, ⟨by repeat (first | (with_reducible first | exact HB.out | apply below_alloc | apply pw_below_drewN | apply below_drew1) | exact HB.out)⟩⟩
      · rw [if_neg c11] at H
        have c11b0 : (a2 == 2) = false := beq_eq_false_iff_ne.mpr c11
        have c11b1 : (a2 != 2) = true := bne_iff_ne.mpr c11
        (first | rw [c11b0] | (simp only [i64_w, i32_w]; rw [c11b0]) | skip)
        by_cases c12 : a2 = 3
        · rw [if_pos c12] at H
          have c12b0 : (a2 == 3) = true := beq_iff_eq.mpr c12
          have c12b1 : (a2 != 3) = false := bne_eq_false_iff_eq.mpr c12
          clear c12
          by_cases c13 : 0 ≤ t125
          · rw [if_pos c13] at H
            have c13b0 : decide (0 ≤ t125) = true := decide_eq_true c13
            clear c13
            by_cases c14 : t125 < (l0.length : Int)
            · rw [if_pos c14] at H
              have c14b0 : decide (t125 < (l0.length : Int)) = true := decide_eq_true c14
              clear c14
              have H' := Aside0.mk H
              clear H
              have p129 : 0 ≤ (t125 : Int) := of_decide_eq_true (by first | (with_reducible assumption) | assumption)
              have q129 : t125 < (l0.length : Int) := of_decide_eq_true (by first | (with_reducible assumption) | assumption)
              obtain ⟨ad129, e129, hx129_0, hx129_1, hx129_2, hx129_3⟩ := at_T49 HR0.out t125 p129 q129
              cases e129
              replace hx129_0 := (HB.out.cell (World.block_lt_of_cell? w _ hx129_0)).trans hx129_0
              replace hx129_1 := (HB.out.cell (World.block_lt_of_cell? w _ hx129_1)).trans hx129_1
              replace hx129_2 := (HB.out.cell (World.block_lt_of_cell? w _ hx129_2)).trans hx129_2
              replace hx129_3 := (HB.out.cell (World.block_lt_of_cell? w _ hx129_3)).trans hx129_3
              replace p129 := eq_true p129
              replace q129 := eq_true q129
              go_wp2
              go_meet
              case rel => exact ⟨_, ((rd_T49 l0 t125).f2), (by first | rfl | (simp; done) | (simp [*]; done)), H', ⟨by first | omega | exact Nat.le_refl _⟩, ⟨by repeat (first | (with_reducible first | exact HB.out | apply below_alloc | apply pw_below_drewN | apply below_drew1) | exact HB.out)⟩⟩
            · rw [if_neg c14] at H
              exact absurd H (by simp)
          · rw [if_neg c13] at H
            exact absurd H (by simp)
        · rw [if_neg c12] at H
          have c12b0 : (a2 == 3) = false := beq_eq_false_iff_ne.mpr c12
          have c12b1 : (a2 != 3) = true := bne_iff_ne.mpr c12
          by_cases c15 : a2 = 1
          · rw [if_pos c15] at H
            have c15b0 : (a2 == 1) = true := beq_iff_eq.mpr c15
            have c15b1 : (a2 != 1) = false := bne_eq_false_iff_eq.mpr c15
            clear c15
            by_cases c16 : 0 ≤ t125
            · rw [if_pos c16] at H
              have c16b0 : decide (0 ≤ t125) = true := decide_eq_true c16
              clear c16
              by_cases c17 : t125 < (l0.length : Int)
              · rw [if_pos c17] at H
                have c17b0 : decide (t125 < (l0.length : Int)) = true := decide_eq_true c17
                clear c17
                have H' := Aside0.mk H
                clear H
                have p130 : 0 ≤ (t125 : Int) := of_decide_eq_true (by first | (with_reducible assumption) | assumption)
                have q130 : t125 < (l0.length : Int) := of_decide_eq_true (by first | (with_reducible assumption) | assumption)
                obtain ⟨ad130, e130, hx130_0, hx130_1, hx130_2, hx130_3⟩ := at_T49 HR0.out t125 p130 q130
                cases e130
                replace hx130_0 := (HB.out.cell (World.block_lt_of_cell? w _ hx130_0)).trans hx130_0
                replace hx130_1 := (HB.out.cell (World.block_lt_of_cell? w _ hx130_1)).trans hx130_1
                replace hx130_2 := (HB.out.cell (World.block_lt_of_cell? w _ hx130_2)).trans hx130_2
                replace hx130_3 := (HB.out.cell (World.block_lt_of_cell? w _ hx130_3)).trans hx130_3
                replace p130 := eq_true p130
                replace q130 := eq_true q130
                go_wp2
                go_meet
                case rel => exact ⟨_, ((rd_T49 l0 t125).f3), (by first | rfl | (simp; done) | (simp [*]; done)), H', ⟨by first | omega | exact Nat.le_refl _⟩, ⟨by repeat (first | (with_reducible first | exact HB.out | apply below_alloc | apply pw_below_drewN | apply below_drew1) | exact HB.out)⟩⟩
              · rw [if_neg c17] at H
                exact absurd H (by simp)
            · rw [if_neg c16] at H
              exact absurd H (by simp)
          · rw [if_neg c15] at H
            have c15b0 : (a2 == 1) = false := beq_eq_false_iff_ne.mpr c15
            have c15b1 : (a2 != 1) = true := bne_iff_ne.mpr c15
            have H' := Aside0.mk H
            clear H
            go_wp2
            go_meet
            case rel => exact ⟨_, (false), (by first | rfl | (simp; done) | (simp [*]; done)), H', ⟨by first | omega | exact Nat.le_refl _⟩, ⟨by repeat (first | (with_reducible first | exact HB.out | apply below_alloc | apply pw_below_drewN | apply below_drew1) | exact HB.out)⟩⟩
    case rest =>
      clear HC9
      try clear c1
      try clear p1
      try clear q1
      try clear hx1
      try clear c2
      try clear p2
      try clear c5
      try clear c5b0
      try clear c9
      try clear c11
      try clear c11b0
      try clear c11b1
      try clear c12
      try clear c12b0
      try clear c12b1
      try clear p12
      try clear q12
      try clear hx12
      try clear c13
      try clear c13b0
      try clear p13
      try clear q13
      try clear hx13
      try clear c14
      try clear c14b0
      try clear c15
      try clear c15b0
      try clear c15b1
      try clear c16
      try clear c16b0
      try clear c17
      try clear c17b0
      try clear hx129_0
      try clear hx129_1
      try clear hx129_2
      try clear hx129_3
      try clear hx130_0
      try clear hx130_1
      try clear hx130_2
      try clear hx130_3
      try clear p129
      try clear p130
      try clear q129
      try clear q130
      obtain ⟨kq, x10_8, rfl, HA, HJ8, HB⟩ := hcut
      cases kq with
      | zero => exact absurd HA.out (by simp [tlb_Lookup.j0])
      | succ kj8 =>
        have H := HA.out
        clear HA
        simp only [tlb_Lookup.j0] at H
        by_cases c18 : x10_8 = true
        · subst c18
          have H1 : (if 0 ≤ t125 then (if t125 < (l0.length : Int) then ((api_TlbEntry_21.f l0 t125).bind fun t132 => (some ((rd_T49 l0 t125).f1, t132, true))) else (none)) else (none)) = some (r1, r2, r3) := by rw [if_pos rfl] at H; exact H
          clear H
          have H := H1
          clear H1
          by_cases c19 : 0 ≤ t125
          · rw [if_pos c19] at H
            have c19b0 : decide (0 ≤ t125) = true := decide_eq_true c19
            clear c19
            by_cases c20 : t125 < (l0.length : Int)
            · rw [if_pos c20] at H
              have c20b0 : decide (t125 < (l0.length : Int)) = true := decide_eq_true c20
              clear c20
              replace H := Option.bind_eq_some_iff.mp H
              obtain ⟨t132, A210, H⟩ := H
              replace H : (some ((rd_T49 l0 t125).f1, t132, true)) = some (r1, r2, r3) := H
              have A21 := Aside0.mk A210
              clear A210
              simp only [Option.some.injEq, Prod.mk.injEq] at H
              obtain ⟨rfl, rfl, rfl⟩ := H
              try go_wp2
              have n0_ := Aside0.mk (below_drew1 HB.out)
              clear HB
              have HB := n0_
              clear n0_
              have p131 : 0 ≤ (t125 : Int) := of_decide_eq_true (by first | (with_reducible assumption) | assumption)
              have q131 : t125 < (l0.length : Int) := of_decide_eq_true (by first | (with_reducible assumption) | assumption)
              obtain ⟨ad131, e131, hx131_0, hx131_1, hx131_2, hx131_3⟩ := at_T49 HR0.out t125 p131 q131
              have hw131_3 := hx131_3
              have hw131_2 := hx131_2
              have hw131_1 := hx131_1
              have hw131_0 := hx131_0
              cases e131
              replace hx131_0 := (HB.out.cell (World.block_lt_of_cell? w _ hx131_0)).trans hx131_0
              replace hx131_1 := (HB.out.cell (World.block_lt_of_cell? w _ hx131_1)).trans hx131_1
              replace hx131_2 := (HB.out.cell (World.block_lt_of_cell? w _ hx131_2)).trans hx131_2
              replace hx131_3 := (HB.out.cell (World.block_lt_of_cell? w _ hx131_3)).trans hx131_3
              replace p131 := eq_true p131
              replace q131 := eq_true q131
              refine start_ (n := 11) (S := fun w' => w'.cell? (ad131.add ((t125).toNat * 4)) = some (.int .u32 ((rd_T49 l0 t125).f0)) ∧ w'.cell? ⟨(ad131.add ((t125).toNat * 4)).block, (ad131.add ((t125).toNat * 4)).off + 1, none⟩ = some (.int .u32 ((rd_T49 l0 t125).f1)) ∧ w'.cell? ⟨(ad131.add ((t125).toNat * 4)).block, (ad131.add ((t125).toNat * 4)).off + 2, none⟩ = some (.bool ((rd_T49 l0 t125).f2)) ∧ w'.cell? ⟨(ad131.add ((t125).toNat * 4)).block, (ad131.add ((t125).toNat * 4)).off + 3, none⟩ = some (.bool ((rd_T49 l0 t125).f3))) (ds := []) #[false, false, false, false, false, false, false, false, false, false, false] (by kernel_rfl) rfl rfl ⟨((HB.out.cell (World.block_lt_of_cell? w _ hw131_0)).trans hw131_0), ((HB.out.cell (World.block_lt_of_cell? w _ hw131_1)).trans hw131_1), ((HB.out.cell (World.block_lt_of_cell? w _ hw131_2)).trans hw131_2), ((HB.out.cell (World.block_lt_of_cell? w _ hw131_3)).trans hw131_3)⟩ (fun hHeld => ?_); refine with_tabW tlb_Lookup.tab14 tlb_Lookup.bits14 (fun HT_ HW_ => ?_)
              generalize wc.drew = w22 at HB hx131_0 hx131_1 hx131_2 hx131_3 hHeld ⊢
              refine pure_ (i := 0) (N := some 39) (v := ?_) (a' := ?_) #[true, false, false, false, false, false, false, false, false, false, false] rfl rfl (any_of HT_.out (by kernel_rfl)) (fun _ _ _ h => h) (Or.inl ⟨by rfl, ?_⟩) ?_ ?_
              rotate_left
              · intro w'
                go_simp
                with_reducible rfl
              rotate_left
              · simp only [Act.put, List.setIfInBounds_toArray, List.set_cons_zero, List.set_cons_succ, i64_w, i32_w]
                rfl
              refine pure_ (i := 1) (N := some 40) (v := ?_) (a' := ?_) #[true, true, false, false, false, false, false, false, false, false, false] rfl rfl (any_of HT_.out (by kernel_rfl)) (fun _ _ _ h => h) (Or.inl ⟨by rfl, ?_⟩) ?_ ?_
              rotate_left
              · intro w'
                go_simp
                with_reducible rfl
              rotate_left
              · simp only [Act.put, List.setIfInBounds_toArray, List.set_cons_zero, List.set_cons_succ, i64_w, i32_w]
                rfl
              refine pure_ (i := 2) (N := some 41) (v := ?_) (a' := ?_) #[true, true, true, false, false, false, false, false, false, false, false] rfl rfl (any_of HT_.out (by kernel_rfl)) (fun _ _ _ h => h) (Or.inl ⟨by rfl, ?_⟩) ?_ ?_
              rotate_left
              · intro w'
                go_simp
                with_reducible rfl
              rotate_left
              · simp only [Act.put, List.setIfInBounds_toArray, List.set_cons_zero, List.set_cons_succ, i64_w, i32_w]
                rfl
              refine pure_ (i := 3) (N := some 42) (v := ?_) (a' := ?_) #[true, true, true, true, false, false, false, false, false, false, false] rfl rfl (any_of HT_.out (by kernel_rfl)) (fun _ _ _ h => h) (Or.inl ⟨by rfl, ?_⟩) ?_ ?_
              rotate_left
              · intro w'
                go_simp
                with_reducible rfl
              rotate_left
              · simp only [Act.put, List.setIfInBounds_toArray, List.set_cons_zero, List.set_cons_succ, i64_w, i32_w]
                rfl
              refine pure_ (i := 5) (N := some 44) (v := ?_) (a' := ?_) #[true, true, true, true, false, true, false, false, false, false, false] rfl rfl (any_of HT_.out (by kernel_rfl)) (fun _ _ _ h => h) (Or.inl ⟨by rfl, ?_⟩) ?_ ?_
              rotate_left
              · intro w'
                go_simp
                with_reducible rfl
              rotate_left
              · simp only [Act.put, List.setIfInBounds_toArray, List.set_cons_zero, List.set_cons_succ, i64_w, i32_w]
                rfl
              refine pure_ (i := 6) (N := some 45) (v := ?_) (a' := ?_) #[true, true, true, true, false, true, true, false, false, false, false] rfl rfl (any_of HT_.out (by kernel_rfl)) (fun _ _ _ h => h) (Or.inl ⟨by rfl, ?_⟩) ?_ ?_
              rotate_left
              · intro w'
                go_simp
                with_reducible rfl
              rotate_left
              · simp only [Act.put, List.setIfInBounds_toArray, List.set_cons_zero, List.set_cons_succ, i64_w, i32_w]
                rfl
              refine take_ (i := 4) (N := some 43) (v := ?_) (a' := ?_) #[true, true, true, true, true, true, true, false, false, false, false] rfl rfl (take_ofW HT_.out HW_.out (by kernel_rfl)) (fun _ _ _ h => h) (Or.inl ⟨by rfl, ?_⟩) hHeld ?_ ?_
              rotate_left
              · rintro w' ⟨s0, s1, s2, s3⟩
                go_simp
                with_reducible rfl
              rotate_left
              · simp only [Act.put, List.setIfInBounds_toArray, List.set_cons_zero, List.set_cons_succ, i64_w, i32_w]
                rfl
              refine one_ (i := 7) (N := some 46) #[true, true, true, true, true, true, true, true, false, false, false] rfl rfl (one_of HT_.out (by kernel_rfl)) (by decide) (fun K hK => ?_)
              refine goes_ Try.func21 (by kernel_rfl) rfl #[.slice (some ad131) l0.length c0, .int .i64 t125] (by rfl) rfl rfl (by (try simp only [List.map_toArray, List.map_cons, List.map_nil]); first | done | rfl | (simp only [List.length_drop, List.length_take]; rfl)) ?_
              with_reducible refine (api_TlbEntry_21.calls _ _ l0 t125 t132 _ ?side1 ?side2 A21.out).mono ?_
              (case side1 => repeat (first | exact (Kd.C_below HR0.out HB.out) | (with_reducible refine Kd.C_alloc ?_ _) | (with_reducible refine Kd.C_drewN ?_ _) | (with_reducible refine Kd.C_drew ?_)))
              (case side2 => exact HC0.out)
              rintro e w23 ⟨v133, rfl, ho0, hb⟩
              refine ⟨_, rfl, ?_⟩
              have n0_ := Aside0.mk (Kd.R_lower ho0 (below_size (by repeat (first | (with_reducible first | exact HB.out | apply below_alloc | apply pw_below_drewN | apply below_drew1) | exact HB.out))))
              have n1_ := Aside0.mk (below_step (by repeat (first | (with_reducible first | exact HB.out | apply below_alloc | apply pw_below_drewN | apply below_drew1) | exact HB.out)) hb)
              clear HB
              have HO134 := n0_
              have HB := n1_
              clear n0_ n1_
              (try clear hb)
              (try clear hb2)
              (try clear hk)
              (try clear hi)
              (try clear ho0)
              refine hK.out _ _ ⟨((HB.out.cell (World.block_lt_of_cell? w _ hw131_0)).trans hw131_0), ((HB.out.cell (World.block_lt_of_cell? w _ hw131_1)).trans hw131_1), ((HB.out.cell (World.block_lt_of_cell? w _ hw131_2)).trans hw131_2), ((HB.out.cell (World.block_lt_of_cell? w _ hw131_3)).trans hw131_3)⟩ (fun hHeld => ?_)
              clear hK K
              refine norm_ (a' := ?_) ?_ ?_
              rotate_left
              · show Act.put _ (some 46) _ = _
                simp only [Act.put, List.setIfInBounds_toArray, List.set_cons_zero, List.set_cons_succ, i64_w, i32_w]
                rfl
              refine pure_ (i := 8) (N := some 6) (v := ?_) (a' := ?_) #[true, true, true, true, true, true, true, true, true, false, false] rfl rfl (any_of HT_.out (by kernel_rfl)) (fun _ _ _ h => h) (Or.inl ⟨by rfl, ?_⟩) ?_ ?_
              rotate_left
              · intro w'
                go_simp
                with_reducible rfl
              rotate_left
              · simp only [Act.put, List.setIfInBounds_toArray, List.set_cons_zero, List.set_cons_succ, i64_w, i32_w]
                rfl
              refine pure_ (i := 9) (N := some 7) (v := ?_) (a' := ?_) #[true, true, true, true, true, true, true, true, true, true, false] rfl rfl (any_of HT_.out (by kernel_rfl)) (fun _ _ _ h => h) (Or.inl ⟨by rfl, ?_⟩) ?_ ?_
              rotate_left
              · intro w'
                go_simp
                with_reducible rfl
              rotate_left
              · simp only [Act.put, List.setIfInBounds_toArray, List.set_cons_zero, List.set_cons_succ, i64_w, i32_w]
                rfl
              refine pure_ (i := 10) (N := some 8) (v := ?_) (a' := ?_) #[true, true, true, true, true, true, true, true, true, true, true] rfl rfl (any_of HT_.out (by kernel_rfl)) (fun _ _ _ h => h) (Or.inl ⟨by rfl, ?_⟩) ?_ ?_
              rotate_left
              · intro w'
                go_simp
                with_reducible rfl
              rotate_left
              · simp only [Act.put, List.setIfInBounds_toArray, List.set_cons_zero, List.set_cons_succ, i64_w, i32_w]
                rfl
              refine done_ (done_of HT_.out (by kernel_rfl)) ?_
              try go_wp2
              go_ret3
              exact ⟨_, by first | rfl | (simp [errW_none, errW_some] <;> rfl) | (simp [*, errW_none, errW_some] <;> rfl), by (with_reducible repeat (first | apply Kd.R_alloc | apply Kd.R_drewN | apply Kd.R_drew)); exact HO134.out, by repeat (first | (with_reducible first | exact HB.out | apply below_alloc | apply pw_below_drewN | apply below_drew1) | exact HB.out)⟩
            · rw [if_neg c20] at H
              exact absurd H (by simp)
          · rw [if_neg c19] at H
            exact absurd H (by simp)
        · replace c18 := Bool.eq_false_iff.mpr c18
          subst c18
          have H1 : ((api_TlbEntry_20.f l0).bind fun t135 => (some (0, t135, false))) = some (r1, r2, r3) := by rw [if_neg (show ¬ (false = true) by decide)] at H; exact H
          clear H
          have H := H1
          clear H1
          replace H := Option.bind_eq_some_iff.mp H
          obtain ⟨t135, A240, H⟩ := H
          replace H : (some (0, t135, false)) = some (r1, r2, r3) := H
          have A24 := Aside0.mk A240
          clear A240
          simp only [Option.some.injEq, Prod.mk.injEq] at H
          obtain ⟨rfl, rfl, rfl⟩ := H
          go_wp2_with (first | ((with_reducible refine gate_callee (f := 20) rfl ?_); refine goesL_ (some 38) rfl rfl Try.func20 (by kernel_rfl) rfl #[.slice A0 l0.length c0] rfl (by (try simp only [List.map_toArray, List.map_cons, List.map_nil]); first | done | rfl | (simp only [List.length_drop, List.length_take]; rfl)) ?_; (with_reducible refine (api_TlbEntry_20.calls _ _ l0 t135 _ ?side1 ?side2 A24.out).mono ?_); (case side1 => repeat (first | exact (Kd.C_below HR0.out HB.out) | (with_reducible refine Kd.C_alloc ?_ _) | (with_reducible refine Kd.C_drewN ?_ _) | (with_reducible refine Kd.C_drew ?_))); (case side2 => exact HC0.out); rintro e w25 ⟨v136, rfl, ho0, hb⟩; refine ⟨_, rfl, ?_⟩; have n0_ := Aside0.mk (Kd.R_lower ho0 (below_size (by repeat (first | (with_reducible first | exact HB.out | apply below_alloc | apply pw_below_drewN | apply below_drew1) | exact HB.out)))); have n1_ := Aside0.mk (below_step (by repeat (first | (with_reducible first | exact HB.out | apply below_alloc | apply pw_below_drewN | apply below_drew1) | exact HB.out)) hb); clear HB; have HO137 := n0_; have HB := n1_; clear n0_ n1_; (try clear hb); (try clear hb2); (try clear hk); (try clear hi); (try clear ho0)))
          go_ret3
          exact ⟨_, by first | rfl | (simp [errW_none, errW_some] <;> rfl) | (simp [*, errW_none, errW_some] <;> rfl), by (with_reducible repeat (first | apply Kd.R_alloc | apply Kd.R_drewN | apply Kd.R_drew)); exact HO137.out, by repeat (first | (with_reducible first | exact HB.out | apply below_alloc | apply pw_below_drewN | apply below_drew1) | exact HB.out)⟩

/-! ### paging_Cause: function 22 -/
def paging_Cause.f (a0 : Int) : Option (Int) := if a0 = 1 then (some 4) else (if a0 = 3 then (some 6) else (some 5))
set_option maxHeartbeats 8000000 in
set_option maxRecDepth 100000 in
theorem paging_Cause.calls (a0 : Int) (r : Int) (w : World) (h : paging_Cause.f a0 = some r) :
    Calls Try.prog 22 #[.int .i64 a0] w fun e w' => e = .returned (.int .i64 r) ∧ Drawn0 w w' := by
  have H : (if a0 = 1 then (some 4) else (if a0 = 3 then (some 6) else (some 5))) = some r := h
  clear h
  by_cases c2 : a0 = 1
  · rw [if_pos c2] at H
    have c2b0 : (a0 == 1) = true := beq_iff_eq.mpr c2
    have c2b1 : (a0 != 1) = false := bne_eq_false_iff_eq.mpr c2
    clear c2
    obtain rfl := Option.some.inj H
    go_enter Try.func22, Try.ntmps22
    go_wp2
    go_ret
    exact ⟨by first | rfl | (simp; done) | (simp [*]; done), by repeat (first | exact Drawn0.refl _ | apply Drawn0.step)⟩
  · rw [if_neg c2] at H
    have c2b0 : (a0 == 1) = false := beq_eq_false_iff_ne.mpr c2
    have c2b1 : (a0 != 1) = true := bne_iff_ne.mpr c2
    by_cases c3 : a0 = 3
    · rw [if_pos c3] at H
      have c3b0 : (a0 == 3) = true := beq_iff_eq.mpr c3
      have c3b1 : (a0 != 3) = false := bne_eq_false_iff_eq.mpr c3
      clear c3
      obtain rfl := Option.some.inj H
      go_enter Try.func22, Try.ntmps22
      go_wp2
      go_ret
      exact ⟨by first | rfl | (simp; done) | (simp [*]; done), by repeat (first | exact Drawn0.refl _ | apply Drawn0.step)⟩
    · rw [if_neg c3] at H
      have c3b0 : (a0 == 3) = false := beq_eq_false_iff_ne.mpr c3
      have c3b1 : (a0 != 3) = true := bne_iff_ne.mpr c3
      obtain rfl := Option.some.inj H
      go_enter Try.func22, Try.ntmps22
      go_wp2
      go_ret
      exact ⟨by first | rfl | (simp; done) | (simp [*]; done), by repeat (first | exact Drawn0.refl _ | apply Drawn0.step)⟩

end Go.Proofs.Ytnammilbfbaieaa.HTlbRecent
