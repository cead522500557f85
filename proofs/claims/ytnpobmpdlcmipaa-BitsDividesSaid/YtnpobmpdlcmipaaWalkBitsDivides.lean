/- Proved: vmfleetlaw1.BitsDivides returns true for every input and leaves what was there. Conditions: none. -/
import Derived.Test.YtnpobmpdlcmipaaPBitsDividesx1
import Derived.OpenShut
namespace Go.Proofs.Ytnpobmpdlcmipaa.Walk
open Go.RowKit Go.Proofs.Ytnpobmpdlcmipaa.PBitsDivides Go.Proofs.YtnpobmpdlcmipaaW.PrintWords Go.Proofs.YtnpobmpdlcmipaaW.PrintLast Go.Proofs.YtnpobmpdlcmipaaW.PrintMore
set_option linter.unusedVariables false
set_option linter.unusedSimpArgs false

theorem awake_ends : vmfleetlaw1_awake.f 20 = some true := by kernel_rfl
structure Parts (A D T R : Int) : Prop where
  sum : D * T + R = A
  neg : A ≤ 0 → R ≤ 0
  pos : 0 ≤ A → 0 ≤ R
  lt : D < 0 → R < -D ∧ -R < -D
  lt2 : 0 < D → R < D ∧ -R < D
  tb : -2147483648 ≤ T ∧ T ≤ 2147483648
theorem parts (A D : Int) (hD : D ≠ 0) (h0 : -2147483648 ≤ A) (h1 : A ≤ 2147483647) : Parts A D (A.tdiv D) (A.tmod D) := by
  have hn : (A.tmod D).natAbs < D.natAbs := by rw [Int.natAbs_tmod]; exact Nat.mod_lt _ (by omega)
  have ht : (A.tdiv D).natAbs ≤ A.natAbs := by rw [Int.natAbs_tdiv]; exact Nat.div_le_self _ _
  exact ⟨Int.mul_tdiv_add_tmod A D, fun h => (by have := Int.tmod_nonneg D (a := -A) (by omega); rw [Int.neg_tmod] at this; omega), fun h => Int.tmod_nonneg D h, fun h => (by omega), fun h => (by omega), (by omega)⟩
def q (a b : Int) : Int := if b = 0 then 4294967295 else ((wrap32 a).tdiv (wrap32 b)) % 4294967296
def r (a b : Int) : Int := if b = 0 then a else ((wrap32 a).tmod (wrap32 b)) % 4294967296
theorem w32 {a : Int} (h : 0 ≤ a ∧ a ≤ 4294967295) : -2147483648 ≤ wrap32 a ∧ wrap32 a ≤ 2147483647 ∧ (wrap32 a = a ∨ wrap32 a = a - 4294967296) ∧ (wrap32 a = 0 → a = 0) := by unfold wrap32; omega
theorem w64 {n : Int} (h0 : -9223372036854775808 ≤ n) (h1 : n ≤ 9223372036854775807) : wrap64 n = n := by unfold wrap64; omega
theorem w32m (t : Int) : wrap32 t % 4294967296 = t % 4294967296 := by unfold wrap32; omega
theorem Divide_eq (a b : Int) (ha : 0 ≤ a ∧ a ≤ 4294967295) (hb : 0 ≤ b ∧ b ≤ 4294967295) : bits_Divide.f a b = some (q a b, r a b) := by
  unfold bits_Divide.f q r
  by_cases hz : b = 0
  · rw [if_pos hz, if_pos hz, if_pos hz]
  · have hB := w32 hb
    have hD : wrap32 b ≠ 0 := fun h => hz (hB.2.2.2 h)
    rw [if_neg hz, if_neg hz, if_neg hz, if_neg hD, w32m]
    by_cases h1 : a = 2147483648
    · rw [if_pos h1]
      by_cases h2 : b = 4294967295
      · rw [if_pos h2]; subst h1; subst h2; decide +kernel
      · rw [if_neg h2]
    · rw [if_neg h1]
theorem rDivide_eq (a b : Int) (ha : 0 ≤ a ∧ a ≤ 4294967295) (hb : 0 ≤ b ∧ b ≤ 4294967295) : vmfleetref1_Divide.f a b = some (q a b, r a b) := by
  unfold vmfleetref1_Divide.f q r
  by_cases hz : b = 0
  · rw [if_pos hz, if_pos hz, if_pos hz]
  · have hB := w32 hb
    have hA := w32 ha
    have hD : wrap32 b ≠ 0 := fun h => hz (hB.2.2.2 h)
    have e1 : wrap64 (wrap32 b) = wrap32 b := w64 (by omega) (by omega)
    have e2 : wrap64 (wrap32 a) = wrap32 a := w64 (by omega) (by omega)
    have hp := (parts (wrap32 a) (wrap32 b) hD (by omega) (by omega)).tb
    have e3 : wrap64 ((wrap32 a).tdiv (wrap32 b)) = (wrap32 a).tdiv (wrap32 b) := w64 (by omega) (by omega)
    rw [if_neg hz, if_neg hz, if_neg hz, e1, e2, if_neg hD, e3]
theorem sum_mod (T D R j : Int) : (T % 4294967296 * (D + 4294967296 * j) + R % 4294967296) % 4294967296 = (D * T + R) % 4294967296 := by
  have e : T % 4294967296 * (D + 4294967296 * j) + R % 4294967296 = (D * T + R) + 4294967296 * (T * j - (T / 4294967296) * D - 4294967296 * (T / 4294967296) * j - R / 4294967296) := by
    have h1 : T % 4294967296 = T - 4294967296 * (T / 4294967296) := by omega
    have h2 : R % 4294967296 = R - 4294967296 * (R / 4294967296) := by omega
    rw [h1, h2]
    generalize T / 4294967296 = t
    generalize R / 4294967296 = s
    grind
  rw [e, Int.add_mul_emod_self_left]
/-- What the law asks of quotient and remainder, behind a divisor that is not zero. -/
theorem law_nz (a b : Int) (ha : 0 ≤ a ∧ a ≤ 4294967295) (hb : 0 ≤ b ∧ b ≤ 4294967295) (hz : b ≠ 0) :
    (q a b * b + r a b) % 4294967296 = a ∧ wrap64 (wrap32 (r a b)) = wrap32 (r a b) ∧ wrap64 (wrap32 b) = wrap32 b ∧ wrap64 (-wrap32 (r a b)) = -wrap32 (r a b) ∧ wrap64 (-wrap32 b) = -wrap32 b ∧
    (wrap32 b < 0 → wrap32 (r a b) < -wrap32 b ∧ -wrap32 (r a b) < -wrap32 b) ∧ (¬ wrap32 b < 0 → wrap32 (r a b) < wrap32 b ∧ -wrap32 (r a b) < wrap32 b) ∧ (r a b ≠ 0 → r a b / 2147483648 = a / 2147483648) := by
  have hB := w32 hb
  have hA := w32 ha
  have hD : wrap32 b ≠ 0 := fun h => hz (hB.2.2.2 h)
  obtain ⟨p1, p2, p3, p4, p5, p6⟩ := parts (wrap32 a) (wrap32 b) hD (by omega) (by omega)
  have hr : wrap32 (r a b) = (wrap32 a).tmod (wrap32 b) ∧ r a b = ((wrap32 a).tmod (wrap32 b)) % 4294967296 := by
    unfold r; rw [if_neg hz]
    refine ⟨?_, rfl⟩
    generalize (wrap32 a).tmod (wrap32 b) = R at *
    have : -2147483648 ≤ R ∧ R ≤ 2147483647 := by omega
    unfold wrap32; omega
  have hs : (q a b * b + r a b) % 4294967296 = a := by
    unfold q; rw [if_neg hz, hr.2]
    obtain ⟨j, hj⟩ : ∃ j : Int, b = wrap32 b + 4294967296 * j := by
      rcases hB.2.2.1 with h | h
      · exact ⟨0, by omega⟩
      · exact ⟨1, by omega⟩
    have hbb : b % 4294967296 = b := by omega
    generalize hT : (wrap32 a).tdiv (wrap32 b) = T at *
    generalize (wrap32 a).tmod (wrap32 b) = R at *
    generalize hDD : wrap32 b = D at *
    rw [hj, sum_mod, p1]; omega
  obtain ⟨hr1, hr2⟩ := hr
  rw [hr1]
  generalize (wrap32 a).tmod (wrap32 b) = R at *
  generalize hDD : wrap32 b = D at *
  generalize hAA : wrap32 a = A at *
  refine ⟨hs, w64 (by omega) (by omega), w64 (by omega) (by omega), w64 (by omega) (by omega), w64 (by omega) (by omega), fun h => p4 h, fun h => p5 (by omega), fun h => ?_⟩
  rw [hr2] at h ⊢
  rcases hA.2.2.1 with h3 | h3 <;> omega
set_option maxHeartbeats 4000000 in
set_option maxRecDepth 100000 in
theorem walk_z (k : Nat) (a : Int) (w : World) (A1 : Aside0 (bits_Divide.f a 0 = some (4294967295, a))) (A2 : Aside0 (vmfleetref1_Divide.f a 0 = some (4294967295, a))) (A7 : Aside0 (vmfleetlaw1_awake.f k = some true)) :
    Calls Try.prog 3 #[.int .u32 a, .int .u32 0] w fun e w' => e = .returned (.bool true) ∧ Below w.heap.size w w' := by
  go_enter Try.func3, Try.ntmps3
  go_wp2_with (first | (go_at_call 13; (with_reducible refine (bits_Divide.calls a 0 4294967295 a _ A1.out).mono ?_); rintro e w' ⟨rfl, ⟨nd, rfl⟩⟩) | (go_at_call 14; (with_reducible refine (vmfleetref1_Divide.calls a 0 4294967295 a _ A2.out).mono ?_); rintro e w' ⟨rfl, ⟨nd, rfl⟩⟩) | (go_at_call 15; (with_reducible refine (vmfleetlaw1_awake.calls k true _ A7.out).mono ?_); rintro e w23 ⟨rfl, hb⟩; have HB := Aside0.mk hb; clear hb))
  go_ret
  refine ⟨rfl, below_step ?_ HB.out⟩
  repeat (first | (with_reducible first | exact Below.refl _ _ | apply below_alloc | apply pw_below_drewN | apply below_drew1) | exact Below.refl _ _)
set_option maxHeartbeats 4000000 in
set_option maxRecDepth 100000 in
theorem walk_nz (k : Nat) (a b q r m d : Int) (w : World) (hz : (b == 0) = false) (A1 : Aside0 (bits_Divide.f a b = some (q, r))) (A2 : Aside0 (vmfleetref1_Divide.f a b = some (q, r))) (A7 : Aside0 (vmfleetlaw1_awake.f k = some true))
    (hs : Aside0 ((q * b + r) % 4294967296 = a)) (hm : Aside0 (wrap64 (wrap32 r) = m)) (hm2 : Aside0 (wrap64 (-m) = -m)) (hd : Aside0 (wrap64 (wrap32 b) = d)) (hd2 : Aside0 (wrap64 (-d) = -d))
    (l1 : Aside0 (d < 0 → m < -d ∧ -m < -d)) (l2 : Aside0 (¬ d < 0 → m < d ∧ -m < d)) (l3 : Aside0 (r ≠ 0 → r / 2147483648 = a / 2147483648)) :
    Calls Try.prog 3 #[.int .u32 a, .int .u32 b] w fun e w' => e = .returned (.bool true) ∧ Below w.heap.size w w' := by
  have hs1 : ((q * b + r) % 4294967296 == a) = true := beq_iff_eq.2 hs.out
  have hm1 : wrap64 (wrap32 r) = m := hm.out
  have hd1 : wrap64 (wrap32 b) = d := hd.out
  have hm3 : wrap64 (-m) = -m := hm2.out
  have hd3 : wrap64 (-d) = -d := hd2.out
  clear hs hm hm2 hd hd2
  by_cases c1 : m < 0 <;> by_cases c2 : d < 0 <;> by_cases c3 : r = 0
  all_goals
    have b1 : decide (m < 0) = decide (m < 0) := rfl
    first | (have d1 : decide (m < 0) = true := decide_eq_true c1) | (have d1 : decide (m < 0) = false := decide_eq_false c1)
    first | (have d2 : decide (d < 0) = true := decide_eq_true c2; have l := l1.out c2) | (have d2 : decide (d < 0) = false := decide_eq_false c2; have l := l2.out c2)
    first | (have d4 : decide (m < -d) = true := decide_eq_true l.1; have d5 : decide (-m < -d) = true := decide_eq_true l.2) | (have d4 : decide (m < d) = true := decide_eq_true l.1; have d5 : decide (-m < d) = true := decide_eq_true l.2)
    first | (have d3 : (r == 0) = true := beq_iff_eq.2 c3) | (have d3 : (r == 0) = false := beq_eq_false_iff_ne.2 c3; have d6 : (r / 2147483648 == a / 2147483648) = true := beq_iff_eq.2 (l3.out c3))
    (try (have d7 : decide (d < m) = true := decide_eq_true (by omega)))
    clear b1 c1 c2 c3 l l1 l2 l3
    go_enter Try.func3, Try.ntmps3
    go_wp2_with (first | (go_at_call 13; (with_reducible refine (bits_Divide.calls a b q r _ A1.out).mono ?_); rintro e w' ⟨rfl, ⟨nd, rfl⟩⟩) | (go_at_call 14; (with_reducible refine (vmfleetref1_Divide.calls a b q r _ A2.out).mono ?_); rintro e w' ⟨rfl, ⟨nd, rfl⟩⟩) | (go_at_call 15; (with_reducible refine (vmfleetlaw1_awake.calls k true _ A7.out).mono ?_); rintro e w23 ⟨rfl, hb⟩; have HB := Aside0.mk hb; clear hb))
    go_ret
    refine ⟨rfl, below_step ?_ HB.out⟩
    repeat (first | (with_reducible first | exact Below.refl _ _ | apply below_alloc | apply pw_below_drewN | apply below_drew1) | exact Below.refl _ _)
theorem BitsDivides (a0 a1 : Int) (w : World) (h0 : (Lit.int .u32 a0).wf = true) (h1 : (Lit.int .u32 a1).wf = true) :
    Calls Try.prog 3 #[.int .u32 a0, .int .u32 a1] w fun e w' => e = .returned (.bool true) ∧ Below w.heap.size w w' := by
  have b0 := bounds_u32 h0
  have b1 := bounds_u32 h1
  have e1 := Divide_eq a0 a1 b0 b1
  have e2 := rDivide_eq a0 a1 b0 b1
  by_cases hz : a1 = 0
  · subst hz
    have hq : q a0 0 = 4294967295 := by unfold q; simp
    have hr : r a0 0 = a0 := by unfold r; simp
    rw [hq, hr] at e1 e2
    exact walk_z 20 a0 w ⟨e1⟩ ⟨e2⟩ ⟨awake_ends⟩
  · obtain ⟨l1, l2, l3, l4, l5, l6, l7, l8⟩ := law_nz a0 a1 b0 b1 hz
    exact walk_nz 20 a0 a1 (q a0 a1) (r a0 a1) (wrap32 (r a0 a1)) (wrap32 a1) w (beq_eq_false_iff_ne.2 hz) ⟨e1⟩ ⟨e2⟩ ⟨awake_ends⟩ ⟨l1⟩ ⟨l2⟩ ⟨l4⟩ ⟨l3⟩ ⟨l5⟩ ⟨l6⟩ ⟨l7⟩ ⟨l8⟩
end Go.Proofs.Ytnpobmpdlcmipaa.Walk
