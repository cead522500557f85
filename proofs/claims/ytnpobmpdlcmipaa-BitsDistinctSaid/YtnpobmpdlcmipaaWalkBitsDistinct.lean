/- Proved: vmfleetlaw1.BitsDistinct returns true for every input and leaves what was there. Conditions: none. -/
import Derived.Test.YtnpobmpdlcmipaaPBitsDistinctx1
import Derived.Test.YtnpobmpdlcmipaaBv
import Derived.OpenShut
import Derived.Deep.QuietTactic
import Derived.BigQuiet
namespace Go.Proofs.Ytnpobmpdlcmipaa.Walk
open Go.RowKit Go.Proofs.Ytnpobmpdlcmipaa.PBitsDistinct Go.Proofs.YtnpobmpdlcmipaaW.PrintWords Go.Proofs.YtnpobmpdlcmipaaW.PrintLast Go.Proofs.YtnpobmpdlcmipaaW.PrintMore
attribute [local go_sem] max2_int min2_int max_two min_two max_three min_three max_four min_four
set_option linter.unusedVariables false
set_option linter.unusedSimpArgs false
set_option maxHeartbeats 4000000 in
set_option maxRecDepth 100000 in
theorem uv_const (w : World) : Calls Try.prog 21 #[.string ⟨#[172, 2]⟩] w fun e w' => e = .returned (.tuple #[.int .u64 300, .int .i64 2, .bool true]) ∧ w' = w := by
  have hsz : (⟨#[172, 2]⟩ : ByteArray).size = 2 := rfl
  obtain ⟨s, hs⟩ : ∃ s : ByteArray, s = ⟨#[172, 2]⟩ := ⟨_, rfl⟩
  rw [← hs] at hsz ⊢
  have hb0 : ∀ h : 0 < s.size, (s[0]'h).toNat = 172 := by subst hs; intro h; rfl
  have hb1 : ∀ h : 1 < s.size, (s[1]'h).toNat = 2 := by subst hs; intro h; rfl
  clear hs
  go_enter Try.func21, Try.ntmps21
  go_wp2
  go_loop [5, 11] (fun v5 v11 => (v5 = .int .u64 0 ∧ v11 = .int .i64 0) ∨ (v5 = .int .u64 44 ∧ v11 = .int .i64 1)) (fun _ v11 => 2 - (intOf v11).toNat)
  case atStart => exact .inl ⟨rfl, rfl⟩
  case round =>
    rcases hrel with ⟨rfl, rfl⟩ | ⟨rfl, rfl⟩
    · go_wp2
      go_round
      case rel => exact .inr ⟨by first | rfl | (simp; done) | decide, by first | rfl | simp⟩
      case measure => simp [intOf]
    · go_wp2
      go_ret3
      exact ⟨by first | rfl | simp, rfl⟩
theorem same_next : ∃ v u, bits_Next.f 0 = some (v, u) ∧ vmfleetref1_Next.f 0 = some (v, u) := ⟨_, _, rfl, rfl⟩
theorem div_const : bits_Divide.f 4294967289 2 = some (4294967293, 4294967295) := by decide +kernel
theorem sx_const : bits_SignExtend.f 128 8 = some 4294967168 := by decide +kernel
set_option maxHeartbeats 4000000 in
set_option maxRecDepth 100000 in
theorem awake_quiet (w : World) : Calls Try.prog 15 #[] w fun e w' => e = .returned (.bool true) ∧ Drawn0 w w' := by
  obtain ⟨v, u, h1, h2⟩ := same_next
  have H1 := Aside0.mk h1
  have H2 := Aside0.mk h2
  clear h1 h2
  go_enter Try.func15, Try.ntmps15
  go_wp2_with (first | (go_at_call 13; (with_reducible refine (bits_Divide.calls _ _ _ _ _ div_const).mono ?_); rintro e w' ⟨rfl, ⟨nd, rfl⟩⟩) | (go_at_call 16; (with_reducible refine (bits_Next.calls _ _ _ _ H1.out).mono ?_); rintro e w' ⟨rfl, ⟨nd, rfl⟩⟩) | (go_at_call 17; (with_reducible refine (vmfleetref1_Next.calls _ _ _ _ H2.out).mono ?_); rintro e w' ⟨rfl, ⟨nd, rfl⟩⟩) | (go_at_call 24; (with_reducible refine (bits_SignExtend.calls _ _ _ _ sx_const).mono ?_); rintro e w' ⟨rfl, ⟨nd, rfl⟩⟩) | (go_at_call 21; (with_reducible refine (uv_const _).mono ?_); rintro e w' ⟨rfl, rfl⟩))
  go_ret
  exact ⟨rfl, by repeat (first | exact Drawn0.refl _ | apply Drawn0.step)⟩
/-- The string with one byte replaced. -/
def setb (s : ByteArray) (i : Nat) (b : Int) : ByteArray := strOfNums ((bytesOf s).set i b)
theorem frozen_new (w : World) (e : TypeId) (s : ByteArray) (j : Nat) (hj : j < s.size) : (Lib.bytesWorld w e s).frozen? ⟨w.heap.size, j, none⟩ = false := by
  simp [World.frozen?, Lib.bytesWorld_at_new, Lib.bytesCells]; omega
theorem conv_back (w : World) (s : ByteArray) (i : Nat) (hi : i < s.size) (b : Int) (cap n : Nat) : (convert 34 9 (.slice (some ⟨w.heap.size, 0, none⟩) s.size cap)).run Try.prog (((Lib.bytesWorld w 5 s).setCell ⟨w.heap.size, i, none⟩ (.int .u8 b)).drewN n) = .ok (.string (setb s i b)) (((Lib.bytesWorld w 5 s).setCell ⟨w.heap.size, i, none⟩ (.int .u8 b)).drewN n) := by
  refine run_convert_bytes_arg _ 34 5 Try.underlying34 Try.underlying5 w.heap.size 0 s.size cap ((bytesOf s).set i b) (by simp [bytesOf]) ?_ 9 Try.underlying9
  intro j hj
  rw [Nat.zero_add, World.cell?_drewN]
  have hc := Lib.bytesWorld_cell w 5 s j hj
  by_cases h : j = i
  · subst h
    rw [World.cell?_setCell_same _ _ _ hc]
    simp [List.getD, bytesOf, hj]
  · rw [World.cell?_setCell_other _ _ _ _ (fun e => h (by injection e with _ e _; exact e.symm)), hc]
    simp [List.getD, bytesOf, hj, List.getElem?_set, Ne.symm h]
theorem setb_size (s : ByteArray) (i : Nat) (b : Int) : (setb s i b).size = s.size := by simp [setb, strOfNums_size, bytesOf]
theorem w64 {n : Int} (h0 : -9223372036854775808 ≤ n) (h1 : n ≤ 9223372036854775807) : wrap64 n = n := by unfold wrap64; omega
/-- One step of the hash. -/
def hstep (h : Int) (b : UInt8) : Int := IntKind.u64.wrap ((Go.bits .xor .u64 h (IntKind.u64.wrap (b.toNat : Int))) * 1099511628211)
def hash (h : Int) (s : List UInt8) : Int := s.foldl hstep h
theorem bt_eq (s : ByteArray) (i : Nat) (h : i < s.size) : bt s (i : Int) = ((s.data.toList[i]'(by simpa using h)).toNat : Int) := by
  unfold bt; rw [dif_pos (by simpa using h)]; rfl
theorem Hash_from (s : ByteArray) (hs : s.size ≤ 9000000000000000000) (d : Nat) : ∀ (h : Int) (i k : Nat), i ≤ s.size → s.size - i = d → d < k → bits_Hash.l0 k h s (s.size : Int) (i : Int) = some (hash h (s.data.toList.drop i)) := by
  induction d with
  | zero =>
    intro h i k hi hd hk
    obtain ⟨k, rfl⟩ : ∃ m, k = m + 1 := ⟨k - 1, by omega⟩
    simp only [bits_Hash.l0]
    rw [if_neg (by omega), List.drop_of_length_le (by simp; omega)]; rfl
  | succ d ih =>
    intro h i k hi hd hk
    obtain ⟨k, rfl⟩ : ∃ m, k = m + 1 := ⟨k - 1, by omega⟩
    simp only [bits_Hash.l0]
    have e : wrap64 ((i : Int) + 1) = ((i + 1 : Nat) : Int) := by rw [w64 (by omega) (by omega)]; simp
    rw [if_pos (by omega), if_pos (by omega), if_pos (by omega), e, ih _ (i + 1) k (by omega) (by omega) (by omega), bt_eq s i (by omega)]
    rw [List.drop_eq_getElem_cons (i := i) (by simp; omega)]; rfl
theorem Hash_eq (s : ByteArray) (hs : s.size ≤ 9000000000000000000) (h : Int) (k : Nat) (hk : s.size < k) : bits_Hash.f k h s = some (hash h s.data.toList) := by
  have := Hash_from s hs s.size h 0 k (by omega) (by omega) hk
  simpa [bits_Hash.f] using this
theorem rHash_from (s : ByteArray) (hs : s.size ≤ 9000000000000000000) (d : Nat) : ∀ (h : Int) (i k : Nat), i ≤ s.size → s.size - i = d → d < k → vmfleetref1_Hash.l0 k h s (i : Int) = some (hash h (s.data.toList.drop i)) := by
  induction d with
  | zero =>
    intro h i k hi hd hk
    obtain ⟨k, rfl⟩ : ∃ m, k = m + 1 := ⟨k - 1, by omega⟩
    simp only [vmfleetref1_Hash.l0]
    rw [if_neg (by omega), List.drop_of_length_le (by simp; omega)]; rfl
  | succ d ih =>
    intro h i k hi hd hk
    obtain ⟨k, rfl⟩ : ∃ m, k = m + 1 := ⟨k - 1, by omega⟩
    simp only [vmfleetref1_Hash.l0]
    have e : wrap64 ((i : Int) + 1) = ((i + 1 : Nat) : Int) := by rw [w64 (by omega) (by omega)]; simp
    rw [if_pos (by omega), if_pos (by omega), e, ih _ (i + 1) k (by omega) (by omega) (by omega), bt_eq s i (by omega)]
    rw [List.drop_eq_getElem_cons (i := i) (by simp; omega)]; rfl
theorem rHash_eq (s : ByteArray) (hs : s.size ≤ 9000000000000000000) (h : Int) (k : Nat) (hk : s.size < k) : vmfleetref1_Hash.f k h s = some (hash h s.data.toList) := by
  have := rHash_from s hs s.size h 0 k (by omega) (by omega) hk
  simpa [vmfleetref1_Hash.f] using this

def hB (x : BitVec 64) (b : UInt8) : BitVec 64 := (x ^^^ BitVec.ofNat 64 b.toNat) * 1099511628211#64
theorem odd_inj {x y : BitVec 64} (h : x * 1099511628211#64 = y * 1099511628211#64) : x = y := by
  have e : (1099511628211#64 * 14886173955864302971#64) = 1#64 := by decide +kernel
  have h2 := congrArg (fun z => z * 14886173955864302971#64) h
  simp only [BitVec.mul_assoc, e, BitVec.mul_one] at h2
  exact h2
theorem xor_inj_right {x a b : BitVec 64} (h : x ^^^ a = x ^^^ b) : a = b := by
  have h2 := congrArg (fun z => x ^^^ z) h
  simpa [← BitVec.xor_assoc] using h2
theorem xor_inj_left {a x y : BitVec 64} (h : x ^^^ a = y ^^^ a) : x = y := by
  have h2 := congrArg (fun z => z ^^^ a) h
  simpa [BitVec.xor_assoc] using h2
theorem hB_inj {x y : BitVec 64} {b : UInt8} (h : hB x b = hB y b) : x = y := xor_inj_left (odd_inj h)
theorem hB_byte {x : BitVec 64} {a b : UInt8} (h : hB x a = hB x b) : a = b := by
  have h1 := xor_inj_right (odd_inj h)
  have h2 := congrArg BitVec.toNat h1
  simp at h2
  apply UInt8.toNat_inj.1
  have := a.toNat_lt; have := b.toNat_lt; omega
theorem hstep_B (x : BitVec 64) (b : UInt8) : hstep (x.toNat : Int) b = ((hB x b).toNat : Int) := by
  have w : ∀ n : Int, IntKind.u64.wrap n = n % 18446744073709551616 := fun n => by simp [IntKind.wrap, IntKind.bits, IntKind.signed]
  unfold hstep hB
  have hb := b.toNat_lt
  have e1 : IntKind.u64.wrap (b.toNat : Int) = (b.toNat : Int) := by rw [w]; omega
  have e2 : Go.bits .xor .u64 (x.toNat : Int) (b.toNat : Int) = ((x ^^^ BitVec.ofNat 64 b.toNat).toNat : Int) := by
    show IntKind.u64.wrap ((BitVec.ofInt 64 (x.toNat : Int) ^^^ BitVec.ofInt 64 (b.toNat : Int)).toNat : Int) = _
    rw [BitVec.ofInt_natCast, BitVec.ofInt_natCast, BitVec.ofNat_toNat, BitVec.setWidth_eq, w]
    have := (x ^^^ BitVec.ofNat 64 b.toNat).isLt; omega
  rw [e1, e2, w, BitVec.toNat_mul]
  generalize (x ^^^ BitVec.ofNat 64 b.toNat).toNat = n
  have : (1099511628211#64).toNat = 1099511628211 := rfl
  rw [this]; omega
def hashB (x : BitVec 64) (l : List UInt8) : BitVec 64 := l.foldl hB x
theorem hash_B (l : List UInt8) : ∀ x : BitVec 64, hash (x.toNat : Int) l = ((hashB x l).toNat : Int) := by
  induction l with
  | nil => intro x; rfl
  | cons b l ih => intro x; show hash (hstep _ b) l = _; rw [hstep_B, ih]; rfl
theorem hashB_inj (l : List UInt8) : ∀ {x y : BitVec 64}, hashB x l = hashB y l → x = y := by
  induction l with
  | nil => intro x y h; exact h
  | cons b l ih => intro x y h; exact hB_inj (ih h)
theorem hash_diff (l m : List UInt8) (a b : UInt8) (h : a ≠ b) (x : BitVec 64) : hash (x.toNat : Int) (l ++ a :: m) ≠ hash (x.toNat : Int) (l ++ b :: m) := by
  rw [hash_B, hash_B]
  intro he
  have he2 : hashB x (l ++ a :: m) = hashB x (l ++ b :: m) := BitVec.eq_of_toNat_eq (by omega)
  unfold hashB at he2
  rw [List.foldl_append, List.foldl_append] at he2
  exact h (hB_byte (hashB_inj m he2))
theorem quiet0 {P : Program} {f : FuncId} {args : Array Value} {w : World} {n : Nat} {v : Value} (h : Calls P f args (w.drewN n) fun e w' => e = .returned v ∧ Drawn0 (w.drewN n) w') :
    Calls P f args (w.drewN n) fun e w'' => e = .returned v ∧ ∃ m, w'' = w.drewN m := Calls.quiet_of (h.mono fun e w' ⟨he, hd⟩ => ⟨he, hd.out⟩)
set_option maxHeartbeats 4000000 in
set_option maxRecDepth 100000 in
theorem walk_in (k : Nat) (s : ByteArray) (i : Nat) (b h1 h2 h3 : Int) (w : World) (hi : i < s.size) (hs : s.size ≤ 200) (hb : Aside0 (¬ bt s i = b)) (hb2 : Aside0 (0 ≤ b ∧ b ≤ 255))
    (A1 : Aside0 (bits_Hash.f k 0 s = some h1)) (A2 : Aside0 (bits_Hash.f k 0 (setb s i b) = some h2)) (hne : Aside0 (h1 ≠ h2)) (A3 : Aside0 (bits_Hash.f k 7 s = some h3)) (A4 : Aside0 (vmfleetref1_Hash.f k 7 s = some h3)) :
    Calls Try.prog 6 #[.string s, .int .i64 i, .int .u8 b] w fun e w' => e = .returned (.bool true) ∧ Below w.heap.size w w' := by
  have hconv := Lib.run_convert_string_bytes (P := Try.prog) w 9 34 5 s Try.underlying9 Try.underlying34 Try.underlying5
  have hback := conv_back w s i hi b (grownCap w s.size 0 5)
  have hcell := Lib.bytesWorld_cell w 5 s i hi
  have hfr := frozen_new w 5 s i hi
  have hbel : Below w.heap.size w (Lib.bytesWorld w 5 s) := ⟨rfl, rfl, rfl, by rw [Lib.bytesWorld_size]; omega, fun j hj => Lib.bytesWorld_at_old w 5 s j hj⟩
  have HB := Aside0.mk hbel
  clear hbel
  generalize (s.data.toList.getD i 0).toNat = x0 at hcell
  generalize Lib.bytesWorld w 5 s = W1 at hconv hback hcell hfr HB
  generalize grownCap w s.size 0 5 = cap at hconv hback
  generalize w.heap.size = g at hconv hback hcell hfr HB ⊢
  generalize setb s i b = t at hback A2
  have hbt := bt_at s (i : Int)
  have d4 : ∀ h : i < s.size, (((s[i]'h).toNat : Int) == b) = false := fun h => beq_eq_false_iff_ne.2 (fun e => hb.out (by rw [← hbt h]; exact e))
  clear hbt hb
  have d0 : decide ((s.size : Int) < 1) = false := by simp; omega
  have d1 : decide (200 < (s.size : Int)) = false := by simp; omega
  have d2 : decide ((i : Int) < 0) = false := by simp
  have d3 : decide ((s.size : Int) ≤ (i : Int)) = false := by simp; omega
  have d5 : (h1 != h2) = true := bne_iff_ne.2 hne.out
  have d6 : decide (s.size ≤ i) = false := by simp; omega
  go_enter Try.func6, Try.ntmps6
  go_wp2
  go_quiet (first | (with_reducible exact quiet0 (bits_Hash.calls k 0 s h1 _ A1.out)) | (with_reducible exact quiet0 (bits_Hash.calls k 0 t h2 _ A2.out)) | (with_reducible exact quiet0 (bits_Hash.calls k 7 s h3 _ A3.out)) | (with_reducible exact quiet0 (vmfleetref1_Hash.calls k 7 s h3 _ A4.out)) | (with_reducible exact quiet0 (awake_quiet _)))
  clear hback hconv hcell hfr d4
  go_wp2
  go_ret
  exact ⟨rfl, pw_below_drewN (HB.out.setCell (Nat.le_refl _) _) _⟩
set_option maxHeartbeats 4000000 in
set_option maxRecDepth 100000 in
theorem walk_out (s : ByteArray) (i b : Int) (w : World) (b0 : -9223372036854775808 ≤ i) (b1 : i ≤ 9223372036854775807) (hz : s.size ≤ 140737488351232)
    (h : s.size < 1 ∨ 200 < s.size ∨ i < 0 ∨ (s.size : Int) ≤ i ∨ (∃ h : i.toNat < s.size, 0 ≤ i ∧ ((s[i.toNat]'h).toNat : Int) = b)) :
    Calls Try.prog 6 #[.string s, .int .i64 i, .int .u8 b] w fun e w' => e = .returned (.bool true) ∧ Below w.heap.size w w' := by
  by_cases c1 : s.size < 1
  · have d : decide ((s.size : Int) < 1) = true := by simp; omega
    have d' : decide (s.size < 1) = true := by simpa using c1
    clear h
    go_enter Try.func6, Try.ntmps6
    go_wp2_with (go_at_call 15; (with_reducible refine (awake_quiet _).mono ?_); rintro e w' ⟨rfl, ⟨nd, rfl⟩⟩)
    go_ret
    exact ⟨rfl, pw_below_drewN (Below.refl _ _) _⟩
  have d : decide ((s.size : Int) < 1) = false := by simp; omega
  have d' : decide (s.size < 1) = false := by simpa using c1
  by_cases c2 : 200 < s.size
  · have e : decide (200 < (s.size : Int)) = true := by simp; omega
    have e' : decide (200 < s.size) = true := by simpa using c2
    clear h
    go_enter Try.func6, Try.ntmps6
    go_wp2_with (go_at_call 15; (with_reducible refine (awake_quiet _).mono ?_); rintro e w' ⟨rfl, ⟨nd, rfl⟩⟩)
    go_ret
    exact ⟨rfl, pw_below_drewN (Below.refl _ _) _⟩
  have e : decide (200 < (s.size : Int)) = false := by simp; omega
  have e' : decide (200 < s.size) = false := by simpa using c2
  by_cases c3 : i < 0
  · have f : decide (i < 0) = true := by simpa using c3
    clear h
    go_enter Try.func6, Try.ntmps6
    go_wp2_with (go_at_call 15; (with_reducible refine (awake_quiet _).mono ?_); rintro e w' ⟨rfl, ⟨nd, rfl⟩⟩)
    go_ret
    exact ⟨rfl, pw_below_drewN (Below.refl _ _) _⟩
  have f : decide (i < 0) = false := by simpa using c3
  by_cases c4 : (s.size : Int) ≤ i
  · have g : decide ((s.size : Int) ≤ i) = true := by simpa using c4
    clear h
    go_enter Try.func6, Try.ntmps6
    go_wp2_with (go_at_call 15; (with_reducible refine (awake_quiet _).mono ?_); rintro e w' ⟨rfl, ⟨nd, rfl⟩⟩)
    go_ret
    exact ⟨rfl, pw_below_drewN (Below.refl _ _) _⟩
  have g : decide ((s.size : Int) ≤ i) = false := by simpa using c4
  obtain ⟨hlt, _, hb⟩ : ∃ h : i.toNat < s.size, 0 ≤ i ∧ ((s[i.toNat]'h).toNat : Int) = b := by
    rcases h with h | h | h | h | h
    · omega
    · omega
    · omega
    · omega
    · exact h
  obtain ⟨j, rfl⟩ : ∃ j : Nat, i = (j : Int) := ⟨i.toNat, by omega⟩
  have hj : j < s.size := by omega
  have k1 : ∀ h : j < s.size, (((s[j]'h).toNat : Int) == b) = true := fun h => by subst hb; simp
  have g' : decide (s.size ≤ j) = false := by simp; omega
  clear h hb hlt
  go_enter Try.func6, Try.ntmps6
  go_wp2_with (go_at_call 15; (with_reducible refine (awake_quiet _).mono ?_); rintro e w' ⟨rfl, ⟨nd, rfl⟩⟩)
  go_ret
  exact ⟨rfl, pw_below_drewN (Below.refl _ _) _⟩
theorem BitsDistinct (s : ByteArray) (i b : Int) (w : World) (h0 : s.size ≤ 140737488351232) (h1 : (Lit.int .i64 i).wf = true) (h2 : (Lit.int .u8 b).wf = true) :
    Calls Try.prog 6 #[.string s, .int .i64 i, .int .u8 b] w fun e w' => e = .returned (.bool true) ∧ Below w.heap.size w w' := by
  have b1 := bounds_i64 h1
  have b2 := bounds_u8 h2
  by_cases h : s.size < 1 ∨ 200 < s.size ∨ i < 0 ∨ (s.size : Int) ≤ i ∨ (∃ h : i.toNat < s.size, 0 ≤ i ∧ ((s[i.toNat]'h).toNat : Int) = b)
  · exact walk_out s i b w b1.1 b1.2 h0 h
  · have c1 : ¬ s.size < 1 := fun h' => h (.inl h')
    have c2 : ¬ 200 < s.size := fun h' => h (.inr (.inl h'))
    have c3 : ¬ i < 0 := fun h' => h (.inr (.inr (.inl h')))
    have c4 : ¬ (s.size : Int) ≤ i := fun h' => h (.inr (.inr (.inr (.inl h'))))
    obtain ⟨j, rfl⟩ : ∃ j : Nat, i = (j : Int) := ⟨i.toNat, by omega⟩
    have hj : j < s.size := by omega
    have hjt : ((j : Int)).toNat < s.size := by omega
    have hne : ¬ bt s (j : Int) = b := fun e => h (.inr (.inr (.inr (.inr ⟨hjt, by omega, (bt_at s (j : Int) hjt).trans e⟩))))
    have hz2 : (setb s j b).size = s.size := setb_size s j b
    refine walk_in 300 s j b _ _ _ w hj (by omega) ⟨hne⟩ ⟨b2⟩ ⟨Hash_eq s (by omega) 0 300 (by omega)⟩ ⟨Hash_eq (setb s j b) (by omega) 0 300 (by omega)⟩ ⟨?_⟩ ⟨Hash_eq s (by omega) 7 300 (by omega)⟩ ⟨rHash_eq s (by omega) 7 300 (by omega)⟩
    have hjl : j < s.data.toList.length := by simpa using hj
    have e1 : s.data.toList = s.data.toList.take j ++ s.data.toList[j] :: s.data.toList.drop (j + 1) := by rw [← List.drop_eq_getElem_cons hjl, List.take_append_drop]
    have e2 : (setb s j b).data.toList = s.data.toList.take j ++ UInt8.ofNat b.toNat :: s.data.toList.drop (j + 1) := by
      unfold setb bytesOf
      rw [strOfNums_data, List.map_set, List.map_map]
      have : (fun n : Int => UInt8.ofNat n.toNat) ∘ (fun c : UInt8 => (c.toNat : Int)) = id := by funext c; simp
      rw [this, List.map_id, List.set_eq_take_append_cons_drop, if_pos hjl]
    have hd : s.data.toList[j] ≠ UInt8.ofNat b.toNat := by
      intro e
      apply hne
      rw [bt_eq s j hj, e, UInt8.toNat_ofNat']; omega
    rw [e2]
    conv => lhs; rw [e1]
    exact hash_diff _ _ _ _ hd 0#64
end Go.Proofs.Ytnpobmpdlcmipaa.Walk
