/- Proved: for any words, the hash, and for any two lists, the changed pages, are as the chapter specifies. Conditions: none. -/
import Derived.Test.YtdaeflafdnlceaaHMemoryHashesx1
import Derived.Test.YtdaeflafdnlceaaHMemoryHashesx2
import Derived.Test.YtdaeflafdnlceaaHMemoryHashesx3
import Derived.Test.YtdaeflafdnlceaaHMemoryHashesx4
import Derived.Test.YtdaeflafdnlceaaBv
import Derived.Test.YtdaeflafdnlceaaMem
namespace Go.Proofs.Ytdaeflafdnlceaa.Pure
open Go.RowKit Go.Proofs.Ytdaeflafdnlceaa.HMemoryHashes Go.Proofs.YtdaeflafdnlceaaW.PrintWords Go.Proofs.YtdaeflafdnlceaaW.PrintLast Go.Proofs.Ytdaeflafdnlceaa.Bv Go.Proofs.Ytdaeflafdnlceaa.Mem
set_option linter.unusedVariables false
set_option linter.unusedSimpArgs false

/-- A bind of what is there. -/
theorem bs {α β : Type} (a : α) (f : α → Option β) : (some a).bind f = f a := rfl

theorem Round_eq (a n : Int) (hn : 0 < n) (hn2 : n ≤ 4611686018427387904) : vmfleetmake_Round.f a n = some (a % n) := by
  unfold vmfleetmake_Round.f
  rw [if_neg (by omega)]
  have h1 := Int.emod_nonneg a (show n ≠ 0 by omega)
  have h2 := Int.emod_lt_of_pos a hn
  have h3 := Int.tmod_lt_of_pos a hn
  have h4 := Int.lt_tmod_of_pos a hn
  have h5 : Int.tmod a n = a % n ∨ Int.tmod a n = a % n - n := by
    rw [Int.tmod_eq_emod]; split <;> simp <;> omega
  by_cases h : Int.tmod a n < 0
  · rw [if_pos h, w64 (by omega) (by omega)]; congr 1; omega
  · rw [if_neg h]; congr 1; omega

theorem rNew_eq (n : Int) : vmfleetref1_New.f n = some (if 1 ≤ n ∧ n ≤ 32 then List.replicate (32 * n.toNat) 0 else []) := by
  unfold vmfleetref1_New.f
  by_cases h1 : n < 1
  · rw [if_pos h1, if_neg (by omega)]
  · rw [if_neg h1]
    by_cases h2 : n > 32
    · rw [if_pos h2, if_neg (by omega)]
    · have e : wrap64 (n * 32) = n * 32 := w64 (by omega) (by omega)
      have e2 : (n * 32).toNat = 32 * n.toNat := by omega
      rw [if_neg h2, e, if_pos (by omega), if_pos (by omega), if_pos (by omega), e2]

theorem Mix_ends (a b : Int) : ∃ r, vmfleetmake_Mix.f a b = some r ∧ 0 ≤ r ∧ r ≤ 9223372036854775807 := by
  unfold vmfleetmake_Mix.f
  obtain ⟨p, q, hp, h0, h1⟩ : ∃ p q, vmfleetref1_Next.f (Go.bits .xor .u64 (IntKind.u64.wrap (a)) (IntKind.u64.wrap ((IntKind.u64.wrap (b)) * 11400714819323198485))) = some (p, q) ∧ 0 ≤ p ∧ p ≤ 18446744073709551615 := by
    refine ⟨_, _, rfl, ?_⟩
    show 0 ≤ IntKind.u64.wrap _ ∧ IntKind.u64.wrap _ ≤ _
    rw [wu64]; omega
  rw [hp]; rw [bs]; try dsimp only
  exact ⟨_, rfl, by rw [w64 (by omega) (by omega)]; omega, by rw [w64 (by omega) (by omega)]; omega⟩

theorem and_low (x : Int) (h : 0 ≤ x ∧ x ≤ 9223372036854775807) : Go.bits .and .i64 x 4294967295 % 4294967296 = x % 4294967296 := by
  obtain ⟨n, rfl⟩ : ∃ n : Nat, x = (n : Int) := ⟨x.toNat, by omega⟩
  show IntKind.i64.wrap ((BitVec.ofInt 64 (n : Int) &&& BitVec.ofInt 64 4294967295).toNat : Int) % 4294967296 = _
  have e1 : (BitVec.ofInt 64 4294967295).toNat = 2 ^ 32 - 1 := rfl
  have e2 : (BitVec.ofInt 64 (n : Int)).toNat = n := by simp; omega
  rw [BitVec.toNat_and, e1, e2, Nat.and_two_pow_sub_one_eq_mod]
  have e3 : IntKind.i64.wrap ((n % 2 ^ 32 : Nat) : Int) = ((n % 2 ^ 32 : Nat) : Int) := by rw [IntKind.wrap_i64]; omega
  rw [e3]; omega
theorem shaped_from (l : List Int) (hl : l.length ≤ 9000000000000000000) (d : Nat) : ∀ (i k : Nat) (m : List Int), i ≤ l.length → i ≤ 40 → 40 - i = d → 2 * d + 1 < k → Ws m → 1 ≤ m.length → m.length ≤ 1024 → ∃ m', vmfleetlaw4_shaped.l0 k l m (i : Int) = some m' ∧ m'.length = m.length ∧ Ws m' := by
  induction d with
  | zero =>
    intro i k m h1 h2 h3 h4 hw hm hm2
    obtain ⟨k, rfl⟩ : ∃ q, k = q + 2 := ⟨k - 2, by omega⟩
    refine ⟨m, ?_, rfl, hw⟩
    simp only [vmfleetlaw4_shaped.l0]
    by_cases hi : (i : Int) < (l.length : Int)
    · rw [if_pos hi]
      simp only [vmfleetlaw4_shaped.j2]
      have : ¬ decide ((i : Int) < 40) = true := by simp; omega
      rw [if_neg this]
    · rw [if_neg hi]
      simp only [vmfleetlaw4_shaped.j2]
      rw [if_neg (by simp)]
  | succ d ih =>
    intro i k m h1 h2 h3 h4 hw hm hm2
    obtain ⟨k, rfl⟩ : ∃ q, k = q + 2 := ⟨k - 2, by omega⟩
    simp only [vmfleetlaw4_shaped.l0]
    by_cases hi : (i : Int) < (l.length : Int)
    · rw [if_pos hi]
      simp only [vmfleetlaw4_shaped.j2]
      have hdec : decide ((i : Int) < 40) = true := by simp; omega
      obtain ⟨p, e1, p0, p1⟩ := Mix_ends (rd l (i : Int)) 5
      obtain ⟨q, e2, q0, q1⟩ := Mix_ends (rd l (i : Int)) 6
      have e3 := Round_eq p (m.length : Int) (by omega) (by omega)
      have hr0 := Int.emod_nonneg p (show (m.length : Int) ≠ 0 by omega)
      have hr1 := Int.emod_lt_of_pos p (show 0 < (m.length : Int) by omega)
      have ew : wrap64 ((i : Int) + 1) = ((i + 1 : Nat) : Int) := by rw [w64 (by omega) (by omega)]; simp
      rw [if_pos hdec, if_pos (by omega), if_pos hi, e1, bs, e3, bs, e2, bs, if_pos hr0, if_pos hr1, and_low q ⟨q0, q1⟩, ew]
      have hq : 0 ≤ q % 4294967296 ∧ q % 4294967296 ≤ 4294967295 := by omega
      obtain ⟨m', h5, h6, h7⟩ := ih (i + 1) k (m.set (p % (m.length : Int)).toNat (q % 4294967296)) (by omega) (by omega) (by omega) (by omega) (hw.set _ hq) (by simpa using hm) (by simpa using hm2)
      exact ⟨m', h5, by rw [h6]; simp, h7⟩
    · refine ⟨m, ?_, rfl, hw⟩
      rw [if_neg hi]
      simp only [vmfleetlaw4_shaped.j2]
      rw [if_neg (by simp)]
/-- The memory made of numbers: its size, and that its words are words. -/
theorem shaped_ends (x0 : List Int) (raw : Bool) (l : List Int) (p : Int) (hl : l.length ≤ 140737488355328) (hraw : raw = false ∨ 200 < x0.length) : ∃ m, (∀ k, 200 ≤ k → vmfleetlaw4_shaped.f k x0 raw l p = some m) ∧ m.length = 32 * (1 + (p % 6).toNat) ∧ Ws m := by
  have hp0 := Int.emod_nonneg p (show (6 : Int) ≠ 0 by decide)
  have hp1 := Int.emod_lt_of_pos p (show (0 : Int) < 6 by decide)
  have e1 : wrap64 (1 + p % 6) = 1 + p % 6 := w64 (by omega) (by omega)
  have hlen : (List.replicate (32 * (1 + p % 6).toNat) (0 : Int)).length = 32 * (1 + p % 6).toNat := by simp
  obtain ⟨m, h1, h2, h3⟩ := shaped_from l (by omega) 40 0 198 (List.replicate (32 * (1 + p % 6).toNat) 0) (by omega) (by omega) (by omega) (by omega) (Ws.rep _) (by omega) (by omega)
  have hj : ∀ b : Bool, b = false → vmfleetlaw4_shaped.j0 200 x0 l p b = some m := by
    intro b hb
    simp only [vmfleetlaw4_shaped.j0]
    rw [hb, if_neg (by simp), Round_eq p 6 (by omega) (by omega), bs, e1, rNew_eq, bs, if_pos (by omega)]
    rw [Int.natCast_zero] at h1
    exact at_rounds (g := fun k => vmfleetlaw4_shaped.l0 k l (List.replicate (32 * (1 + p % 6).toNat) 0) 0) (fun k => (vmfleetlaw4_shaped.mono_l k).2.1 _ _ _) (by omega : 198 ≤ 199) h1
  refine ⟨m, fun k hk => at_rounds (g := fun k => vmfleetlaw4_shaped.f k x0 raw l p) (fun k => vmfleetlaw4_shaped.mono _ _ _ _ k) hk ?_, by rw [h2, hlen]; omega, h3⟩
  show vmfleetlaw4_shaped.f 200 x0 raw l p = some m
  unfold vmfleetlaw4_shaped.f
  by_cases hr : raw = true
  · rw [if_pos hr]
    refine hj _ ?_
    rcases hraw with h | h
    · rw [h] at hr; cases hr
    · simp; omega
  · rw [if_neg hr]; exact hj _ rfl
/-- The memory, whichever it is: its words are words, and they are few. -/
theorem shaped_any (x0 : List Int) (raw : Bool) (l : List Int) (p : Int) (hl : l.length ≤ 140737488355328) (hw : Ws x0) : ∃ m, (∀ k, 200 ≤ k → vmfleetlaw4_shaped.f k x0 raw l p = some m) ∧ m.length ≤ 1024 ∧ Ws m := by
  by_cases h : raw = false ∨ 200 < x0.length
  · obtain ⟨m, h1, h2, h3⟩ := shaped_ends x0 raw l p hl h
    have hp1 := Int.emod_lt_of_pos p (show (0 : Int) < 6 by decide)
    exact ⟨m, h1, by omega, h3⟩
  · have hr : raw = true := by cases raw; exact absurd (.inl rfl) h; rfl
    have hx : ¬ 200 < x0.length := fun hx => h (.inr hx)
    refine ⟨x0, fun k hk => at_rounds (g := fun k => vmfleetlaw4_shaped.f k x0 raw l p) (fun k => vmfleetlaw4_shaped.mono _ _ _ _ k) hk ?_, by omega, hw⟩
    show vmfleetlaw4_shaped.f 200 x0 raw l p = some x0
    unfold vmfleetlaw4_shaped.f
    rw [if_pos hr]
    simp only [vmfleetlaw4_shaped.j0]
    rw [if_pos (by simp; omega)]
theorem new_len (n : Int) : (if 1 ≤ n ∧ n ≤ 32 then List.replicate (32 * n.toNat) (0 : Int) else []).length ≤ 1024 := by
  split
  · simp; omega
  · simp
theorem ws_of {l : List Int} (h : ∀ x ∈ l, (Lit.int .u32 x).wf = true) : Ws l := fun x hx => bounds_u32 (h x hx)

theorem Pages_eq (l : List Int) : memory_Pages.f l = some (pagesv l) := by
  unfold memory_Pages.f pagesv
  by_cases h : (l.length : Int) % 32 = 0
  · rw [if_pos h]
    by_cases h2 : (l.length : Int) > 1024
    · rw [if_pos h2, if_neg (by omega)]
    · rw [if_neg h2, if_pos (by omega), w64 (by omega) (by omega)]; simp
  · rw [if_neg h, if_neg (by omega)]

theorem within_eq (l : List Int) (a s : Int) (ha : 0 ≤ a ∧ a ≤ 4294967295) : memory_within.f l a s = some (decide (withinv l a s)) := by
  have hp := pagesv_le l
  have ea : IntKind.u64.wrap a = a := u64w (by omega) (by omega)
  have ep : IntKind.u64.wrap (wrap64 (pagesv l * 128)) = pagesv l * 128 := by rw [w64 (by omega) (by omega), u64w (by omega) (by omega)]
  unfold memory_within.f
  rw [Pages_eq]; rw [bs]; try dsimp only
  rw [ep, ea]
  by_cases h1 : s = 1
  · subst h1
    have e1 : Int.tmod a (1 % 4294967296) = a % 1 := Int.tmod_eq_emod_of_nonneg ha.1
    have e2 : IntKind.u64.wrap 1 = 1 := u64w (by omega) (by omega)
    have e3 : IntKind.u64.wrap (a + 1) = a + 1 := u64w (by omega) (by omega)
    rw [if_pos rfl, if_neg (by omega), e1, if_pos (by omega), e2, e3]
    exact congrArg some (decide_eq_decide.2 (by unfold withinv; omega))
  · rw [if_neg h1]
    by_cases h4 : s = 4
    · subst h4
      have e1 : Int.tmod a (4 % 4294967296) = a % 4 := Int.tmod_eq_emod_of_nonneg ha.1
      have e2 : IntKind.u64.wrap 4 = 4 := u64w (by omega) (by omega)
      have e3 : IntKind.u64.wrap (a + 4) = a + 4 := u64w (by omega) (by omega)
      rw [if_pos rfl, if_neg (by omega), e1]
      by_cases hm : a % 4 = 0
      · rw [if_pos hm, e2, e3]
        exact congrArg some (decide_eq_decide.2 (by unfold withinv; omega))
      · rw [if_neg hm]; exact congrArg some (decide_eq_false (by unfold withinv; omega)).symm
    · rw [if_neg h4]; exact congrArg some (decide_eq_false (by unfold withinv; omega)).symm

theorem outside_eq (low n : Int) : bits_outside.f low n = some (decide (low < 0 ∨ low > 31 ∨ n < 1)) := by
  unfold bits_outside.f
  by_cases h1 : low < 0
  · rw [if_pos h1]; simp [h1]
  · rw [if_neg h1]
    by_cases h2 : low > 31
    · rw [if_pos h2]; simp [h2]
    · rw [if_neg h2]; simp [h1]; omega

theorem mask_eq (n : Int) (h : 1 ≤ n) : bits_mask.f n = some (B (Mi n)) := by
  unfold bits_mask.f Mi
  split
  · rfl
  · rw [if_pos (by omega), mask_B n (by omega) (by omega)]

theorem Field_eq (x : BitVec 32) (low n : Int) : bits_Field.f (B x) low n = some (B (fieldv x low n)) := by
  unfold bits_Field.f fieldv
  rw [outside_eq]; rw [bs]; try dsimp only
  by_cases h : low < 0 ∨ low > 31 ∨ n < 1
  · rw [if_pos (by simpa using h), if_pos h]; rfl
  · rw [if_neg (by simpa using h), if_neg h, if_pos (by omega), mask_eq n (by omega)]; rw [bs]; try dsimp only
    rw [shr_B, and_B]

theorem Load_eq (l : List Int) (hw : Ws l) (a s : Int) (ha : 0 ≤ a ∧ a ≤ 4294967295) : memory_Load.f l a s = some (loadv l a s) := by
  unfold memory_Load.f loadv
  rw [within_eq l a s ha]; rw [bs]; try dsimp only
  by_cases h : withinv l a s
  · have hi := within_idx h ha.1
    have e1 : Int.tdiv a 4 % 4294967296 = a / 4 := by rw [Int.tdiv_eq_ediv_of_nonneg ha.1]; omega
    have e2a : wrap64 (Int.tmod a 4) = a % 4 := by rw [Int.tmod_eq_emod_of_nonneg ha.1]; exact w64 (by omega) (by omega)
    have e2 : wrap64 (8 * wrap64 (Int.tmod a 4)) = 8 * (a % 4) := by rw [e2a]; exact w64 (by omega) (by omega)
    rw [if_pos (decide_eq_true h), if_pos h, e1, e2, if_pos (by omega), if_pos hi.1]
    unfold getw
    by_cases hs : s = 1
    · rw [if_pos hs, if_pos hs, ← B_W (hw.at_ (a / 4)), Field_eq, W_B]; rfl
    · rw [if_neg hs, if_neg hs]
  · have : ¬ decide (withinv l a s) = true := by simpa using h
    rw [if_neg this, if_neg h]

theorem clone_eq (l : List Int) (h : l.length ≤ 70368744177664) : memory_clone.f l = some l := by unfold memory_clone.f; rw [if_pos h]

theorem SetField_eq (x : BitVec 32) (low n : Int) (v : BitVec 32) : bits_SetField.f (B x) low n (B v) = some (B (setv x low n v)) := by
  unfold bits_SetField.f setv
  rw [outside_eq]; rw [bs]; try dsimp only
  by_cases h : low < 0 ∨ low > 31 ∨ n < 1
  · rw [if_pos (by simpa using h), if_pos h]
  · rw [if_neg (by simpa using h), if_neg h, mask_eq n (by omega)]; rw [bs]; try dsimp only
    rw [if_pos (by omega), shl_B, shl_B, andNot_B, and_B, or_B]

theorem Store_eq (l : List Int) (hl : l.length ≤ 70368744177664) (hw : Ws l) (a s v : Int) (ha : 0 ≤ a ∧ a ≤ 4294967295) (hv : 0 ≤ v ∧ v ≤ 4294967295) : memory_Store.f l a s v = some (storev l a s v) := by
  unfold memory_Store.f storev
  rw [clone_eq l hl]; rw [bs]; try dsimp only
  rw [within_eq l a s ha]; rw [bs]; try dsimp only
  by_cases h : withinv l a s
  · have hi := within_idx h ha.1
    have e1 : Int.tdiv a 4 % 4294967296 = a / 4 := by rw [Int.tdiv_eq_ediv_of_nonneg ha.1]; omega
    have e2a : wrap64 (Int.tmod a 4) = a % 4 := by rw [Int.tmod_eq_emod_of_nonneg ha.1]; exact w64 (by omega) (by omega)
    have e2 : wrap64 (8 * wrap64 (Int.tmod a 4)) = 8 * (a % 4) := by rw [e2a]; exact w64 (by omega) (by omega)
    rw [if_pos (decide_eq_true h), if_pos h, e1, e2]
    unfold put
    by_cases hs : s = 1
    · rw [if_pos hs, if_pos (by omega), if_pos hi.1, if_pos hs, ← B_W (hw.at_ (a / 4))]
      conv => lhs; rw [← B_W hv]
      rw [SetField_eq]; rw [bs]; try dsimp only
      rw [if_pos hi.1, W_B]
    · rw [if_neg hs, if_pos (by omega), if_pos hi.1, if_neg hs]
  · have : ¬ decide (withinv l a s) = true := by simpa using h
    rw [if_neg this, if_neg h]

theorem New_eq (n : Int) : memory_New.f n = some (if 1 ≤ n ∧ n ≤ 32 then List.replicate (32 * n.toNat) 0 else []) := by
  unfold memory_New.f
  by_cases h1 : n < 1
  · rw [if_pos h1, if_neg (by omega)]
  · rw [if_neg h1]
    by_cases h2 : n > 32
    · rw [if_pos h2, if_neg (by omega)]
    · have e : wrap64 (n * 32) = n * 32 := w64 (by omega) (by omega)
      have e2 : (n * 32).toNat = 32 * n.toNat := by omega
      rw [if_neg h2, e, if_pos (by omega), if_pos (by omega), if_pos (by omega), e2]

theorem awake_ends : vmfleetlaw4_awake.f = some true := by kernel_rfl

theorem text_eq (l : List Int) (h : l.length ≤ 17592186044416) : memory_text.f l = some (strOfNums (l.flatMap b4)) := by
  unfold memory_text.f; rw [if_pos h]; rfl

/-- One step of the hash. -/
def hstep (h : Int) (b : UInt8) : Int := IntKind.u64.wrap ((Go.bits .xor .u64 h (IntKind.u64.wrap (b.toNat : Int))) * 1099511628211)
def hash (h : Int) (s : List UInt8) : Int := s.foldl hstep h
theorem bt_eq (s : ByteArray) (i : Nat) (h : i < s.size) : bt s (i : Int) = ((s.data.toList[i]'(by simpa using h)).toNat : Int) := by
  unfold bt; rw [dif_pos (by simpa using h)]; rfl
theorem Hash_from (s : ByteArray) (hs : s.size ≤ 9000000000000000000) (d : Nat) : ∀ (h : Int) (i k : Nat), i ≤ s.size → s.size - i = d → d < k → bits_Hash.l0 k h s (s.size : Int) (i : Int) = some (hash h (s.data.toList.drop i)) := by
  induction d with
  | zero =>
    intro h i k hi hd hk
    obtain ⟨k, rfl⟩ : ∃ m, k = m + 1 := ⟨k - 1, by omega⟩
    simp only [bits_Hash.l0]
    rw [if_neg (by omega), List.drop_of_length_le (by simp; omega)]; rfl
  | succ d ih =>
    intro h i k hi hd hk
    obtain ⟨k, rfl⟩ : ∃ m, k = m + 1 := ⟨k - 1, by omega⟩
    simp only [bits_Hash.l0]
    have e : wrap64 ((i : Int) + 1) = ((i + 1 : Nat) : Int) := by rw [w64 (by omega) (by omega)]; simp
    rw [if_pos (by omega), if_pos (by omega), if_pos (by omega), e, ih _ (i + 1) k (by omega) (by omega) (by omega), bt_eq s i (by omega)]
    rw [List.drop_eq_getElem_cons (i := i) (by simp; omega)]; rfl
theorem Hash_eq (s : ByteArray) (hs : s.size ≤ 9000000000000000000) (h : Int) (k : Nat) (hk : s.size < k) : bits_Hash.f k h s = some (hash h s.data.toList) := by
  have := Hash_from s hs s.size h 0 k (by omega) (by omega) hk
  simpa [bits_Hash.f] using this

theorem mHash_eq (l : List Int) (h : l.length ≤ 17592186044416) (k : Nat) (hk : 4 * l.length < k) : memory_Hash.f k l = some (hash 14695981039346656037 (strOfNums (l.flatMap b4)).data.toList) := by
  have hz : (strOfNums (l.flatMap b4)).size = 4 * l.length := by rw [strOfNums_size, b4_len]
  unfold memory_Hash.f
  rw [text_eq l h, bs, Hash_eq _ (by omega) _ k (by omega), bs]

theorem bytesOf_strOfNums (l : List Int) (h : ∀ x ∈ l, 0 ≤ x ∧ x ≤ 255) : bytesOf (strOfNums l) = l := by
  unfold bytesOf
  rw [strOfNums_data, List.map_map]
  conv => rhs; rw [← List.map_id l]
  apply List.map_congr_left
  intro x hx
  have := h x hx
  simp only [Function.comp, UInt8.toNat_ofNat', id]
  omega
theorem b4_bytes (w : Int) : ∀ x ∈ b4 w, 0 ≤ x ∧ x ≤ 255 := by
  intro x hx
  simp only [b4, List.mem_cons, List.not_mem_nil, or_false] at hx
  omega
theorem Low_eq (x : Int) (k : Nat) (hk : 5 ≤ k) : vmfleetref1_Low.f k x 4 = some (strOfNums (b4 x)) := by
  obtain ⟨k, rfl⟩ : ∃ q, k = q + 5 := ⟨k - 5, by omega⟩
  have s0 : shr .u32 x 0 = x := by show x / 2 ^ 0 = x; simp
  have s1 : shr .u32 x 8 = x / 256 := by rfl
  have s2 : shr .u32 x 16 = x / 65536 := by rfl
  have s3 : shr .u32 x 24 = x / 16777216 := by rfl
  have w0 : IntKind.u64.wrap (wrap64 (8 * 0)) = 0 := by rw [w64 (by omega) (by omega), u64w (by omega) (by omega)]; rfl
  have w1 : IntKind.u64.wrap (wrap64 (8 * 1)) = 8 := by rw [w64 (by omega) (by omega), u64w (by omega) (by omega)]; rfl
  have w2 : IntKind.u64.wrap (wrap64 (8 * 2)) = 16 := by rw [w64 (by omega) (by omega), u64w (by omega) (by omega)]; rfl
  have w3 : IntKind.u64.wrap (wrap64 (8 * 3)) = 24 := by rw [w64 (by omega) (by omega), u64w (by omega) (by omega)]; rfl
  have a0 : wrap64 (0 + 1) = 1 := by rw [w64 (by omega) (by omega)]; rfl
  have a1 : wrap64 (1 + 1) = 2 := by rw [w64 (by omega) (by omega)]; rfl
  have a2 : wrap64 (2 + 1) = 3 := by rw [w64 (by omega) (by omega)]; rfl
  have a3 : wrap64 (3 + 1) = 4 := by rw [w64 (by omega) (by omega)]; rfl
  unfold vmfleetref1_Low.f
  simp only [vmfleetref1_Low.l0]
  rw [if_pos (by decide), w0, s0, if_pos (by decide), if_pos (by decide), a0]
  rw [if_pos (by decide), w1, s1, if_pos (by decide), if_pos (by simp), a1]
  rw [if_pos (by decide), w2, s2, if_pos (by decide), if_pos (by simp), a2]
  rw [if_pos (by decide), w3, s3, if_pos (by decide), if_pos (by simp), a3, if_neg (by decide)]
  rfl

theorem rHash_from (s : ByteArray) (hs : s.size ≤ 9000000000000000000) (d : Nat) : ∀ (h : Int) (i k : Nat), i ≤ s.size → s.size - i = d → d < k → vmfleetref1_Hash.l0 k h s (i : Int) = some (hash h (s.data.toList.drop i)) := by
  induction d with
  | zero =>
    intro h i k hi hd hk
    obtain ⟨k, rfl⟩ : ∃ m, k = m + 1 := ⟨k - 1, by omega⟩
    simp only [vmfleetref1_Hash.l0]
    rw [if_neg (by omega), List.drop_of_length_le (by simp; omega)]; rfl
  | succ d ih =>
    intro h i k hi hd hk
    obtain ⟨k, rfl⟩ : ∃ m, k = m + 1 := ⟨k - 1, by omega⟩
    simp only [vmfleetref1_Hash.l0]
    have e : wrap64 ((i : Int) + 1) = ((i + 1 : Nat) : Int) := by rw [w64 (by omega) (by omega)]; simp
    rw [if_pos (by omega), if_pos (by omega), e, ih _ (i + 1) k (by omega) (by omega) (by omega), bt_eq s i (by omega)]
    rw [List.drop_eq_getElem_cons (i := i) (by simp; omega)]; rfl
theorem rHash_eq (s : ByteArray) (hs : s.size ≤ 9000000000000000000) (h : Int) (k : Nat) (hk : s.size < k) : vmfleetref1_Hash.f k h s = some (hash h s.data.toList) := by
  have := rHash_from s hs s.size h 0 k (by omega) (by omega) hk
  simpa [vmfleetref1_Hash.f] using this

theorem hash_app (h : Int) (x y : List UInt8) : hash h (x ++ y) = hash (hash h x) y := List.foldl_append
theorem rHW_from (l : List Int) (hl : l.length ≤ 100000) (d : Nat) : ∀ (i k : Nat) (h : Int), i ≤ l.length → l.length - i = d → d + 6 < k → vmfleetref1_HashWords.l0 k l h (i : Int) = some (hash h (((l.drop i).flatMap b4).map fun n => UInt8.ofNat n.toNat)) := by
  induction d with
  | zero =>
    intro i k h h1 h2 h3
    obtain ⟨k, rfl⟩ : ∃ q, k = q + 1 := ⟨k - 1, by omega⟩
    simp only [vmfleetref1_HashWords.l0]
    rw [if_neg (by omega), List.drop_of_length_le (by omega)]; rfl
  | succ d ih =>
    intro i k h h1 h2 h3
    obtain ⟨k, rfl⟩ : ∃ q, k = q + 1 := ⟨k - 1, by omega⟩
    simp only [vmfleetref1_HashWords.l0]
    have e6 := Aside0.mk (w64n (a := (i : Int) + 1) (n := i + 1) (by omega) (by omega))
    have hb : (strOfNums (b4 (rd l (i : Int)))).size = 4 := by rw [strOfNums_size]; rfl
    have hrd : rd l (i : Int) = l[i]'(by omega) := by unfold rd; rw [Int.toNat_natCast, List.getD_eq_getElem?_getD, List.getElem?_eq_getElem (by omega)]; rfl
    rw [if_pos (by omega), if_pos (by omega), Low_eq _ k (by omega), bs, rHash_eq _ (by omega) h k (by omega), bs, e6.out, ih (i + 1) k _ (by omega) (by omega) (by omega)]
    rw [List.drop_eq_getElem_cons (i := i) (by omega), List.flatMap_cons, List.map_append, hash_app, hrd, strOfNums_data]
theorem rHW_eq (l : List Int) (hl : l.length ≤ 100000) (k : Nat) (hk : l.length + 6 < k) : vmfleetref1_HashWords.f k l = some (hash 14695981039346656037 (strOfNums (l.flatMap b4)).data.toList) := by
  have := rHW_from l hl l.length 0 k 14695981039346656037 (by omega) (by omega) hk
  rw [Int.natCast_zero, List.drop_zero] at this
  unfold vmfleetref1_HashWords.f
  rw [this, strOfNums_data]

theorem SameInts_from (a : List Int) (hb : a.length ≤ 140737488355328) (d : Nat) : ∀ (i k : Nat), i ≤ a.length → a.length - i = d → d < k → vmfleetref1_SameInts.l0 k a a (i : Int) = some true := by
  induction d with
  | zero =>
    intro i k h1 h2 h3
    obtain ⟨k, rfl⟩ : ∃ q, k = q + 1 := ⟨k - 1, by omega⟩
    simp only [vmfleetref1_SameInts.l0]
    rw [if_neg (by omega)]
  | succ d ih =>
    intro i k h1 h2 h3
    obtain ⟨k, rfl⟩ : ∃ q, k = q + 1 := ⟨k - 1, by omega⟩
    simp only [vmfleetref1_SameInts.l0]
    have e1 : wrap64 ((i : Int) + 1) = ((i + 1 : Nat) : Int) := by rw [w64 (by omega) (by omega)]; simp
    rw [if_pos (by omega), if_pos (by omega), if_pos (by omega), if_pos trivial, e1, ih (i + 1) k (by omega) (by omega) (by omega)]
theorem SameInts_same (a : List Int) (hb : a.length ≤ 140737488355328) (k : Nat) (hk : a.length < k) : vmfleetref1_SameInts.f k a a = some true := by
  unfold vmfleetref1_SameInts.f
  have := SameInts_from a hb a.length 0 k (by omega) (by omega) hk
  rw [Int.natCast_zero] at this
  rw [if_pos rfl, this]

theorem Ch_inner (a b : List Int) (n p : Nat) (out : List Int) (ho : out.length ≤ 1000) (hp : p < n) (hn : n ≤ 32) (ha : 32 * n ≤ a.length) (hb : 32 * n ≤ b.length) (d : Nat) : ∀ (j k : Nat), j ≤ 32 → 32 - j = d → d < k →
    ∃ k', k' + 1 + d ≥ k ∧ k' < k ∧ memory_Changed.l1 k a b out (p : Int) (n : Int) (p : Int) (j : Int) = memory_Changed.l0 k' a b (if ((List.range 32).drop j).any (fun q => rd a ((32 * p + q : Nat) : Int) != rd b ((32 * p + q : Nat) : Int)) then out ++ [(p : Int)] else out) (n : Int) ((p + 1 : Nat) : Int) := by
  induction d with
  | zero =>
    intro j k h1 h2 h3
    obtain ⟨k, rfl⟩ : ∃ q, k = q + 1 := ⟨k - 1, by omega⟩
    obtain rfl : j = 32 := by omega
    have e1 := Aside0.mk (w64n (a := (p : Int) + 1) (n := p + 1) (by omega) (by omega))
    refine ⟨k, by omega, by omega, ?_⟩
    simp only [memory_Changed.l1]
    rw [if_neg (by omega), e1.out]; rfl
  | succ d ih =>
    intro j k h1 h2 h3
    obtain ⟨k, rfl⟩ : ∃ q, k = q + 1 := ⟨k - 1, by omega⟩
    have e1 := Aside0.mk (w64n (a := (p : Int) + 1) (n := p + 1) (by omega) (by omega))
    have e2 := Aside0.mk (w64n (a := (j : Int) + 1) (n := j + 1) (by omega) (by omega))
    have e3 := Aside0.mk (w64 (n := (p : Int) * 32) (by omega) (by omega))
    have e4 := Aside0.mk (w64n (a := (p : Int) * 32 + (j : Int)) (n := 32 * p + j) (by omega) (by omega))
    have hd : (List.range 32).drop j = j :: (List.range 32).drop (j + 1) := by rw [List.drop_eq_getElem_cons (by simp; omega)]; simp
    simp only [memory_Changed.l1]
    rw [if_pos (by omega), e3.out, e4.out, if_pos (by omega), if_pos (by omega), if_pos (by omega), hd]
    by_cases h : rd a ((32 * p + j : Nat) : Int) = rd b ((32 * p + j : Nat) : Int)
    · clear e1
      obtain ⟨k', h5, h6, h7⟩ := ih (j + 1) k (by omega) (by omega) (by omega)
      refine ⟨k', by omega, by omega, ?_⟩
      rw [if_pos h, e2.out, h7, List.any_cons]
      have : (rd a ((32 * p + j : Nat) : Int) != rd b ((32 * p + j : Nat) : Int)) = false := bne_eq_false_iff_eq.2 h
      rw [this, Bool.false_or]
    · refine ⟨k, by omega, by omega, ?_⟩
      rw [if_neg h, if_pos (by omega), e1.out, List.any_cons]
      have : (rd a ((32 * p + j : Nat) : Int) != rd b ((32 * p + j : Nat) : Int)) = true := bne_iff_ne.2 h
      rw [this, Bool.true_or, if_pos rfl]
/-- Does page p differ? -/
def diffp (a b : List Int) (p : Nat) : Bool := (List.range 32).any (fun q => rd a ((32 * p + q : Nat) : Int) != rd b ((32 * p + q : Nat) : Int))
theorem Ch_from (a b : List Int) (n : Nat) (hn : n ≤ 32) (ha : 32 * n ≤ a.length) (hb : 32 * n ≤ b.length) (d : Nat) : ∀ (p k : Nat) (out : List Int), p ≤ n → n - p = d → 40 * d < k → out.length ≤ p →
    memory_Changed.l0 k a b out (n : Int) (p : Int) = some (out ++ (((List.range n).drop p).filter (diffp a b)).map Int.ofNat) := by
  induction d with
  | zero =>
    intro p k out h1 h2 h3 h4
    obtain ⟨k, rfl⟩ : ∃ q, k = q + 1 := ⟨k - 1, by omega⟩
    simp only [memory_Changed.l0]
    rw [if_neg (by omega), List.drop_of_length_le (by simp; omega)]; simp
  | succ d ih =>
    intro p k out h1 h2 h3 h4
    obtain ⟨k, rfl⟩ : ∃ q, k = q + 1 := ⟨k - 1, by omega⟩
    simp only [memory_Changed.l0]
    rw [if_pos (by omega)]
    obtain ⟨k', h5, h6, h7⟩ := Ch_inner a b n p out (by omega) (by omega) hn ha hb 32 0 k (by omega) (by omega) (by omega)
    rw [Int.natCast_zero] at h7
    rw [h7, List.drop_zero]
    have hd : (List.range n).drop p = p :: (List.range n).drop (p + 1) := by rw [List.drop_eq_getElem_cons (by simp; omega)]; simp
    have hdf : ((List.range 32).any (fun q => rd a ((32 * p + q : Nat) : Int) != rd b ((32 * p + q : Nat) : Int))) = diffp a b p := rfl
    rw [hdf, hd, List.filter_cons]
    by_cases hdp : diffp a b p = true
    · rw [if_pos hdp, if_pos hdp, ih (p + 1) k' _ (by omega) (by omega) (by omega) (by simp; omega)]
      simp
    · rw [if_neg hdp, if_neg hdp, ih (p + 1) k' _ (by omega) (by omega) (by omega) (by omega)]
/-- The pages that differ. -/
def chv (a b : List Int) : List Int := if pagesv a = pagesv b then ((List.range (pagesv a).toNat).filter (diffp a b)).map Int.ofNat else []
theorem Changed_eq (a b : List Int) (k : Nat) (hk : 1300 < k) : memory_Changed.f k a b = some (chv a b) := by
  have hp := pagesv_le a
  have hq := pagesv_le b
  unfold memory_Changed.f chv
  rw [Pages_eq, bs, Pages_eq, bs]
  by_cases h : pagesv a = pagesv b
  · rw [if_pos h, if_pos h, bs]
    have e : pagesv a = (((pagesv a).toNat : Nat) : Int) := by omega
    have := Ch_from a b (pagesv a).toNat (by omega) (by omega) (by omega) (pagesv a).toNat 0 k [] (by omega) (by omega) (by omega) (by simp)
    rw [Int.natCast_zero, List.drop_zero, List.nil_append, ← e] at this
    exact this
  · rw [if_neg h, if_neg h]
theorem chv_same (a : List Int) : chv a a = [] := by
  unfold chv; rw [if_pos rfl]
  have : (List.range (pagesv a).toNat).filter (diffp a a) = [] := by
    rw [List.filter_eq_nil_iff]; intro p _; unfold diffp; simp
  rw [this]; rfl

theorem Same_from (a b : List Int) (hl : a.length = b.length) (hb : a.length ≤ 140737488355328) (d : Nat) : ∀ (i k : Nat), i ≤ a.length → a.length - i = d → d < k → vmfleetref1_SameWords.l0 k a b (i : Int) = some (decide (a.drop i = b.drop i)) := by
  induction d with
  | zero =>
    intro i k h1 h2 h3
    obtain ⟨k, rfl⟩ : ∃ q, k = q + 1 := ⟨k - 1, by omega⟩
    simp only [vmfleetref1_SameWords.l0]
    rw [if_neg (by omega), List.drop_of_length_le (by omega), List.drop_of_length_le (by omega)]; rfl
  | succ d ih =>
    intro i k h1 h2 h3
    obtain ⟨k, rfl⟩ : ∃ q, k = q + 1 := ⟨k - 1, by omega⟩
    simp only [vmfleetref1_SameWords.l0]
    have e1 : wrap64 ((i : Int) + 1) = ((i + 1 : Nat) : Int) := by rw [w64 (by omega) (by omega)]; simp
    have ha : rd a (i : Int) = a[i]'(by omega) := by unfold rd; rw [Int.toNat_natCast, List.getD_eq_getElem?_getD, List.getElem?_eq_getElem (by omega)]; rfl
    have hb2 : rd b (i : Int) = b[i]'(by omega) := by unfold rd; rw [Int.toNat_natCast, List.getD_eq_getElem?_getD, List.getElem?_eq_getElem (by omega)]; rfl
    rw [if_pos (by omega), if_pos (by omega), if_pos (by omega), e1, ih (i + 1) k (by omega) (by omega) (by omega), ha, hb2,
      List.drop_eq_getElem_cons (show i < a.length by omega), List.drop_eq_getElem_cons (show i < b.length by omega)]
    by_cases h : a[i]'(by omega) = b[i]'(by omega)
    · rw [if_pos h, h]; exact congrArg some (decide_eq_decide.2 ⟨fun e => by rw [e], fun e => (List.cons.inj e).2⟩)
    · rw [if_neg h]; exact congrArg some (decide_eq_false (fun e => h (List.cons.inj e).1)).symm
theorem Same_eq (a b : List Int) (hb : a.length ≤ 140737488355328) (k : Nat) (hk : a.length < k) : vmfleetref1_SameWords.f k a b = some (decide (a = b)) := by
  unfold vmfleetref1_SameWords.f
  by_cases h : (a.length : Int) = (b.length : Int)
  · have := Same_from a b (by omega) hb a.length 0 k (by omega) (by omega) hk
    rw [Int.natCast_zero, List.drop_zero, List.drop_zero] at this
    rw [if_pos h, this]
  · rw [if_neg h]; exact congrArg some (decide_eq_false (fun e => h (by rw [e]))).symm

theorem rPages_eq (l : List Int) : vmfleetref1_Pages.f l = some (pagesv l) := by
  unfold vmfleetref1_Pages.f pagesv
  by_cases h : (l.length : Int) % 32 = 0
  · rw [if_pos h]
    by_cases h2 : (l.length : Int) > 1024
    · rw [if_pos h2, if_neg (by omega)]
    · rw [if_neg h2, if_pos (by omega), w64 (by omega) (by omega)]; simp
  · rw [if_neg h, if_neg (by omega)]

theorem rd_page (a : List Int) (p q : Nat) (hq : q < 32) : ((a.take (32 * (p + 1))).drop (32 * p)).getD q 0 = rd a ((32 * p + q : Nat) : Int) := by
  unfold rd
  rw [Int.toNat_natCast, List.getD_eq_getElem?_getD, List.getD_eq_getElem?_getD, List.getElem?_drop, List.getElem?_take_of_lt (by omega)]
theorem diffp_page (a b : List Int) (p : Nat) (ha : 32 * (p + 1) ≤ a.length) (hb : 32 * (p + 1) ≤ b.length) : decide ((a.take (32 * (p + 1))).drop (32 * p) = (b.take (32 * (p + 1))).drop (32 * p)) = !(diffp a b p) := by
  have la : ((a.take (32 * (p + 1))).drop (32 * p)).length = 32 := by simp; omega
  have lb : ((b.take (32 * (p + 1))).drop (32 * p)).length = 32 := by simp; omega
  by_cases h : (a.take (32 * (p + 1))).drop (32 * p) = (b.take (32 * (p + 1))).drop (32 * p)
  · rw [decide_eq_true h]
    have : diffp a b p = false := by
      unfold diffp
      rw [List.any_eq_false]
      intro q hq
      have hq2 : q < 32 := by simpa using hq
      have e1 := rd_page a p q hq2
      have e2 := rd_page b p q hq2
      rw [h, e2] at e1
      rw [e1]; simp
    rw [this]; rfl
  · rw [decide_eq_false h]
    have : diffp a b p = true := by
      cases hd : diffp a b p with
      | true => rfl
      | false =>
        exfalso; apply h
        unfold diffp at hd
        rw [List.any_eq_false] at hd
        apply List.ext_getElem (by omega)
        intro q h1 h2
        have hq2 : q < 32 := by omega
        have := hd q (by simpa using hq2)
        have e1 := rd_page a p q hq2
        have e2 := rd_page b p q hq2
        rw [List.getD_eq_getElem?_getD, List.getElem?_eq_getElem h1] at e1
        rw [List.getD_eq_getElem?_getD, List.getElem?_eq_getElem h2] at e2
        have e3 : rd a ((32 * p + q : Nat) : Int) = rd b ((32 * p + q : Nat) : Int) := by simpa using this
        rw [e3, ← e2] at e1
        exact e1
    rw [this]; rfl
theorem rCh_from (a b : List Int) (n : Nat) (hn : n ≤ 32) (hpa : pagesv a = (n : Int)) (hla : a.length ≤ 1024) (hlb : b.length = a.length) (d : Nat) : ∀ (p k : Nat) (out : List Int), p ≤ n → n - p = d → 40 * d < k → 40 < k → out.length ≤ p →
    vmfleetref1_Changed.l0 k a b out (p : Int) = some (out ++ (((List.range n).drop p).filter (diffp a b)).map Int.ofNat) := by
  have hp := pagesv_le a
  induction d with
  | zero =>
    intro p k out h1 h2 h3 h3' h4
    obtain ⟨k, rfl⟩ : ∃ q, k = q + 1 := ⟨k - 1, by omega⟩
    simp only [vmfleetref1_Changed.l0]
    rw [rPages_eq, bs, if_neg (by omega), List.drop_of_length_le (by simp; omega)]; simp
  | succ d ih =>
    intro p k out h1 h2 h3 h3' h4
    obtain ⟨k, rfl⟩ : ∃ q, k = q + 1 := ⟨k - 1, by omega⟩
    have e1 := Aside0.mk (w64n (a := (p : Int) + 1) (n := p + 1) (by omega) (by omega))
    have e2 := Aside0.mk (w64n (a := (p : Int) * 32) (n := 32 * p) (by omega) (by omega))
    have e3 := Aside0.mk (w64n (a := ((p + 1 : Nat) : Int) * 32) (n := 32 * (p + 1)) (by omega) (by omega))
    simp only [vmfleetref1_Changed.l0]
    rw [rPages_eq, bs, if_pos (by omega), e1.out, e2.out, e3.out]
    clear e1 e2 e3
    have e4 : ((32 * (p + 1) : Nat) : Int).toNat = 32 * (p + 1) := Int.toNat_natCast _
    have e5 : ((32 * p : Nat) : Int).toNat = 32 * p := Int.toNat_natCast _
    have hd : (List.range n).drop p = p :: (List.range n).drop (p + 1) := by rw [List.drop_eq_getElem_cons (by simp; omega)]; simp
    rw [if_pos (by omega), if_pos (by omega), if_pos (by omega), if_pos (by omega), e4, e5, Same_eq _ _ (by simp; omega) k (by simp; omega), bs, diffp_page a b p (by omega) (by omega), hd, List.filter_cons]
    by_cases hdp : diffp a b p = true
    · rw [hdp, if_neg (by simp), if_pos (by omega), if_pos rfl]
      cases d with
      | zero =>
        obtain ⟨k, rfl⟩ : ∃ q, k = q + 1 := ⟨k - 1, by omega⟩
        simp only [vmfleetref1_Changed.l0]
        rw [rPages_eq, bs, if_neg (by omega), List.drop_of_length_le (by simp; omega)]; simp
      | succ d =>
        rw [ih (p + 1) k _ (by omega) (by omega) (by omega) (by omega) (by simp; omega)]
        simp
    · have hdf : diffp a b p = false := by simpa using hdp
      rw [hdf, if_pos (by simp), if_neg (by simp)]
      cases d with
      | zero =>
        obtain ⟨k, rfl⟩ : ∃ q, k = q + 1 := ⟨k - 1, by omega⟩
        simp only [vmfleetref1_Changed.l0]
        rw [rPages_eq, bs, if_neg (by omega), List.drop_of_length_le (by simp; omega)]; simp
      | succ d =>
        rw [ih (p + 1) k _ (by omega) (by omega) (by omega) (by omega) (by omega)]
theorem rChanged_eq (a b : List Int) (hla : a.length ≤ 1024) (hlb : b.length ≤ 1024) (k : Nat) (hk : 1400 < k) : vmfleetref1_Changed.f k a b = some (chv a b) := by
  have hp := pagesv_le a
  unfold vmfleetref1_Changed.f chv
  by_cases h : (a.length : Int) = (b.length : Int)
  · rw [if_pos h, if_pos (pagesv_congr (by omega))]
    have e : pagesv a = (((pagesv a).toNat : Nat) : Int) := by omega
    have := rCh_from a b (pagesv a).toNat (by omega) e hla (by omega) (pagesv a).toNat 0 k [] (by omega) (by omega) (by omega) (by omega) (by simp)
    rw [Int.natCast_zero, List.drop_zero, List.nil_append] at this
    exact this
  · rw [if_neg h]
    by_cases h2 : pagesv a = pagesv b
    · have h3 : pagesv a = 0 := by
        unfold pagesv at h2 ⊢
        split at h2 <;> split at h2 <;> omega
      rw [if_pos h2, h3]; rfl
    · rw [if_neg h2]
theorem chv_len (a b : List Int) : (chv a b).length ≤ 32 := by
  have hp := pagesv_le a
  unfold chv
  split
  · rw [List.length_map]
    refine Nat.le_trans (List.length_filter_le _ _) ?_
    rw [List.length_range]; omega
  · simp

theorem MemoryHashes : vmfleetlaw4_MemoryHashes.Pure := by
  intro x y raw l l' p p' h0 h1 h2 h3 h4 h5 h6 h7 h8 h9 h10 h11 h12 h13
  obtain ⟨m, em, lm, wm⟩ := shaped_any x raw l p (by unfold maxLen at h6; omega) (ws_of h2)
  obtain ⟨n, en, ln, wn⟩ := shaped_any y raw l' p' (by unfold maxLen at h9; omega) (ws_of h5)
  have hc := chv_len m n
  refine ⟨5000, ?_⟩
  unfold vmfleetlaw4_MemoryHashes.f
  rw [em 5000 (by omega), bs, en 5000 (by omega), bs, mHash_eq m (by omega) 5000 (by omega), bs, rHW_eq m (by omega) 5000 (by omega), bs, if_pos rfl,
    Changed_eq m n 5000 (by omega), bs, rChanged_eq m n lm ln 5000 (by omega), bs, SameInts_same _ (by omega) 5000 (by omega), bs, if_pos rfl,
    Changed_eq m m 5000 (by omega), bs, chv_same, if_pos (by rfl), awake_ends, bs]

end Go.Proofs.Ytdaeflafdnlceaa.Pure
