/- The walks of WordBack, WordSigns, WordHeld, WordOrder. -/
import Derived.Test.YtekehogcbngjoaaPlain1
import Derived.Test.YtekehogcbngjoaaWalks1
namespace Go.Proofs.Ytekehogcbngjoaa
open Go.RowKit
set_option linter.unusedSimpArgs false
set_option linter.unusedVariables false

theorem u8_open {a : Int} (h : (Lit.int .u8 a).wf = true) : ∃ x : Nat, a = (x : Int) ∧ x < 256 := by
  have h2 := h
  simp [Lit.wf, IntKind.min, IntKind.max, IntKind.signed, IntKind.bits] at h2
  exact ⟨a.toNat, by omega, by omega⟩
theorem bytes_size (v : BitVec 64) (m : Nat) : (bytesB v m).size ≤ 140737488351232 := by
  show (bytesL v m).toArray.size ≤ _
  unfold bytesL; simp; omega
set_option maxHeartbeats 8000000 in
set_option maxRecDepth 100000 in
theorem walkWordBack (a0 a1 a2 a3 : Int) (w0 : (Lit.int .u64 a0).wf = true) (w1 : (Lit.int .u64 a1).wf = true) (w2 : (Lit.int .u8 a2).wf = true) (w3 : (Lit.int .u8 a3).wf = true) (w : World) :
    Calls Try.prog 4 #[.int .u64 a0, .int .u64 a1, .int .u8 a2, .int .u8 a3] w fun e w' => e = .returned (.bool true) ∧ Below w.heap.size w w' := by
  obtain ⟨v, rfl⟩ := u64_open w0
  obtain ⟨x, rfl⟩ := u64_open w1
  obtain ⟨lo, rfl, hlo⟩ := u8_open w2
  obtain ⟨n, rfl, hn⟩ := u8_open w3
  clear w0 w1 w2 w3
  have HB := Below.refl w.heap.size w
  obtain ⟨l, hl⟩ : ∃ l : Nat, l = lo % 64 := ⟨_, rfl⟩
  obtain ⟨k, hk⟩ : ∃ k : Nat, k = n % (65 - l) := ⟨_, rfl⟩
  have hk2 : k < 65 - l := by rw [hk]; exact Nat.mod_lt _ (by omega)
  have e1 : ((lo : Int) % 64) = (l : Int) := by omega
  have e2 : ((n : Int) % (65 - (l : Int))) = (k : Int) := by rw [hk, Int.natCast_emod]; congr 1; omega
  have f1 : loOf (l : Int) = l := by rw [loOf_in (by omega) (by omega)]; omega
  have f2 : nOf (l : Int) (k : Int) = k := by rw [nOf_in (by omega) (by omega) (by omega) (by omega)]; omega
  have f3 : loOf 0 = 0 := by rw [loOf_in (by omega) (by omega)]; rfl
  have f4 : nOf 0 (k : Int) = k := by rw [nOf_in (by omega) (by omega) (by omega) (by omega)]; omega
  have f5 : held 0 8 8 = 8 := by decide
  have f6 : nOf 0 64 = 64 := by decide
  have q1 := bits_set v x l k (by omega)
  have q2 := set_back v x l k (by omega)
  have q3 := get_all v
  have q4 := get_one v (l / 8) (by omega)
  have q5 := bits_all v
  have q6 : loOf ((l : Int) / 8 * 8) = 8 * (l / 8) := by rw [loOf_in (by omega) (by omega)]; omega
  have q7 : nOf ((l : Int) / 8 * 8) 8 = 8 := by rw [nOf_in (by omega) (by omega) (by omega) (by omega)]; rfl
  have q8 : ((l / 8 : Nat) : Int) = (l : Int) / 8 := by omega
  rw [q8] at q4
  have hl2 : (l : Int) ≤ 63 := by omega
  have hk3 : (k : Int) ≤ 64 - (l : Int) := by omega
  have hsz := bytes_size v 8
  clear hl hk hk2 q8
  go_enter Try.func4, Try.ntmps4
  go_wp2_with (first
    | (go_at_call 13; refine (known_b.on HB).mono ?_; clear HB; rintro e w' ⟨rfl, HB⟩)
    | (go_at_call 14; refine ((sext_b _ _).on HB).mono ?_; clear HB; rintro e w' ⟨rfl, HB⟩)
    | (go_at_call 16; refine ((zext_b _ _).on HB).mono ?_; clear HB; rintro e w' ⟨rfl, HB⟩)
    | (go_at_call 18; refine ((bits_b _ _ _).on HB).mono ?_; clear HB; rintro e w' ⟨rfl, HB⟩)
    | (go_at_call 20; refine ((set_b _ _ _ _).on HB).mono ?_; clear HB; rintro e w' ⟨rfl, HB⟩)
    | (go_at_call 22; refine ((get_b _ _ _ (by first | exact bytes_size _ _)).on HB).mono ?_; clear HB; rintro e w' ⟨rfl, HB⟩)
    | (go_at_call 24; refine ((bytes_b _ _).on HB).mono ?_; clear HB; rintro e w' ⟨rfl, HB⟩)
    | (go_at_call 26; refine ((high_b _ _).on HB).mono ?_; clear HB; rintro e w' ⟨rfl, HB⟩))
  go_ret
  exact ⟨rfl, HB⟩
theorem min_run {P : Program} (ats : Array TypeId) (ty : TypeId) (k : IntKind) (a b c : Int) (h : (if b < a then b else a) = c) (W : World) : (Builtin.min_ ats ty #[.int k a, .int k b]).run P W = .ok (.int k c) W := by
  have e : Builtin.min_ ats ty #[.int k a, .int k b] = pure (.int k c) := by rw [← h]; simp [Builtin.min_, Builtin.min2]
  rw [e]; rfl
theorem max_run {P : Program} (ats : Array TypeId) (ty : TypeId) (k : IntKind) (a b c : Int) (h : (if a < b then b else a) = c) (W : World) : (Builtin.max_ ats ty #[.int k a, .int k b]).run P W = .ok (.int k c) W := by
  have e : Builtin.max_ ats ty #[.int k a, .int k b] = pure (.int k c) := by rw [← h]; simp [Builtin.max_, Builtin.max2]
  rw [e]; rfl
theorem name_int (a : Int) : ∃ b : Int, a = b := ⟨a, rfl⟩
set_option maxHeartbeats 8000000 in
set_option maxRecDepth 100000 in
theorem walkWordHeld (a0 a1 a2 a3 : Int) (w0 : (Lit.int .u64 a0).wf = true) (w1 : (Lit.int .u64 a1).wf = true) (w2 : (Lit.int .i64 a2).wf = true) (w3 : (Lit.int .i64 a3).wf = true) (w : World) :
    Calls Try.prog 7 #[.int .u64 a0, .int .u64 a1, .int .i64 a2, .int .i64 a3] w fun e w' => e = .returned (.bool true) ∧ Below w.heap.size w w' := by
  obtain ⟨v, rfl⟩ := u64_open w0
  obtain ⟨x, rfl⟩ := u64_open w1
  clear w0 w1 w2 w3
  have HB := Below.refl w.heap.size w
  obtain ⟨m1, h1⟩ := name_int (if 63 < a2 then 63 else a2)
  obtain ⟨l, h2⟩ := name_int (if 0 < m1 then m1 else 0)
  obtain ⟨m3, h3⟩ := name_int (if 64 - l < a3 then 64 - l else a3)
  obtain ⟨k, h4⟩ := name_int (if 0 < m3 then m3 else 0)
  obtain ⟨m5, h5⟩ := name_int (if 64 < a3 then 64 else a3)
  obtain ⟨n6, h6⟩ := name_int (if 1 < m5 then m5 else 1)
  obtain ⟨m7, h7⟩ := name_int (if 8 < a3 then 8 else a3)
  obtain ⟨n8, h8⟩ := name_int (if 0 < m7 then m7 else 0)
  have r1 := min_run (P := Try.prog) #[3, 3] 3 .i64 a2 63 m1 h1
  have r2 := max_run (P := Try.prog) #[3, 3] 3 .i64 0 m1 l h2
  have r3 := min_run (P := Try.prog) #[3, 3] 3 .i64 a3 (64 - l) m3 h3
  have r4 := max_run (P := Try.prog) #[3, 3] 3 .i64 0 m3 k h4
  have r5 := min_run (P := Try.prog) #[3, 3] 3 .i64 a3 64 m5 h5
  have r6 := max_run (P := Try.prog) #[3, 3] 3 .i64 1 m5 n6 h6
  have r7 := min_run (P := Try.prog) #[3, 3] 3 .i64 a3 8 m7 h7
  have r8 := max_run (P := Try.prog) #[3, 3] 3 .i64 0 m7 n8 h8
  have b1 : 0 ≤ l := by omega
  have b2 : l ≤ 63 := by omega
  have g1 : loOf l = loOf a2 := by unfold loOf held; (repeat' split) <;> omega
  have g0 : (loOf a2 : Int) = l := by unfold loOf held; (repeat' split) <;> omega
  have g2 : nOf l k = nOf a2 a3 := by unfold nOf; rw [g1, g0]; unfold held; (repeat' split) <;> omega
  have g3 : wOf n6 = wOf a3 := by unfold wOf held; (repeat' split) <;> omega
  have g4 : held 0 8 n8 = held 0 8 a3 := by unfold held; (repeat' split) <;> omega
  have g5 : getB ⟨#[97, 98, 99]⟩ (-100) a3 = 0#64 := getB_zero _ _ _ (by intro i hi; omega)
  clear h1 h2 h3 h4 h5 h6 h7 h8 g0
  go_enter Try.func7, Try.ntmps7
  go_wp2_with (first
    | (go_at_call 13; refine (known_b.on HB).mono ?_; clear HB; rintro e w' ⟨rfl, HB⟩)
    | (go_at_call 14; refine ((sext_b _ _).on HB).mono ?_; clear HB; rintro e w' ⟨rfl, HB⟩)
    | (go_at_call 16; refine ((zext_b _ _).on HB).mono ?_; clear HB; rintro e w' ⟨rfl, HB⟩)
    | (go_at_call 18; refine ((bits_b _ _ _).on HB).mono ?_; clear HB; rintro e w' ⟨rfl, HB⟩)
    | (go_at_call 20; refine ((set_b _ _ _ _).on HB).mono ?_; clear HB; rintro e w' ⟨rfl, HB⟩)
    | (go_at_call 22; refine ((get_b _ _ _ (by decide)).on HB).mono ?_; clear HB; rintro e w' ⟨rfl, HB⟩)
    | (go_at_call 24; refine ((bytes_b _ _).on HB).mono ?_; clear HB; rintro e w' ⟨rfl, HB⟩)
    | (go_at_call 26; refine ((high_b _ _).on HB).mono ?_; clear HB; rintro e w' ⟨rfl, HB⟩))
  go_ret
  exact ⟨rfl, HB⟩
theorem xor_low (n : Nat) (h : n < 2 ^ 63) : n ^^^ 2 ^ 63 = 2 ^ 63 * 1 + n := by
  apply Nat.eq_of_testBit_eq; intro j
  rw [Nat.testBit_two_pow_mul_add _ h, Nat.testBit_xor, Nat.testBit_two_pow]
  by_cases c : j < 63
  · rw [if_pos c, decide_eq_false (by omega)]; simp
  · rw [if_neg c, Nat.testBit_lt_two_pow (Nat.lt_of_lt_of_le h (Nat.pow_le_pow_right (by omega) (by omega)))]
    by_cases e : j = 63
    · subst e; rfl
    · rw [decide_eq_false (by omega), Nat.testBit_lt_two_pow (show 1 < 2 ^ (j - 63) from Nat.one_lt_two_pow (by omega))]; rfl
theorem xor_top (n : Nat) (h : n < 2 ^ 64) : n ^^^ 2 ^ 63 = if n < 2 ^ 63 then n + 2 ^ 63 else n - 2 ^ 63 := by
  by_cases c : n < 2 ^ 63
  · rw [if_pos c, xor_low n c]; omega
  · rw [if_neg c]
    have e := xor_low (n - 2 ^ 63) (by omega)
    have e2 : 2 ^ 63 * 1 + (n - 2 ^ 63) = n := by omega
    rw [e2] at e
    conv => lhs; rw [← e]
    rw [Nat.xor_assoc, Nat.xor_self, Nat.xor_zero]
theorem slt_turn (a b : BitVec 64) : (bits .xor .u64 (a.toNat : Int) 9223372036854775808 < bits .xor .u64 (b.toNat : Int) 9223372036854775808) ↔ a.slt b = true := by
  have t : (9223372036854775808 : Int) = ((9223372036854775808#64).toNat : Int) := rfl
  have ha := a.isLt
  have hb := b.isLt
  have h1 := xor_top a.toNat ha
  have h2 := xor_top b.toNat hb
  have t2 : (9223372036854775808#64).toNat = 2 ^ 63 := rfl
  rw [t, u_xor, u_xor, BitVec.toNat_xor, BitVec.toNat_xor, t2, h1, h2, BitVec.slt_eq_decide, decide_eq_true_iff, BitVec.toInt_eq_toNat_cond, BitVec.toInt_eq_toNat_cond]
  clear h1 h2
  generalize a.toNat = x at *
  generalize b.toNat = y at *
  (repeat' split) <;> omega
theorem slt_self (a : BitVec 64) : a.slt a = false := by rw [BitVec.slt_eq_decide]; simp
theorem slt_trans {a b c : BitVec 64} (h : a.slt b = true) (h2 : b.slt c = true) : a.slt c = true := by
  rw [BitVec.slt_eq_decide, decide_eq_true_iff] at *; omega
theorem slt_total {a b : BitVec 64} (h : a.slt b = false) (h2 : b.slt a = false) : a = b := by
  rw [BitVec.slt_eq_decide, decide_eq_false_iff_not] at *
  exact BitVec.eq_of_toInt_eq (by omega)
set_option maxHeartbeats 8000000 in
set_option maxRecDepth 100000 in
theorem walkWordOrder (a0 a1 a2 : Int) (w0 : (Lit.int .u64 a0).wf = true) (w1 : (Lit.int .u64 a1).wf = true) (w2 : (Lit.int .u64 a2).wf = true) (w : World) :
    Calls Try.prog 8 #[.int .u64 a0, .int .u64 a1, .int .u64 a2] w fun e w' => e = .returned (.bool true) ∧ Below w.heap.size w w' := by
  obtain ⟨a, rfl⟩ := u64_open w0
  obtain ⟨b, rfl⟩ := u64_open w1
  obtain ⟨c, rfl⟩ := u64_open w2
  clear w0 w1 w2
  have HB := Below.refl w.heap.size w
  have hself := slt_self a
  have hx := slt_turn a b
  by_cases hab : a.slt b = true
  · have hlt := hx.2 hab
    clear hx
    by_cases hbc : b.slt c = true
    · have hac := slt_trans hab hbc
      go_enter Try.func8, Try.ntmps8
      go_wp2_with (first
        | (go_at_call 13; refine (known_b.on HB).mono ?_; clear HB; rintro e w' ⟨rfl, HB⟩)
        | (go_at_call 14; refine ((sext_b _ _).on HB).mono ?_; clear HB; rintro e w' ⟨rfl, HB⟩)
        | (go_at_call 16; refine ((zext_b _ _).on HB).mono ?_; clear HB; rintro e w' ⟨rfl, HB⟩)
        | (go_at_call 18; refine ((bits_b _ _ _).on HB).mono ?_; clear HB; rintro e w' ⟨rfl, HB⟩)
        | (go_at_call 20; refine ((set_b _ _ _ _).on HB).mono ?_; clear HB; rintro e w' ⟨rfl, HB⟩)
        | (go_at_call 22; refine ((get_b _ _ _ (by decide)).on HB).mono ?_; clear HB; rintro e w' ⟨rfl, HB⟩)
        | (go_at_call 24; refine ((bytes_b _ _).on HB).mono ?_; clear HB; rintro e w' ⟨rfl, HB⟩)
        | (go_at_call 26; refine ((high_b _ _).on HB).mono ?_; clear HB; rintro e w' ⟨rfl, HB⟩))
      go_ret
      exact ⟨rfl, HB⟩
    · have hbc2 : b.slt c = false := by simpa using hbc
      clear hbc
      go_enter Try.func8, Try.ntmps8
      go_wp2_with (first
        | (go_at_call 13; refine (known_b.on HB).mono ?_; clear HB; rintro e w' ⟨rfl, HB⟩)
        | (go_at_call 14; refine ((sext_b _ _).on HB).mono ?_; clear HB; rintro e w' ⟨rfl, HB⟩)
        | (go_at_call 16; refine ((zext_b _ _).on HB).mono ?_; clear HB; rintro e w' ⟨rfl, HB⟩)
        | (go_at_call 18; refine ((bits_b _ _ _).on HB).mono ?_; clear HB; rintro e w' ⟨rfl, HB⟩)
        | (go_at_call 20; refine ((set_b _ _ _ _).on HB).mono ?_; clear HB; rintro e w' ⟨rfl, HB⟩)
        | (go_at_call 22; refine ((get_b _ _ _ (by decide)).on HB).mono ?_; clear HB; rintro e w' ⟨rfl, HB⟩)
        | (go_at_call 24; refine ((bytes_b _ _).on HB).mono ?_; clear HB; rintro e w' ⟨rfl, HB⟩)
        | (go_at_call 26; refine ((high_b _ _).on HB).mono ?_; clear HB; rintro e w' ⟨rfl, HB⟩))
      go_ret
      exact ⟨rfl, HB⟩
  · have hlt : ¬ (bits .xor .u64 (a.toNat : Int) 9223372036854775808 < bits .xor .u64 (b.toNat : Int) 9223372036854775808) := fun h => hab (hx.1 h)
    have hab2 : a.slt b = false := by simpa using hab
    have hd : decide (bits .xor .u64 (a.toNat : Int) 9223372036854775808 < bits .xor .u64 (b.toNat : Int) 9223372036854775808) = false := decide_eq_false hlt
    clear hx hab hlt
    by_cases hba : b.slt a = true
    · skip
      go_enter Try.func8, Try.ntmps8
      go_wp2_with (first
        | (go_at_call 13; refine (known_b.on HB).mono ?_; clear HB; rintro e w' ⟨rfl, HB⟩)
        | (go_at_call 14; refine ((sext_b _ _).on HB).mono ?_; clear HB; rintro e w' ⟨rfl, HB⟩)
        | (go_at_call 16; refine ((zext_b _ _).on HB).mono ?_; clear HB; rintro e w' ⟨rfl, HB⟩)
        | (go_at_call 18; refine ((bits_b _ _ _).on HB).mono ?_; clear HB; rintro e w' ⟨rfl, HB⟩)
        | (go_at_call 20; refine ((set_b _ _ _ _).on HB).mono ?_; clear HB; rintro e w' ⟨rfl, HB⟩)
        | (go_at_call 22; refine ((get_b _ _ _ (by decide)).on HB).mono ?_; clear HB; rintro e w' ⟨rfl, HB⟩)
        | (go_at_call 24; refine ((bytes_b _ _).on HB).mono ?_; clear HB; rintro e w' ⟨rfl, HB⟩)
        | (go_at_call 26; refine ((high_b _ _).on HB).mono ?_; clear HB; rintro e w' ⟨rfl, HB⟩))
      go_ret
      exact ⟨rfl, HB⟩
    · have hba2 : b.slt a = false := by simpa using hba
      have heq := slt_total hab2 hba2
      clear hba hba2 hab2
      subst heq
      go_enter Try.func8, Try.ntmps8
      go_wp2_with (first
        | (go_at_call 13; refine (known_b.on HB).mono ?_; clear HB; rintro e w' ⟨rfl, HB⟩)
        | (go_at_call 14; refine ((sext_b _ _).on HB).mono ?_; clear HB; rintro e w' ⟨rfl, HB⟩)
        | (go_at_call 16; refine ((zext_b _ _).on HB).mono ?_; clear HB; rintro e w' ⟨rfl, HB⟩)
        | (go_at_call 18; refine ((bits_b _ _ _).on HB).mono ?_; clear HB; rintro e w' ⟨rfl, HB⟩)
        | (go_at_call 20; refine ((set_b _ _ _ _).on HB).mono ?_; clear HB; rintro e w' ⟨rfl, HB⟩)
        | (go_at_call 22; refine ((get_b _ _ _ (by decide)).on HB).mono ?_; clear HB; rintro e w' ⟨rfl, HB⟩)
        | (go_at_call 24; refine ((bytes_b _ _).on HB).mono ?_; clear HB; rintro e w' ⟨rfl, HB⟩)
        | (go_at_call 26; refine ((high_b _ _).on HB).mono ?_; clear HB; rintro e w' ⟨rfl, HB⟩))
      go_ret
      exact ⟨rfl, HB⟩

theorem zext_sext (v : BitVec 64) (k : Nat) (h : 1 ≤ k) (h2 : k ≤ 64) : zextB (sextB v k) k = zextB v k := by
  apply BitVec.eq_of_getLsbD_eq; intro i hi
  rw [zext_bit, zext_bit, sext_bit _ _ _ h h2 hi]
  by_cases c : i < k <;> simp [c]
theorem sext_zext (v : BitVec 64) (k : Nat) (h : 1 ≤ k) (h2 : k ≤ 64) : sextB (zextB v k) k = sextB v k := by
  apply BitVec.eq_of_getLsbD_eq; intro i hi
  rw [sext_bit _ _ _ h h2 hi, sext_bit _ _ _ h h2 hi, zext_bit]
  by_cases c : i < k
  · simp [c, hi]
  · simp [c, show k - 1 < 64 by omega, show k - 1 < k by omega]
theorem sext_sext (v : BitVec 64) (k : Nat) (h : 1 ≤ k) (h2 : k ≤ 64) : sextB (sextB v k) k = sextB v k := by
  rw [← sext_zext (sextB v k) k h h2, zext_sext v k h h2, sext_zext v k h h2]
theorem same_iff (v : BitVec 64) (k : Nat) (h : 1 ≤ k) (h2 : k ≤ 64) : sextB v k = zextB v k ↔ (v.getLsbD (k - 1) = false ∨ k = 64) := by
  constructor
  · intro e
    by_cases c : k = 64
    · exact Or.inr c
    · left
      have e2 : (sextB v k).getLsbD k = (zextB v k).getLsbD k := by rw [e]
      rw [sext_bit _ _ _ h h2 (by omega), zext_bit] at e2
      simpa using e2
  · intro e
    apply BitVec.eq_of_getLsbD_eq; intro i hi
    rw [sext_bit _ _ _ h h2 hi, zext_bit]
    by_cases c : i < k
    · simp [c, hi]
    · rcases e with e | e
      · simp [c, e]
      · omega
theorem low_test (v : BitVec 64) (k : Nat) : ((bits .and .u64 ((v.toNat : Int) / 2 ^ k) 1) == 0) = !v.getLsbD k := by
  have e1 : (1 : Int) = ((1#64).toNat : Int) := rfl
  have e0 : (0 : Int) = ((0#64).toNat : Int) := rfl
  rw [u_shr, e1, u_and, e0, u_beq, Bool.eq_iff_iff, beq_iff_eq]
  constructor
  · intro h
    have := congrArg (fun x : BitVec 64 => x.getLsbD 0) h
    simp only [BitVec.getLsbD_and, BitVec.getLsbD_ushiftRight] at this
    simpa using this
  · intro h
    apply BitVec.eq_of_getLsbD_eq; intro i hi
    by_cases c : i = 0
    · subst c; simpa using h
    · simp [c]
theorem i32_open {a : Int} (h : (Lit.int .i32 a).wf = true) : -2147483648 ≤ a ∧ a ≤ 2147483647 := by
  have h2 := h
  simp [Lit.wf, IntKind.min, IntKind.max, IntKind.signed, IntKind.bits] at h2
  omega
theorem of_i32 (a : Int) (h : -2147483648 ≤ a ∧ a ≤ 2147483647) : ∃ x : BitVec 64, IntKind.u64.wrap a = (x.toNat : Int) ∧ x.toInt = a ∧ ∃ y : BitVec 64, IntKind.u32.wrap a = (y.toNat : Int) ∧ sextB y 32 = x := by
  refine ⟨BitVec.ofInt 64 a, u_wrap a, ?_, (BitVec.ofInt 32 a).setWidth 64, ?_, ?_⟩
  · rw [BitVec.toInt_ofInt, Int.bmod_def]; omega
  · rw [IntKind.wrap_u32', BitVec.toNat_setWidth, BitVec.toNat_ofInt]; omega
  · apply BitVec.eq_of_toInt_eq
    have e : sextB ((BitVec.ofInt 32 a).setWidth 64) 32 = (BitVec.ofInt 32 a).signExtend 64 := by
      apply BitVec.eq_of_getLsbD_eq; intro i hi
      rw [sext_bit _ _ _ (by omega) (by omega) hi, BitVec.getLsbD_setWidth, BitVec.getLsbD_signExtend, BitVec.msb_eq_getLsbD_last]
      by_cases c : i < 32
      · simp [c, hi]
      · simp [c, hi]
    rw [e, BitVec.toInt_signExtend_of_le (by omega), BitVec.toInt_ofInt, BitVec.toInt_ofInt, Int.bmod_def, Int.bmod_def]; omega
set_option maxHeartbeats 8000000 in
set_option maxRecDepth 100000 in
theorem walkWordSigns (a0 a1 a2 a3 : Int) (w0 : (Lit.int .u64 a0).wf = true) (w1 : (Lit.int .u8 a1).wf = true) (w2 : (Lit.int .i32 a2).wf = true) (w3 : (Lit.int .i32 a3).wf = true) (w : World) :
    Calls Try.prog 5 #[.int .u64 a0, .int .u8 a1, .int .i32 a2, .int .i32 a3] w fun e w' => e = .returned (.bool true) ∧ Below w.heap.size w w' := by
  obtain ⟨v, rfl⟩ := u64_open w0
  obtain ⟨n, rfl, hn⟩ := u8_open w1
  have b2 := i32_open w2
  have b3 := i32_open w3
  clear w0 w1 w2 w3
  have HB := Below.refl w.heap.size w
  obtain ⟨k, hk⟩ : ∃ k : Nat, k = n % 64 := ⟨_, rfl⟩
  have e1 : ((n : Int) % 64) = (k : Int) := by omega
  have hk2 : (k : Int) ≤ 63 := by omega
  clear hk hn
  obtain ⟨xa, ea1, ea2, ya, ea3, ea4⟩ := of_i32 a2 b2
  obtain ⟨xb, eb1, eb2, yb, eb3, eb4⟩ := of_i32 a3 b3
  have hslt : decide (a2 < a3) = xa.slt xb := by rw [BitVec.slt_eq_decide, ea2, eb2]
  have f1 : wOf ((k : Int) + 1) = k + 1 := by rw [wOf_mid (by omega) (by omega)]; omega
  have f2 : wOf 32 = 32 := by decide
  have q1 := zext_sext v (k + 1) (by omega) (by omega)
  have q2 := sext_zext v (k + 1) (by omega) (by omega)
  have q3 := sext_sext v (k + 1) (by omega) (by omega)
  have q4 := same_iff v (k + 1) (by omega) (by omega)
  have q5 := low_test v k
  clear ea2 eb2 eb3 eb4 yb
  rw [show k + 1 - 1 = k by omega] at q4
  by_cases hb : v.getLsbD k = true
  · rw [hb] at q5
    have q5b : (bits .and .u64 ((v.toNat : Int) / 2 ^ k) 1 == 0) = false := q5
    clear q5
    by_cases hk64 : k = 63
    · subst hk64
      have q6 := q4.2 (Or.inr rfl)
      have e1b : ((n : Int) % 64) = 63 := e1
      have f1b : wOf 64 = 64 := by decide
      have q1b : zextB (zextB v 64) 64 = zextB v 64 := by rw [q6] at q1; exact q1
      have q2b : sextB (zextB v 64) 64 = zextB v 64 := by rw [q6] at q2; exact q2
      have q6b : sextB v 64 = zextB v 64 := q6
      clear q1 q2 q3 q6 f1 q5b q4 e1 hb hk2
      go_enter Try.func5, Try.ntmps5
      go_wp2_with (first
        | (go_at_call 13; refine (known_b.on HB).mono ?_; clear HB; rintro e w' ⟨rfl, HB⟩)
        | (go_at_call 14; refine ((sext_b _ _).on HB).mono ?_; clear HB; rintro e w' ⟨rfl, HB⟩)
        | (go_at_call 16; refine ((zext_b _ _).on HB).mono ?_; clear HB; rintro e w' ⟨rfl, HB⟩)
        | (go_at_call 18; refine ((bits_b _ _ _).on HB).mono ?_; clear HB; rintro e w' ⟨rfl, HB⟩)
        | (go_at_call 20; refine ((set_b _ _ _ _).on HB).mono ?_; clear HB; rintro e w' ⟨rfl, HB⟩)
        | (go_at_call 22; refine ((get_b _ _ _ (by decide)).on HB).mono ?_; clear HB; rintro e w' ⟨rfl, HB⟩)
        | (go_at_call 24; refine ((bytes_b _ _).on HB).mono ?_; clear HB; rintro e w' ⟨rfl, HB⟩)
        | (go_at_call 26; refine ((high_b _ _).on HB).mono ?_; clear HB; rintro e w' ⟨rfl, HB⟩))
      all_goals (go_ret; exact ⟨rfl, HB⟩)
    · have q6 : ((sextB v (k + 1)).toNat : Int) ≠ ((zextB v (k + 1)).toNat : Int) := by
        intro h
        rcases q4.1 ((u_inj _ _).1 h) with h | h
        · rw [hb] at h; cases h
        · omega
      have q7 : (((sextB v (k + 1)).toNat : Int) == ((zextB v (k + 1)).toNat : Int)) = false := beq_eq_false_iff_ne.2 q6
      have q8 : ((k : Int) + 1 == 64) = false := beq_eq_false_iff_ne.2 (by omega)
      clear q4 q6 hb
      go_enter Try.func5, Try.ntmps5
      go_wp2_with (first
        | (go_at_call 13; refine (known_b.on HB).mono ?_; clear HB; rintro e w' ⟨rfl, HB⟩)
        | (go_at_call 14; refine ((sext_b _ _).on HB).mono ?_; clear HB; rintro e w' ⟨rfl, HB⟩)
        | (go_at_call 16; refine ((zext_b _ _).on HB).mono ?_; clear HB; rintro e w' ⟨rfl, HB⟩)
        | (go_at_call 18; refine ((bits_b _ _ _).on HB).mono ?_; clear HB; rintro e w' ⟨rfl, HB⟩)
        | (go_at_call 20; refine ((set_b _ _ _ _).on HB).mono ?_; clear HB; rintro e w' ⟨rfl, HB⟩)
        | (go_at_call 22; refine ((get_b _ _ _ (by decide)).on HB).mono ?_; clear HB; rintro e w' ⟨rfl, HB⟩)
        | (go_at_call 24; refine ((bytes_b _ _).on HB).mono ?_; clear HB; rintro e w' ⟨rfl, HB⟩)
        | (go_at_call 26; refine ((high_b _ _).on HB).mono ?_; clear HB; rintro e w' ⟨rfl, HB⟩))
      all_goals (go_ret; exact ⟨rfl, HB⟩)
  · have hb2 : v.getLsbD k = false := by simpa using hb
    rw [hb2] at q5
    have q5b : (bits .and .u64 ((v.toNat : Int) / 2 ^ k) 1 == 0) = true := q5
    have q6 := q4.2 (Or.inl hb2)
    rw [q6] at q1 q2 q3
    clear q4 q5 hb hb2
    go_enter Try.func5, Try.ntmps5
    go_wp2_with (first
      | (go_at_call 13; refine (known_b.on HB).mono ?_; clear HB; rintro e w' ⟨rfl, HB⟩)
      | (go_at_call 14; refine ((sext_b _ _).on HB).mono ?_; clear HB; rintro e w' ⟨rfl, HB⟩)
      | (go_at_call 16; refine ((zext_b _ _).on HB).mono ?_; clear HB; rintro e w' ⟨rfl, HB⟩)
      | (go_at_call 18; refine ((bits_b _ _ _).on HB).mono ?_; clear HB; rintro e w' ⟨rfl, HB⟩)
      | (go_at_call 20; refine ((set_b _ _ _ _).on HB).mono ?_; clear HB; rintro e w' ⟨rfl, HB⟩)
      | (go_at_call 22; refine ((get_b _ _ _ (by decide)).on HB).mono ?_; clear HB; rintro e w' ⟨rfl, HB⟩)
      | (go_at_call 24; refine ((bytes_b _ _).on HB).mono ?_; clear HB; rintro e w' ⟨rfl, HB⟩)
      | (go_at_call 26; refine ((high_b _ _).on HB).mono ?_; clear HB; rintro e w' ⟨rfl, HB⟩))
    all_goals (go_ret; exact ⟨rfl, HB⟩)
end Go.Proofs.Ytekehogcbngjoaa
