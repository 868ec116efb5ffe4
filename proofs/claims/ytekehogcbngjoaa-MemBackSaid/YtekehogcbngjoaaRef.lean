/- Contracts of the reference's words (but Get and Bytes). -/
import Derived.Test.YtekehogcbngjoaaBytes
namespace Go.Proofs.Ytekehogcbngjoaa
open Go.RowKit
set_option linter.unusedSimpArgs false
set_option linter.unusedVariables false

theorem mask_val (k : Nat) (h : k < 64) : IntKind.u64.wrap (IntKind.u64.wrap (2 ^ k) - 1) = ((maskB k).toNat : Int) := by
  rw [← mask_shl _ h, ← u_sub, BitVec.toNat_shiftLeft, Nat.shiftLeft_eq]
  have e : ((1#64).toNat * 2 ^ k : Nat) = 2 ^ k := by simp
  have e2 : IntKind.u64.wrap (2 ^ k) = ((2 ^ k % 2 ^ 64 : Nat) : Int) := by
    have e3 : (2 : Int) ^ k = ((2 ^ k : Nat) : Int) := by rw [Int.natCast_pow]; rfl
    rw [IntKind.wrap_u64, e3]; omega
  rw [e, e2]; rfl
theorem rmask_any (n : Int) (h0 : 0 ≤ n) (w : World) :
    Calls Try.prog 45 #[.int .i64 n] w fun e w' => e = .returned (U (maskB n.toNat)) ∧ w = w' := by
  by_cases h : 64 ≤ n
  · go_enter Try.func45, Try.ntmps45
    go_wp2
    go_ret
    exact ⟨ret_u (by rw [mask_full _ (by omega)]; rfl), rfl⟩
  · go_enter Try.func45, Try.ntmps45
    go_wp2
    go_ret
    exact ⟨ret_u (mask_val _ (by omega)), rfl⟩
theorem rheld_any (lo n : Int) (w : World) :
    Calls Try.prog 44 #[.int .i64 lo, .int .i64 n] w fun e w' => e = .returned (.tuple #[.int .i64 (loOf lo), .int .i64 (nOf lo n)]) ∧ w = w' := by
  by_cases h1 : lo < 0
  · by_cases h2 : n < 0
    · go_enter Try.func44, Try.ntmps44
      go_wp2
      all_goals (go_ret2; exact ⟨ret_ii (by simp only [loOf, held]; split <;> (try split) <;> omega) (by simp only [nOf, loOf, held]; (repeat' split) <;> omega), rfl⟩)
    · go_enter Try.func44, Try.ntmps44
      go_wp2
      all_goals (go_ret2; exact ⟨ret_ii (by simp only [loOf, held]; split <;> (try split) <;> omega) (by simp only [nOf, loOf, held]; (repeat' split) <;> omega), rfl⟩)
  · by_cases h2 : n < 0
    · go_enter Try.func44, Try.ntmps44
      go_wp2
      all_goals (go_ret2; exact ⟨ret_ii (by simp only [loOf, held]; split <;> (try split) <;> omega) (by simp only [nOf, loOf, held]; (repeat' split) <;> omega), rfl⟩)
    · go_enter Try.func44, Try.ntmps44
      go_wp2
      all_goals (go_ret2; exact ⟨ret_ii (by simp only [loOf, held]; split <;> (try split) <;> omega) (by simp only [nOf, loOf, held]; (repeat' split) <;> omega), rfl⟩)
theorem rbits_any (v : BitVec 64) (lo n : Int) (w : World) :
    Calls Try.prog 19 #[U v, .int .i64 lo, .int .i64 n] w fun e w' => e = .returned (U (bitsB v (loOf lo) (nOf lo n))) ∧ ∃ k, w' = w.drewN k := by
  have hl := loOf_le lo
  go_enter Try.func19, Try.ntmps19
  go_wp2_with (first | (go_at_call 44; refine (rheld_any _ _ _).mono ?_; rintro e w' ⟨rfl, rfl⟩) | (go_at_call 45; refine (rmask_any _ (by omega) _).mono ?_; rintro e w' ⟨rfl, rfl⟩))
  go_ret
  refine ⟨ret_u ?_, 0, rfl⟩
  rw [u_shr, u_and]; rfl
theorem rset_any (v : BitVec 64) (lo n : Int) (x : BitVec 64) (w : World) :
    Calls Try.prog 21 #[U v, .int .i64 lo, .int .i64 n, U x] w fun e w' => e = .returned (U (setB v (loOf lo) (nOf lo n) x)) ∧ ∃ k, w' = w.drewN k := by
  have hl := loOf_le lo
  go_enter Try.func21, Try.ntmps21
  go_wp2_with (first | (go_at_call 44; refine (rheld_any _ _ _).mono ?_; rintro e w' ⟨rfl, rfl⟩) | (go_at_call 45; refine (rmask_any _ (by omega) _).mono ?_; rintro e w' ⟨rfl, rfl⟩))
  go_ret
  refine ⟨ret_u ?_, 0, rfl⟩
  simp only [u_shl, u_and, u_andNot, u_or]; rfl
theorem rless_any (v x : BitVec 64) (w : World) :
    Calls Try.prog 27 #[U v, U x] w fun e w' => e = .returned (.bool (v.slt x)) ∧ w = w' := by
  go_enter Try.func27, Try.ntmps27
  go_wp2
  go_ret
  exact ⟨ret_b (by rw [u_toInt, u_toInt, BitVec.slt_eq_decide]), rfl⟩
theorem rzext_any (v : BitVec 64) (n : Int) (w : World) :
    Calls Try.prog 17 #[U v, .int .i64 n] w fun e w' => e = .returned (U (zextB v (wOf n))) ∧ w = w' := by
  by_cases h1 : n ≤ 1
  · have e : wOf n = 1 := by unfold wOf held; split <;> (try split) <;> omega
    rw [e]
    have fin : bits .and .u64 (v.toNat : Int) 1 = ((zextB v 1).toNat : Int) := u_and v (maskB 1)
    have FIN := Lib.hid fin
    clear fin e
    by_cases h0 : n < 1
    · go_enter Try.func17, Try.ntmps17
      go_wp2
      go_ret
      exact ⟨ret_u FIN.out, rfl⟩
    · obtain rfl : n = 1 := by omega
      go_enter Try.func17, Try.ntmps17
      go_wp2
      go_ret
      exact ⟨ret_u FIN.out, rfl⟩
  · by_cases h2 : n < 64
    · have h3 : 1 < n := by omega
      go_enter Try.func17, Try.ntmps17
      go_wp2
      go_ret
      refine ⟨ret_u ?_, rfl⟩
      rw [mask_val _ (by omega), u_and, wOf_mid (by omega) (by omega)]; rfl
    · have e : wOf n = 64 := by unfold wOf held; split <;> (try split) <;> omega
      rw [e, show zextB v 64 = v by unfold zextB; rw [mask_full 64 (by omega)]; exact BitVec.and_allOnes]
      clear e
      by_cases h4 : 64 < n
      · go_enter Try.func17, Try.ntmps17
        go_wp2
        go_ret
        exact ⟨rfl, rfl⟩
      · obtain rfl : n = 64 := by omega
        go_enter Try.func17, Try.ntmps17
        go_wp2
        go_ret
        exact ⟨rfl, rfl⟩
theorem top_bit (v : BitVec 64) (k : Nat) (h : 1 ≤ k) (h2 : k < 64) : (zextB v k >>> (k - 1) = 1#64) ↔ v.getLsbD (k - 1) = true := by
  constructor
  · intro e
    have := congrArg (fun x : BitVec 64 => x.getLsbD 0) e
    simp only [BitVec.getLsbD_ushiftRight, zext_bit] at this
    simpa [show k - 1 < 64 by omega, show k - 1 < k by omega] using this
  · intro e
    apply BitVec.eq_of_getLsbD_eq
    intro i hi
    rw [BitVec.getLsbD_ushiftRight, zext_bit]
    by_cases h0 : i = 0
    · subst h0; simp [e, show k - 1 < 64 by omega, show k - 1 < k by omega]
    · rw [decide_eq_false (show ¬ k - 1 + i < k by omega)]
      simp [h0]
theorem sext_yes (v : BitVec 64) (k : Nat) (h : 1 ≤ k) (h2 : k < 64) (hb : v.getLsbD (k - 1) = true) : zextB v k ||| (BitVec.allOnes 64 <<< k) = sextB v k := by
  apply BitVec.eq_of_getLsbD_eq
  intro i hi
  rw [sext_bit v k i h (by omega) hi, BitVec.getLsbD_or, zext_bit, BitVec.getLsbD_shiftLeft, BitVec.getLsbD_allOnes]
  by_cases c : i < k
  · simp [c, hi]
  · simp [c, hi, hb, show i - k < 64 by omega]
theorem sext_no (v : BitVec 64) (k : Nat) (h : 1 ≤ k) (h2 : k < 64) (hb : v.getLsbD (k - 1) = false) : zextB v k = sextB v k := by
  apply BitVec.eq_of_getLsbD_eq
  intro i hi
  rw [sext_bit v k i h (by omega) hi, zext_bit]
  by_cases c : i < k
  · simp [c, hi]
  · simp [c, hb]
theorem zext_val (v : BitVec 64) (k : Nat) (h : k < 64) : bits .and .u64 (v.toNat : Int) (IntKind.u64.wrap (IntKind.u64.wrap (2 ^ k) - 1)) = ((zextB v k).toNat : Int) := by
  rw [mask_val _ h, u_and]; rfl
theorem sx_test (v : BitVec 64) (k : Nat) (h : 1 ≤ k) (h2 : k < 64) : (((zextB v k).toNat : Int) / 2 ^ (k - 1) == 1) = v.getLsbD (k - 1) := by
  have e : (((zextB v k).toNat : Int) / 2 ^ (k - 1) == 1) = (zextB v k >>> (k - 1) == 1#64) := by rw [u_shr]; exact u_beq _ 1#64
  rw [e, Bool.eq_iff_iff, beq_iff_eq]; exact top_bit v k h h2
theorem sx_yes (v : BitVec 64) (k : Nat) (h : 1 ≤ k) (h2 : k < 64) (hb : (((zextB v k).toNat : Int) / 2 ^ (k - 1) == 1) = true) :
    bits .or .u64 ((zextB v k).toNat : Int) (IntKind.u64.wrap (18446744073709551615 * 2 ^ k)) = ((sextB v k).toNat : Int) := by
  rw [sx_test v k h h2] at hb
  have e := u_shl (BitVec.allOnes 64) k
  have e2 : ((BitVec.allOnes 64).toNat : Int) = 18446744073709551615 := rfl
  rw [e2] at e
  rw [e, u_or, sext_yes v k h h2 hb]
theorem sx_no (v : BitVec 64) (k : Nat) (h : 1 ≤ k) (h2 : k < 64) (hb : (((zextB v k).toNat : Int) / 2 ^ (k - 1) == 1) = false) :
    ((zextB v k).toNat : Int) = ((sextB v k).toNat : Int) := by
  rw [sx_test v k h h2] at hb
  rw [sext_no v k h h2 hb]
theorem sx_yes1 (v : BitVec 64) (hb : (((zextB v 1).toNat : Int) == 1) = true) :
    bits .or .u64 ((zextB v 1).toNat : Int) (IntKind.u64.wrap 36893488147419103230) = ((sextB v 1).toNat : Int) :=
  sx_yes v 1 (by omega) (by omega) (by simpa using hb)
theorem sx_no1 (v : BitVec 64) (hb : (((zextB v 1).toNat : Int) == 1) = false) :
    ((zextB v 1).toNat : Int) = ((sextB v 1).toNat : Int) :=
  sx_no v 1 (by omega) (by omega) (by simpa using hb)
theorem rsext_any (v : BitVec 64) (n : Int) (w : World) :
    Calls Try.prog 15 #[U v, .int .i64 n] w fun e w' => e = .returned (U (sextB v (wOf n))) ∧ w = w' := by
  by_cases h1 : n ≤ 1
  · have e : wOf n = 1 := by unfold wOf held; split <;> (try split) <;> omega
    rw [e]
    clear e
    have hz : bits .and .u64 (v.toNat : Int) 1 = ((zextB v 1).toNat : Int) := u_and v (maskB 1)
    by_cases h0 : n < 1
    · go_enter Try.func15, Try.ntmps15
      go_wp2
      all_goals go_ret
      all_goals first | exact ⟨ret_u (sx_yes1 v (by assumption)), rfl⟩ | exact ⟨ret_u (sx_no1 v (by assumption)), rfl⟩
    · obtain rfl : n = 1 := by omega
      go_enter Try.func15, Try.ntmps15
      go_wp2
      all_goals go_ret
      all_goals first | exact ⟨ret_u (sx_yes1 v (by assumption)), rfl⟩ | exact ⟨ret_u (sx_no1 v (by assumption)), rfl⟩
  · by_cases h2 : n < 64
    · have h3 : 1 < n := by omega
      have hz := zext_val v n.toNat (by omega)
      go_enter Try.func15, Try.ntmps15
      go_wp2
      all_goals go_ret
      all_goals (rw [wOf_mid (by omega) (by omega)]; first | exact ⟨ret_u (sx_yes v _ (by omega) (by omega) (by assumption)), rfl⟩ | exact ⟨ret_u (sx_no v _ (by omega) (by omega) (by assumption)), rfl⟩)
    · have e : wOf n = 64 := by unfold wOf held; split <;> (try split) <;> omega
      rw [e, show sextB v 64 = v by simp [sextB]]
      clear e
      by_cases h4 : 64 < n
      · go_enter Try.func15, Try.ntmps15
        go_wp2
        go_ret
        exact ⟨rfl, rfl⟩
      · obtain rfl : n = 64 := by omega
        go_enter Try.func15, Try.ntmps15
        go_wp2
        go_ret
        exact ⟨rfl, rfl⟩
end Go.Proofs.Ytekehogcbngjoaa
