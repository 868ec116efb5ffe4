/- Bytes joined to a word: plain facts. -/
import Derived.Test.YtkjbhjmjfacjcaaGet
namespace Go.Proofs.Ytkjbhjmjfacjcaa
open Go.RowKit
set_option linter.unusedSimpArgs false
set_option linter.unusedVariables false
set_option maxRecDepth 100000

theorem byte_bit {x : BitVec 64} (h : x.toNat < 256) (j : Nat) (hj : 8 ≤ j) : x.getLsbD j = false := by
  rw [← BitVec.testBit_toNat]
  exact Nat.testBit_lt_two_pow (Nat.lt_of_lt_of_le h (by have : 2 ^ 8 ≤ 2 ^ j := Nat.pow_le_pow_right (by omega) hj; omega))
theorem join_bit (f : Nat → BitVec 64) (hf : ∀ k, (f k).toNat < 256) (m i : Nat) (hi : i < 64) : (joinB f m).getLsbD i = (decide (i / 8 < m) && (f (i / 8)).getLsbD (i % 8)) := by
  induction m with
  | zero => simp [joinB]
  | succ m ih =>
    rw [joinB, BitVec.getLsbD_or, ih, BitVec.getLsbD_shiftLeft]
    by_cases c1 : i / 8 < m
    · have c2 : i < 8 * m := by omega
      simp [c1, c2, hi, show i / 8 < m + 1 by omega]
    · by_cases c3 : i / 8 = m
      · subst c3
        simp [hi, show ¬ i < 8 * (i / 8) by omega, show i - 8 * (i / 8) = i % 8 by omega]
      · have c4 : ¬ i / 8 < m + 1 := by omega
        simp [c1, c4, byte_bit (hf m) (i - 8 * m) (by omega)]
theorem join_shift (f : Nat → BitVec 64) (hf : ∀ k, (f k).toNat < 256) (j m : Nat) (hm : m < 8) :
    (joinB (fun k => f (j + 1 + k)) m <<< 8) ||| f j = joinB (fun k => f (j + k)) (m + 1) := by
  apply BitVec.eq_of_getLsbD_eq
  intro i hi
  rw [join_bit (fun k => f (j + k)) (fun k => hf _) _ _ hi, BitVec.getLsbD_or, BitVec.getLsbD_shiftLeft]
  by_cases c : i < 8
  · have e : i / 8 = 0 := by omega
    simp [c, hi, e, show i % 8 = i by omega]
  · rw [join_bit (fun k => f (j + 1 + k)) (fun k => hf _) _ _ (by omega), byte_bit (hf j) i (by omega)]
    have e1 : (i - 8) / 8 = i / 8 - 1 := by omega
    have e2 : (i - 8) % 8 = i % 8 := by omega
    rw [e1, e2, show j + 1 + (i / 8 - 1) = j + i / 8 by omega]
    by_cases c2 : i / 8 < m + 1
    · simp [c, hi, c2, show i / 8 - 1 < m by omega]
    · simp [c, hi, c2, show ¬ i / 8 - 1 < m by omega]
theorem join_more (f : Nat → BitVec 64) (m n : Nat) (h : ∀ k, m ≤ k → k < n → f k = 0#64) (hm : m ≤ n) : joinB f n = joinB f m := by
  induction n with
  | zero => rw [show m = 0 by omega]
  | succ n ih =>
    by_cases c : m = n + 1
    · rw [c]
    · rw [joinB, ih (fun k hk hk2 => h k hk (by omega)) (by omega), h n (by omega) (by omega)]; simp
theorem gb_zero (s : ByteArray) (at_ n : Int) (k : Nat) (h : ¬ ((k : Int) < n ∧ 0 ≤ at_ + k ∧ at_ + k < s.size)) : gb s at_ n k = 0#64 := by
  unfold gb gbU; rw [if_neg h]; rfl
theorem getB_zero (s : ByteArray) (at_ n : Int) (h : ∀ k : Nat, k < 8 → ¬ ((k : Int) < n ∧ 0 ≤ at_ + k ∧ at_ + k < s.size)) : getB s at_ n = 0#64 := by
  unfold getB; rw [join_congr (g := fun _ => 0#64) 8 (fun i hi => gb_zero _ _ _ _ (h i hi)), join_zero]
end Go.Proofs.Ytkjbhjmjfacjcaa
