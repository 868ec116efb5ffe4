/- The document's words as bit vectors (no program in sight): sign, parts, parts put in, bytes; no condition. -/
import Derived.Test.YtkjbhjmjfacjcaaBits
namespace Go.Proofs.Ytkjbhjmjfacjcaa
open Go.RowKit

/-- so many lowest bits. -/
def maskB (n : Nat) : BitVec 64 := BitVec.allOnes 64 >>> (64 - n)
def bitsB (v : BitVec 64) (lo n : Nat) : BitVec 64 := (v >>> lo) &&& maskB n
def setB (v : BitVec 64) (lo n : Nat) (x : BitVec 64) : BitVec 64 := (v &&& ~~~(maskB n <<< lo)) ||| ((x &&& maskB n) <<< lo)
def zextB (v : BitVec 64) (n : Nat) : BitVec 64 := v &&& maskB n
def sextB (v : BitVec 64) (n : Nat) : BitVec 64 := (v <<< (64 - n)).sshiftRight (64 - n)
/-- a number held between two. -/
def held (lo hi n : Int) : Nat := (if n < lo then lo else if hi < n then hi else n).toNat
def loOf (lo : Int) : Nat := held 0 63 lo
def nOf (lo n : Int) : Nat := held 0 (64 - (loOf lo : Int)) n
def wOf (n : Int) : Nat := held 1 64 n

theorem held_le (lo hi n : Int) (h : lo ≤ hi) (h0 : 0 ≤ lo) : (held lo hi n : Int) ≤ hi := by unfold held; split <;> (try split) <;> omega
theorem held_ge (lo hi n : Int) (h : lo ≤ hi) (h0 : 0 ≤ lo) : lo ≤ (held lo hi n : Int) := by unfold held; split <;> (try split) <;> omega
theorem loOf_le (lo : Int) : loOf lo ≤ 63 := by have := held_le 0 63 lo (by omega) (by omega); unfold loOf; omega
theorem nOf_le (lo n : Int) : loOf lo + nOf lo n ≤ 64 := by
  have h := loOf_le lo
  have := held_le 0 (64 - (loOf lo : Int)) n (by omega) (by omega); unfold nOf; omega
theorem wOf_le (n : Int) : wOf n ≤ 64 := by have := held_le 1 64 n (by omega) (by omega); unfold wOf; omega
theorem wOf_ge (n : Int) : 1 ≤ wOf n := by have := held_ge 1 64 n (by omega) (by omega); unfold wOf; omega

theorem mask_bit (n i : Nat) : (maskB n).getLsbD i = (decide (i < 64) && decide (i < n)) := by
  unfold maskB
  rw [BitVec.getLsbD_ushiftRight, BitVec.getLsbD_allOnes]
  rw [Bool.eq_iff_iff]; simp; omega
theorem bits_bit (v : BitVec 64) (lo n i : Nat) : (bitsB v lo n).getLsbD i = (v.getLsbD (lo + i) && (decide (i < 64) && decide (i < n))) := by
  unfold bitsB
  rw [BitVec.getLsbD_and, BitVec.getLsbD_ushiftRight, mask_bit]
theorem zext_bit (v : BitVec 64) (n i : Nat) : (zextB v n).getLsbD i = (v.getLsbD i && (decide (i < 64) && decide (i < n))) := by
  unfold zextB
  rw [BitVec.getLsbD_and, mask_bit]
theorem set_bit (v : BitVec 64) (lo n : Nat) (x : BitVec 64) (i : Nat) (hi : i < 64) :
    (setB v lo n x).getLsbD i = if lo ≤ i ∧ i < lo + n then x.getLsbD (i - lo) else v.getLsbD i := by
  unfold setB
  simp only [BitVec.getLsbD_or, BitVec.getLsbD_and, BitVec.getLsbD_not, BitVec.getLsbD_shiftLeft, mask_bit]
  by_cases h1 : i < lo
  · simp [h1, hi, show ¬ lo ≤ i by omega]
  · by_cases h2 : i < lo + n
    · simp [h1, hi, show lo ≤ i by omega, h2, show i - lo < n by omega, show i - lo < 64 by omega]
    · simp [h1, hi, show lo ≤ i by omega, h2, show ¬ i - lo < n by omega]
theorem sext_bit (v : BitVec 64) (n i : Nat) (hn : 1 ≤ n) (hn2 : n ≤ 64) (hi : i < 64) : (sextB v n).getLsbD i = v.getLsbD (if i < n then i else n - 1) := by
  unfold sextB
  rw [BitVec.getLsbD_sshiftRight]
  simp only [BitVec.getLsbD_shiftLeft, BitVec.msb_eq_getLsbD_last]
  by_cases h : i < n
  · simp [h, show ¬ 64 ≤ i by omega, show 64 - n + i < 64 by omega]
  · simp [h, show ¬ 64 ≤ i by omega, show ¬ 64 - n + i < 64 by omega, show ¬ 63 < 64 - n by omega, show 63 - (64 - n) = n - 1 by omega]
theorem mask_shl (n : Nat) (h : n < 64) : (1#64 <<< n) - 1#64 = maskB n := by
  apply BitVec.eq_of_toNat_eq
  have hp : (2 : Nat) ^ n < 2 ^ 64 := Nat.pow_lt_pow_right (by omega) h
  have h1 : 1 ≤ 2 ^ n := Nat.one_le_two_pow
  rw [BitVec.toNat_sub, BitVec.toNat_shiftLeft, maskB, BitVec.toNat_ushiftRight, BitVec.toNat_allOnes, Nat.shiftRight_eq_div_pow, Nat.shiftLeft_eq]
  simp only [BitVec.toNat_ofNat]
  have e : 2 ^ 64 = 2 ^ n * 2 ^ (64 - n) := by rw [← Nat.pow_add]; congr 1; omega
  have hq : (2 ^ 64 - 1) / 2 ^ (64 - n) = 2 ^ n - 1 := by
    have hpos : 0 < 2 ^ (64 - n) := Nat.two_pow_pos _
    rw [Nat.div_eq_of_lt_le]
    · rw [Nat.sub_mul, ← e]; omega
    · rw [Nat.sub_add_cancel h1, ← e]; omega
  rw [hq]
  generalize 2 ^ n = m at *
  omega
theorem mask_full (n : Nat) (h : 64 ≤ n) : maskB n = BitVec.allOnes 64 := by
  unfold maskB; rw [show 64 - n = 0 by omega]; rfl
end Go.Proofs.Ytkjbhjmjfacjcaa
