/- Plain facts on words: a uint64 as BitVec 64, and how the walk's integers read as such; no condition. -/
import Derived.WalkKit
import Derived.Test.YtkjbhjmjfacjcaaProg
namespace Go.Proofs.Ytkjbhjmjfacjcaa
open Go.RowKit

/-- A uint64 as the model has it. -/
abbrev U (x : BitVec 64) : Value := .int .u64 (x.toNat : Int)

theorem u_lt (x : BitVec 64) : (x.toNat : Int) < 18446744073709551616 := by have := x.isLt; omega
theorem u_and (a b : BitVec 64) : Go.bits .and .u64 (a.toNat : Int) (b.toNat : Int) = ((a &&& b).toNat : Int) := by
  rw [u64_and_nat _ _ a.isLt b.isLt]; simp
theorem u_or (a b : BitVec 64) : Go.bits .or .u64 (a.toNat : Int) (b.toNat : Int) = ((a ||| b).toNat : Int) := by
  rw [u64_or_nat _ _ a.isLt b.isLt]; simp
theorem u_xor (a b : BitVec 64) : Go.bits .xor .u64 (a.toNat : Int) (b.toNat : Int) = ((a ^^^ b).toNat : Int) := by
  rw [u64_xor_nat _ _ a.isLt b.isLt]; simp
theorem u_andNot (a b : BitVec 64) : Go.bits .andNot .u64 (a.toNat : Int) (b.toNat : Int) = ((a &&& ~~~b).toNat : Int) := by
  rw [u64_andNot_nat _ _ a.isLt b.isLt]; simp [BitVec.toNat_not]
theorem u_wrap (x : Int) : IntKind.u64.wrap x = ((BitVec.ofInt 64 x).toNat : Int) := by
  rw [IntKind.wrap_u64, BitVec.toNat_ofInt]; simp; omega
theorem u_shr (a : BitVec 64) (n : Nat) : (a.toNat : Int) / 2 ^ n = ((a >>> n).toNat : Int) := by
  rw [BitVec.toNat_ushiftRight, Nat.shiftRight_eq_div_pow]; simp
theorem u_shr_min (a : BitVec 64) (n : Nat) : (a.toNat : Int) / 2 ^ min n 64 = ((a >>> n).toNat : Int) := by
  rcases Nat.le_total n 64 with h | h
  · rw [Nat.min_eq_left h, u_shr]
  · rw [Nat.min_eq_right h, u_shr]
    suffices h2 : a >>> 64 = a >>> n by rw [h2]
    apply BitVec.eq_of_getLsbD_eq; intro i hi
    simp only [BitVec.getLsbD_ushiftRight]
    rw [BitVec.getLsbD_of_ge _ _ (by omega), BitVec.getLsbD_of_ge _ _ (by omega)]
theorem u_shl (a : BitVec 64) (n : Nat) : IntKind.u64.wrap ((a.toNat : Int) * 2 ^ n) = ((a <<< n).toNat : Int) := by
  have e : (a.toNat : Int) * 2 ^ n = ((a.toNat * 2 ^ n : Nat) : Int) := by rw [Int.natCast_mul, Int.natCast_pow]; rfl
  rw [IntKind.wrap_u64, BitVec.toNat_shiftLeft, Nat.shiftLeft_eq, e]
  generalize a.toNat * 2 ^ n = m
  omega
theorem u_shl_min (a : BitVec 64) (n : Nat) : IntKind.u64.wrap ((a.toNat : Int) * 2 ^ min n 64) = ((a <<< n).toNat : Int) := by
  rcases Nat.le_total n 64 with h | h
  · rw [Nat.min_eq_left h, u_shl]
  · rw [Nat.min_eq_right h, u_shl]
    suffices h2 : a <<< 64 = a <<< n by rw [h2]
    apply BitVec.eq_of_getLsbD_eq; intro i hi
    rw [BitVec.getLsbD_shiftLeft, BitVec.getLsbD_shiftLeft, decide_eq_true (show i < 64 from hi), decide_eq_true (show i < n by omega)]
    rfl
theorem u_add (a b : BitVec 64) : IntKind.u64.wrap ((a.toNat : Int) + (b.toNat : Int)) = ((a + b).toNat : Int) := by
  rw [IntKind.wrap_u64, BitVec.toNat_add]; omega
theorem u_sub (a b : BitVec 64) : IntKind.u64.wrap ((a.toNat : Int) - (b.toNat : Int)) = ((a - b).toNat : Int) := by
  rw [IntKind.wrap_u64, BitVec.toNat_sub]
  have := a.isLt; have := b.isLt
  omega
theorem u_mul (a b : BitVec 64) : IntKind.u64.wrap ((a.toNat : Int) * (b.toNat : Int)) = ((a * b).toNat : Int) := by
  rw [IntKind.wrap_u64, BitVec.toNat_mul, ← Int.natCast_mul]
  generalize a.toNat * b.toNat = m
  omega
theorem u_inj (a b : BitVec 64) : ((a.toNat : Int) = (b.toNat : Int)) ↔ a = b := by
  constructor
  · intro h; exact BitVec.eq_of_toNat_eq (by omega)
  · rintro rfl; rfl
theorem u_beq (a b : BitVec 64) : ((a.toNat : Int) == (b.toNat : Int)) = (a == b) := by
  rw [Bool.eq_iff_iff]; simp [u_inj]
theorem u_toInt (a : BitVec 64) : wrap64 (a.toNat : Int) = a.toInt := by
  have := a.isLt
  unfold wrap64; rw [BitVec.toInt_eq_toNat_cond]; split <;> omega
end Go.Proofs.Ytkjbhjmjfacjcaa
