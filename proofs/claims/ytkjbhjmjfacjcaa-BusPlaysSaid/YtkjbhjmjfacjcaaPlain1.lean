/- Plain laws on words (no program in sight). -/
import Derived.Test.YtkjbhjmjfacjcaaJoin
import Derived.Test.YtkjbhjmjfacjcaaRow
namespace Go.Proofs.Ytkjbhjmjfacjcaa
open Go.RowKit
set_option linter.unusedSimpArgs false

theorem loOf_in {lo : Int} (h0 : 0 ≤ lo) (h1 : lo ≤ 63) : loOf lo = lo.toNat := by unfold loOf held; rw [if_neg (by omega), if_neg (by omega)]
theorem nOf_in {lo n : Int} (h0 : 0 ≤ lo) (h1 : lo ≤ 63) (h2 : 0 ≤ n) (h3 : n ≤ 64 - lo) : nOf lo n = n.toNat := by
  unfold nOf; rw [loOf_in h0 h1]; unfold held; rw [if_neg (by omega), if_neg (by omega)]
theorem bits_set (v x : BitVec 64) (l k : Nat) (h : l + k ≤ 64) : bitsB (setB v l k x) l k = bitsB x 0 k := by
  apply BitVec.eq_of_getLsbD_eq; intro i hi
  rw [bits_bit, bits_bit]
  by_cases c : i < k
  · rw [set_bit _ _ _ _ _ (by omega), if_pos (by omega), show l + i - l = 0 + i by omega]
  · simp [c]
theorem set_back (v x : BitVec 64) (l k : Nat) (h : l + k ≤ 64) : setB (setB v l k x) l k (bitsB v l k) = v := by
  apply BitVec.eq_of_getLsbD_eq; intro i hi
  rw [set_bit _ _ _ _ _ hi]
  by_cases c : l ≤ i ∧ i < l + k
  · rw [if_pos c, bits_bit, show l + (i - l) = i by omega]; simp [show i - l < 64 by omega, show i - l < k by omega]
  · rw [if_neg c, set_bit _ _ _ _ _ hi, if_neg c]
theorem bits_all (v : BitVec 64) : bitsB v 0 64 = v := by
  apply BitVec.eq_of_getLsbD_eq; intro i hi
  rw [bits_bit]; simp [hi]
theorem byteU_bit (v : BitVec 64) (k j : Nat) : (BitVec.ofNat 64 (byteU v k).toNat).getLsbD j = (v.getLsbD (8 * k + j) && decide (j < 8)) := by
  have e : (byteU v k).toNat = (v >>> (8 * k)).toNat % 256 := by
    unfold byteU
    rw [UInt8.toNat_ofNat', BitVec.toNat_ushiftRight, Nat.shiftRight_eq_div_pow, show (256 : Nat) = 2 ^ 8 from rfl, ← Nat.pow_mul]
  rw [e, BitVec.getLsbD_ofNat, show (256 : Nat) = 2 ^ 8 from rfl, Nat.testBit_mod_two_pow, BitVec.testBit_toNat, BitVec.getLsbD_ushiftRight]
  by_cases c : j < 8
  · simp [c, show j < 64 by omega]
  · simp [c]
/-- What Get reads of the bytes that Bytes wrote: bits. -/
theorem get_bytes (v : BitVec 64) (m : Nat) (hm : m ≤ 8) (at_ n : Nat) (i : Nat) (hi : i < 64) :
    (getB (bytesB v m) at_ n).getLsbD i = (v.getLsbD (8 * at_ + i) && (decide (i < 8 * n) && decide (8 * at_ + i < 8 * m))) := by
  unfold getB
  rw [join_bit _ (gb_lt _ _ _) 8 i hi]
  have hs : (bytesB v m).data.toList = bytesL v m := by simp [bytesB]
  have hl : (bytesB v m).size = m := by
    show (bytesL v m).toArray.size = m
    rw [List.size_toArray, bytesL_length v m hm]
  unfold gb gbU
  by_cases c : ((i / 8 : Nat) : Int) < (n : Int) ∧ 0 ≤ (at_ : Int) + (i / 8 : Nat) ∧ (at_ : Int) + (i / 8 : Nat) < (bytesB v m).size
  · rw [if_pos c, hs, List.getD_eq_getElem?_getD]
    have e : ((at_ : Int) + (i / 8 : Nat)).toNat = at_ + i / 8 := by omega
    have hlt : at_ + i / 8 < m := by rw [hl] at c; omega
    have hb : (bytesL v m)[at_ + i / 8]? = some (byteU v (at_ + i / 8)) := by
      unfold bytesL
      rw [List.getElem?_take, if_pos hlt, List.getElem?_map, List.getElem?_range (by omega)]; rfl
    rw [e, hb, Option.getD_some, byteU_bit, show 8 * (at_ + i / 8) + i % 8 = 8 * at_ + i by omega]
    simp [show i / 8 < 8 by omega, show i % 8 < 8 by omega, show i < 8 * n by omega, show 8 * at_ + i < 8 * m by omega]
  · rw [if_neg c, hl] at *
    by_cases c2 : i < 8 * n ∧ 8 * at_ + i < 8 * m
    · exact absurd (by omega) c
    · rcases Classical.not_and_iff_not_or_not.1 c2 with c3 | c3 <;> simp [c3]
theorem get_all (v : BitVec 64) : getB (bytesB v 8) 0 8 = v := by
  apply BitVec.eq_of_getLsbD_eq; intro i hi
  have := get_bytes v 8 (by omega) 0 8 i hi
  rw [show ((0 : Nat) : Int) = 0 from rfl, show ((8 : Nat) : Int) = 8 from rfl] at this
  rw [this]; simp [hi]
theorem get_one (v : BitVec 64) (q : Nat) (hq : q < 8) : getB (bytesB v 8) q 1 = bitsB v (8 * q) 8 := by
  apply BitVec.eq_of_getLsbD_eq; intro i hi
  have := get_bytes v 8 (by omega) q 1 i hi
  rw [show ((1 : Nat) : Int) = 1 from rfl] at this
  rw [this, bits_bit]
  by_cases c : i < 8
  · simp [c, hi, show 8 * q + i < 64 by omega]
  · simp [c]
end Go.Proofs.Ytkjbhjmjfacjcaa
