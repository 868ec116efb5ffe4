/- Plain laws for MemBack: a word in memory, its parts. -/
import Derived.Test.YtkjbhjmjfacjcaaMemE
import Derived.Test.YtkjbhjmjfacjcaaPlain1
namespace Go.Proofs.Ytkjbhjmjfacjcaa
open Go.RowKit Go.BigFrame
set_option linter.unusedSimpArgs false
set_option linter.unusedVariables false
set_option maxRecDepth 100000

theorem readF_bit (f : Nat → UInt8) (a n j : Nat) (hj : j < 64) : (readF f a n).getLsbD j = (decide (j / 8 < n) && (BitVec.ofNat 64 (f (a + j / 8)).toNat).getLsbD (j % 8)) := by
  unfold readF
  rw [join_bit _ (fun k => by split; exact byte_lt _; simp) 8 j hj]
  by_cases c : j / 8 < n
  · rw [if_pos (by omega)]; simp [c, show j / 8 < 8 by omega]
  · rw [if_neg (by omega)]; simp [c]
theorem bytesL_get (v : BitVec 64) (n k : Nat) (h : k < n) (hn : n ≤ 8) : (bytesL v n).getD k 0 = byteU v k := by
  unfold bytesL
  rw [List.getD_eq_getElem?_getD, List.getElem?_take, if_pos h, List.getElem?_map, List.getElem?_range (by omega)]; rfl
theorem putF_in (f : Nat → UInt8) (v : BitVec 64) (a n k : Nat) (h : k < n) (hn : n ≤ 8) : putF f a (bytesL v n) (a + k) = byteU v k := by
  unfold putF
  rw [bytesL_length v n hn, if_pos (by omega), show a + k - a = k by omega, bytesL_get v n k h hn]
theorem putF_out (f : Nat → UInt8) (v : BitVec 64) (a n i : Nat) (h : i < a ∨ a + n ≤ i) (hn : n ≤ 8) : putF f a (bytesL v n) i = f i := by
  unfold putF
  rw [bytesL_length v n hn, if_neg (by omega)]
/-- Two words, one behind the other. -/
def two8 (a : Nat) (v u : BitVec 64) : Nat → UInt8 := putF (putF (fun _ => 0) a (bytesL v 8)) (a + 8) (bytesL u 8)
theorem two8_lo (a : Nat) (v u : BitVec 64) (k : Nat) (h : k < 8) : two8 a v u (a + k) = byteU v k := by
  unfold two8; rw [putF_out _ _ _ _ _ (by omega) (by omega), putF_in _ _ _ _ _ h (by omega)]
theorem two8_hi (a : Nat) (v u : BitVec 64) (k : Nat) (h : k < 8) : two8 a v u (a + 8 + k) = byteU u k := by
  unfold two8; rw [putF_in _ _ _ _ _ h (by omega)]
theorem read_lo (a : Nat) (v u : BitVec 64) (i n : Nat) (h : i + n ≤ 8) : readF (two8 a v u) (a + i) n = bitsB v (8 * i) (8 * n) := by
  apply BitVec.eq_of_getLsbD_eq; intro j hj
  rw [readF_bit _ _ _ _ hj, bits_bit]
  by_cases c : j / 8 < n
  · rw [show a + i + j / 8 = a + (i + j / 8) by omega, two8_lo _ _ _ _ (by omega), byteU_bit, show 8 * (i + j / 8) + j % 8 = 8 * i + j by omega]
    simp [c, show j < 64 by omega, show j < 8 * n by omega, show j % 8 < 8 by omega]
  · simp [c, show ¬ j < 8 * n by omega]
theorem read_hi (a : Nat) (v u : BitVec 64) : readF (two8 a v u) (a + 8) 8 = u := by
  apply BitVec.eq_of_getLsbD_eq; intro j hj
  have := readF_bit (two8 a v u) (a + 8) 8 j hj
  rw [show ((8 : Nat) : Int) = 8 from rfl] at this
  rw [this, two8_hi _ _ _ _ (by omega), byteU_bit, show 8 * (j / 8) + j % 8 = j by omega]
  simp [show j / 8 < 8 by omega, show j % 8 < 8 by omega]
theorem read_lo8 (a : Nat) (v u : BitVec 64) : readF (two8 a v u) a 8 = v := by
  have := read_lo a v u 0 8 (by omega)
  rw [show ((8 : Nat) : Int) = 8 from rfl] at this
  rw [Nat.add_zero] at this
  rw [this]; exact bits_all v
theorem byteU_zero_iff (v : BitVec 64) (k : Nat) : byteU v k = 0 ↔ ∀ j, j < 8 → v.getLsbD (8 * k + j) = false := by
  constructor
  · intro h j hj
    have := byteU_bit v k j
    rw [h] at this
    simp [hj] at this
    exact this
  · intro h
    have e : BitVec.ofNat 64 (byteU v k).toNat = 0#64 := by
      apply BitVec.eq_of_getLsbD_eq; intro j hj
      rw [byteU_bit]
      by_cases c : j < 8
      · rw [h j c]; simp
      · simp [c]
    have e2 := congrArg BitVec.toNat e
    rw [BitVec.toNat_ofNat] at e2
    have := (byteU v k).toNat_lt
    apply UInt8.toNat_inj.1
    simp at e2 ⊢
    omega
theorem same_cut (a : Nat) (v u : BitVec 64) (n : Nat) (hn : n ≤ 8) (ha : a + 16 ≤ 32768) : sameF (putF (two8 a v u) a (bytesL 0#64 n)) (two8 a v u) = (zextB v (8 * n) == 0#64) := by
  rw [Bool.eq_iff_iff, beq_iff_eq]
  constructor
  · intro h
    have h := of_decide_eq_true h
    have hz : ∀ k, k < n → byteU v k = 0 := by
      intro k hk
      have e1 := memL_get (putF (two8 a v u) a (bytesL 0#64 n)) (a + k) (by omega)
      rw [h, memL_get _ _ (by omega), putF_in _ _ _ _ _ hk hn, two8_lo _ _ _ _ (by omega)] at e1
      rw [Option.some.inj e1]
      rw [byteU_zero_iff]; intro j hj; simp
    apply BitVec.eq_of_getLsbD_eq; intro j hj
    rw [zext_bit]
    by_cases c : j < 8 * n
    · have := (byteU_zero_iff v (j / 8)).1 (hz (j / 8) (by omega)) (j % 8) (by omega)
      rw [show 8 * (j / 8) + j % 8 = j by omega] at this
      rw [this]; simp
    · simp [c]
  · intro h
    refine decide_eq_true (memL_congr fun i hi => ?_)
    by_cases c : a ≤ i ∧ i < a + n
    · obtain ⟨k, rfl⟩ : ∃ k, i = a + k := ⟨i - a, by omega⟩
      rw [putF_in _ _ _ _ _ (by omega) hn, two8_lo _ _ _ _ (by omega)]
      have e0 : byteU 0#64 k = 0 := by rw [byteU_zero_iff]; intro j hj; simp
      rw [e0]
      symm
      rw [byteU_zero_iff]
      intro j hj
      have := congrArg (fun x : BitVec 64 => x.getLsbD (8 * k + j)) h
      simp only [zext_bit] at this
      simpa [show 8 * k + j < 64 by omega, show 8 * k + j < 8 * n by omega] using this
    · rw [putF_out _ _ _ _ _ (by omega) hn]
theorem and_not7 (y : Nat) (h : y < 18446744073709551616) : bits .andNot .u64 (y : Int) 7 = ((y / 8 * 8 : Nat) : Int) := by
  have e := u64_andNot_nat y 7 h (by omega)
  rw [show ((7 : Nat) : Int) = 7 from rfl] at e
  rw [e]
  congr 1
  apply Nat.eq_of_testBit_eq; intro j
  have e1 : 18446744073709551615 - 7 = 2 ^ 3 * (2 ^ 61 - 1) := by decide
  rw [Nat.testBit_and, e1, Nat.testBit_two_pow_mul, Nat.testBit_two_pow_sub_one, Nat.mul_comm (y / 8) 8, show (8 : Nat) = 2 ^ 3 from rfl, Nat.testBit_two_pow_mul, Nat.testBit_div_two_pow]
  by_cases c : 3 ≤ j
  · rw [show j - 3 + 3 = j by omega]
    by_cases c2 : j < 64
    · simp [c, show j - 3 < 61 by omega]
    · have : y.testBit j = false := Nat.testBit_lt_two_pow (Nat.lt_of_lt_of_le h (by have : (2 : Nat) ^ 64 ≤ 2 ^ j := Nat.pow_le_pow_right (by omega) (by omega); omega))
      simp [this]
  · simp [c]
theorem code_in (a : Nat) (n : Int) (hn : n = 1 ∨ n = 2 ∨ n = 4 ∨ n = 8) (hd : (a : Int) % n = 0) (ha : a < 32768) : codeOf (BitVec.ofNat 64 a) n = 0 := by
  unfold codeOf
  rw [ofNat_toNat a (by omega), if_neg, if_neg (by omega)]
  rintro (h | h)
  · omega
  · exact h hd
end Go.Proofs.Ytkjbhjmjfacjcaa
