/- The walk laws' plain facts: parts of places, marks of entries, what walks tell of memories with few words; no condition but the numbers' bounds. -/
import Derived.Test.YtkjbhjmjfacjcaaLaid
namespace Go.Proofs.Ytkjbhjmjfacjcaa
open Go.RowKit
set_option linter.unusedSimpArgs false
set_option linter.unusedVariables false
set_option maxRecDepth 100000

theorem bits4 (v : BitVec 64) (lo : Nat) : bitsB v lo 4 = BitVec.ofNat 64 (v.toNat / 2 ^ lo % 16) := by
  apply BitVec.eq_of_toNat_eq
  have hm : (maskB 4).toNat = 2 ^ 4 - 1 := by decide
  unfold bitsB
  rw [BitVec.toNat_and, BitVec.toNat_ushiftRight, hm, Nat.and_two_pow_sub_one_eq_mod, Nat.shiftRight_eq_div_pow, ofNat_toNat _ (by omega)]
theorem at_top (t l c : Nat) (ht : t < 16) (hl : l < 16) (hc : c < 256) : bitsB (BitVec.ofNat 64 (t * 4096 + l * 256 + c)) 12 4 = BitVec.ofNat 64 t := by
  rw [bits4, ofNat_toNat _ (by omega)]; congr 1; omega
theorem at_low (t l c : Nat) (ht : t < 16) (hl : l < 16) (hc : c < 256) : bitsB (BitVec.ofNat 64 (t * 4096 + l * 256 + c)) 8 4 = BitVec.ofNat 64 l := by
  rw [bits4, ofNat_toNat _ (by omega)]; congr 1; omega
theorem mk_ptr : ∀ x : Fin 256, isB (mkB x.1 1) = true ∧ leafB (mkB x.1 1) = false ∧ frameB (mkB x.1 1) = x.1 ∧ leafB (mkB x.1 3) = true := by decide +kernel
theorem mk_great : ∀ (j : Fin 8) (i : Fin 16), isB (mkB (j.1 * 16 + i.1) 207) = true ∧ leafB (mkB (j.1 * 16 + i.1) 207) = true ∧ setB (mkB (j.1 * 16) 207) 8 4 (BitVec.ofNat 64 i.1) = mkB (j.1 * 16 + i.1) 207 ∧ bitsB (mkB (j.1 * 16 + i.1) 207) 8 4 = BitVec.ofNat 64 i.1 := by decide +kernel

section
variable (f : Nat → UInt8) (t l c : Nat) (ht : t < 16) (hl : l < 16) (hc : c < 256)
include ht hl hc
/-- Of a walk from frame 1: by what its first table bears. -/
theorem walk_one (n0 : BitVec 64) (h0 : readF f (256 + t * 8) 8 = n0) :
    walkV f 1 (BitVec.ofNat 64 (t * 4096 + l * 256 + c)) =
      if isB n0 = false then (0#64, 1) else if leafB n0 = true then (if bitsB n0 8 4 = 0#64 then (setB n0 8 4 (BitVec.ofNat 64 l), 0) else (0#64, 1)) else
      if 128 ≤ frameB n0 then (0#64, 2) else
      if leafB (readF f (frameB n0 * 256 + l * 8) 8) = true then (readF f (frameB n0 * 256 + l * 8) 8, 0) else (0#64, 1) := by
  have e1 := at_top t l c ht hl hc
  have e2 := at_low t l c ht hl hc
  unfold walkV
  rw [if_neg (by rw [ofNat_toNat _ (by omega)]; omega), if_neg (by omega), e1, e2, ofNat_toNat t (by omega), ofNat_toNat l (by omega)]
  simp only [show (1 : Int).toNat * 256 + t * 8 = 256 + t * 8 from rfl, h0]
end
/-- A pointer out of memory. -/
theorem ptr_out (t l z : Nat) (ht : t < 16) (hl : l < 16) (hz : z < 256) (hz2 : 128 ≤ z) (f : Nat → UInt8) :
    walkV (putW f (256 + 8 * t) (mkB z 1)) 1 (BitVec.ofNat 64 (t * 4096 + l * 256)) = (0#64, 2) := by
  obtain ⟨p1, p2, p3, _⟩ := mk_ptr ⟨z, hz⟩
  have h := walk_one (putW f (256 + 8 * t) (mkB z 1)) t l 0 ht hl (by omega) (mkB z 1) (by rw [Nat.mul_comm]; exact put_same _ _ _)
  rw [Nat.add_zero] at h
  rw [h, if_neg (by rw [p1]; decide), if_neg (by rw [p2]; decide), p3, if_pos hz2]
/-- A pointer to frame 2, and an entry there. -/
theorem ptr_two (t l : Nat) (n : BitVec 64) (ht : t < 16) (hl : l < 16) (f : Nat → UInt8) :
    walkV (putW (putW f (256 + 8 * t) (mkB 2 1)) (512 + 8 * l) n) 1 (BitVec.ofNat 64 (t * 4096 + l * 256)) = if leafB n = true then (n, 0) else (0#64, 1) := by
  obtain ⟨p1, p2, p3, _⟩ : isB (mkB 2 1) = true ∧ leafB (mkB 2 1) = false ∧ frameB (mkB 2 1) = 2 ∧ leafB (mkB 2 3) = true := mk_ptr ⟨2, by omega⟩
  have h := walk_one (putW (putW f (256 + 8 * t) (mkB 2 1)) (512 + 8 * l) n) t l 0 ht hl (by omega) (mkB 2 1) (by rw [put_other _ _ _ _ (by omega), Nat.mul_comm]; exact put_same _ _ _)
  rw [Nat.add_zero] at h
  rw [h, if_neg (by rw [p1]; decide), if_neg (by rw [p2]; decide), p3, if_neg (by omega), show 2 * 256 + l * 8 = 512 + 8 * l by omega, put_same]
theorem ptr_two2 (t l : Nat) (m n : BitVec 64) (ht : t < 16) (hl : l < 16) (f : Nat → UInt8) :
    walkV (putW (putW (putW f (256 + 8 * t) (mkB 2 1)) (512 + 8 * l) m) (512 + 8 * l) n) 1 (BitVec.ofNat 64 (t * 4096 + l * 256)) = if leafB n = true then (n, 0) else (0#64, 1) := by
  obtain ⟨p1, p2, p3, _⟩ : isB (mkB 2 1) = true ∧ leafB (mkB 2 1) = false ∧ frameB (mkB 2 1) = 2 ∧ leafB (mkB 2 3) = true := mk_ptr ⟨2, by omega⟩
  have h := walk_one (putW (putW (putW f (256 + 8 * t) (mkB 2 1)) (512 + 8 * l) m) (512 + 8 * l) n) t l 0 ht hl (by omega) (mkB 2 1) (by rw [put_other _ _ _ _ (by omega), put_other _ _ _ _ (by omega), Nat.mul_comm]; exact put_same _ _ _)
  rw [Nat.add_zero] at h
  rw [h, if_neg (by rw [p1]; decide), if_neg (by rw [p2]; decide), p3, if_neg (by omega), show 2 * 256 + l * 8 = 512 + 8 * l by omega, put_same]
/-- A great leaf in the first table. -/
theorem great_in (t i j c : Nat) (ht : t < 16) (hi : i < 16) (hj : j < 8) (hc : c < 256) (f : Nat → UInt8) :
    walkV (putW f (256 + 8 * t) (mkB (j * 16) 207)) 1 (BitVec.ofNat 64 (t * 4096 + i * 256 + c)) = (mkB (j * 16 + i) 207, 0) := by
  obtain ⟨q1, q2, _, q4⟩ := mk_great ⟨j, hj⟩ ⟨0, by omega⟩
  obtain ⟨_, _, q3, _⟩ := mk_great ⟨j, hj⟩ ⟨i, hi⟩
  have h := walk_one (putW f (256 + 8 * t) (mkB (j * 16) 207)) t i c ht hi hc (mkB (j * 16) 207) (by rw [Nat.mul_comm]; exact put_same _ _ _)
  simp only [Nat.add_zero] at q1 q2 q4
  rw [h, if_neg (by rw [q1]; decide), if_pos q2, if_pos q4, q3]
theorem great_awry (t j k : Nat) (ht : t < 16) (hk : 1 ≤ k) (hk2 : k < 16) (hj : j < 8) (f : Nat → UInt8) :
    walkV (putW f (256 + 8 * t) (mkB (j * 16 + k) 207)) 1 (BitVec.ofNat 64 (t * 4096)) = (0#64, 1) := by
  obtain ⟨q1, q2, _, q4⟩ := mk_great ⟨j, hj⟩ ⟨k, hk2⟩
  have h := walk_one (putW f (256 + 8 * t) (mkB (j * 16 + k) 207)) t 0 0 ht (by omega) (by omega) (mkB (j * 16 + k) 207) (by rw [Nat.mul_comm]; exact put_same _ _ _)
  rw [Nat.zero_mul, Nat.add_zero, Nat.add_zero] at h
  rw [h, if_neg (by rw [q1]; decide), if_pos q2, if_neg]
  intro e
  rw [q4] at e
  have := congrArg BitVec.toNat e
  rw [ofNat_toNat _ (by omega)] at this
  simp at this
  omega
end Go.Proofs.Ytkjbhjmjfacjcaa
