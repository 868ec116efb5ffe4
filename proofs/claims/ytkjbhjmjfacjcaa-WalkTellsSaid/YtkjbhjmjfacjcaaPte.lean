/- Entries of tables: what the packages pte and the document's tables make of words; no condition but the arguments' own. -/
import Derived.Test.YtkjbhjmjfacjcaaMemH
namespace Go.Proofs.Ytkjbhjmjfacjcaa
open Go.RowKit Go.BigFrame
set_option linter.unusedSimpArgs false
set_option linter.unusedVariables false
set_option maxRecDepth 100000

def isB (e : BitVec 64) : Bool := (e &&& 1#64 != 0#64) && ((e &&& 4#64 == 0#64) || (e &&& 2#64 != 0#64)) && (e &&& 32#64 == 0#64) && (e >>> 16 == 0#64)
def leafB (e : BitVec 64) : Bool := isB e && (e &&& 10#64 != 0#64)
def frameB (e : BitVec 64) : Nat := (bitsB e 8 8).toNat
def makeB (x y : BitVec 64) : BitVec 64 := setB (zextB y 8) 8 8 x
theorem w8 : wOf 8 = 8 := by decide
theorem l8 : loOf 8 = 8 := by decide
theorem l12 : loOf 12 = 12 := by decide
theorem n88 : nOf 8 8 = 8 := by decide
theorem n84 : nOf 8 4 = 4 := by decide
theorem n124 : nOf 12 4 = 4 := by decide
theorem bits_lt (v : BitVec 64) (lo n : Nat) (h : n ≤ 63) : (bitsB v lo n).toNat < 2 ^ n := by
  apply Nat.lt_pow_two_of_testBit
  intro i hi
  rw [← BitVec.getLsbD, bits_bit]
  simp; omega
theorem i64_of_u64 (x : BitVec 64) (h : x.toNat < 9223372036854775808) : IntKind.i64.wrap (x.toNat : Int) = (x.toNat : Int) := IntWalk.i64_in _ ⟨by omega, by omega⟩

theorem pmake_b (frame b : Int) (x y : BitVec 64) (hx : IntKind.u64.wrap frame = (x.toNat : Int)) (hy : IntKind.u64.wrap b = (y.toNat : Int)) :
    Gives Try.prog 53 #[.int .i64 frame, .int .i64 b] (U (makeB x y)) := by
  intro w
  have HB := Below.refl w.heap.size w
  have z := zext_b y 8
  have s := set_b (zextB y 8) 8 8 x
  rw [w8] at z
  rw [l8, n88] at s
  go_enter Try.func53, Try.ntmps53
  go_wp2_with (first
    | (go_at_call 70; (with_reducible refine (z.on HB).mono ?_); clear HB; rintro e w' ⟨rfl, HB⟩)
    | (go_at_call 69; (with_reducible refine (s.on HB).mono ?_); clear HB; rintro e w' ⟨rfl, HB⟩))
  go_ret
  exact ⟨rfl, HB⟩
theorem pframe_b (e : BitVec 64) : Gives Try.prog 68 #[U e] (.int .i64 (frameB e : Int)) := by
  intro w
  have HB := Below.refl w.heap.size w
  have s := bits_b e 8 8
  rw [l8, n88] at s
  have hw := i64_of_u64 (bitsB e 8 8) (by have := bits_lt e 8 8 (by omega); omega)
  go_enter Try.func68, Try.ntmps68
  go_wp2_with (go_at_call 65; (with_reducible refine (s.on HB).mono ?_); clear HB; rintro e w' ⟨rfl, HB⟩)
  go_ret
  exact ⟨rfl, HB⟩
theorem u_test (e : BitVec 64) (k : Nat) (c : Int) (hc : (k : Int) = c) (hk : k < 18446744073709551616) : (bits .and .u64 (e.toNat : Int) c == 0) = (e &&& BitVec.ofNat 64 k == 0#64) := by
  have h1 := u_and e (BitVec.ofNat 64 k)
  rw [ofNat_toNat k hk, hc] at h1
  rw [h1]
  exact u_beq _ 0#64
theorem pis_b (e : BitVec 64) : Gives Try.prog 66 #[U e] (.bool (isB e)) := by
  refine .of_same fun w => ?_
  have t1 := u_test e 1 1 rfl (by decide)
  have t4 := u_test e 4 4 rfl (by decide)
  have t2 := u_test e 2 2 rfl (by decide)
  have t32 := u_test e 32 32 rfl (by decide)
  have ts : ((e.toNat : Int) / 65536 == 0) = (e >>> 16 == 0#64) := by have := u_shr e 16; rw [show (65536 : Int) = 2 ^ 16 from rfl, this]; exact u_beq _ 0#64
  have tn : isB e = (!(e &&& 1#64 == 0#64) && ((e &&& 4#64 == 0#64) || !(e &&& 2#64 == 0#64)) && (e &&& 32#64 == 0#64) && (e >>> 16 == 0#64)) := rfl
  rw [tn]
  clear tn
  generalize (e &&& 1#64 == 0#64) = b1 at *
  generalize (e &&& 4#64 == 0#64) = b4 at *
  generalize (e &&& 2#64 == 0#64) = b2 at *
  generalize (e &&& 32#64 == 0#64) = b32 at *
  generalize (e >>> 16 == 0#64) = bs at *
  have n1 : (bits .and .u64 (e.toNat : Int) 1 != 0) = !b1 := congrArg Bool.not t1
  have n2 : (bits .and .u64 (e.toNat : Int) 2 != 0) = !b2 := congrArg Bool.not t2
  go_enter Try.func66, Try.ntmps66
  cases b1 <;> cases b4 <;> cases b2 <;> cases b32 <;> cases bs <;> (go_wp2; go_ret; exact ⟨rfl, rfl⟩)
theorem pleaf_b (e : BitVec 64) : Gives Try.prog 67 #[U e] (.bool (leafB e)) := by
  intro w
  have HB := Below.refl w.heap.size w
  have t10 := u_test e 10 10 rfl (by decide)
  have tn : leafB e = (isB e && !(e &&& 10#64 == 0#64)) := rfl
  rw [tn]
  clear tn
  have hp := pis_b e
  generalize isB e = i at *
  generalize (e &&& 10#64 == 0#64) = b at *
  have n1 : (bits .and .u64 (e.toNat : Int) 10 != 0) = !b := congrArg Bool.not t10
  go_enter Try.func67, Try.ntmps67
  cases i <;> cases b <;> (go_wp2_with (go_at_call 66; (with_reducible refine (hp.on HB).mono ?_); clear HB; rintro e w' ⟨rfl, HB⟩); go_ret; exact ⟨rfl, HB⟩)
/-- The document's Make at numbers that are none below zero. -/
def mkB (frame b : Nat) : BitVec 64 := BitVec.ofNat 64 (frame % 256 * 256 + b % 256)
end Go.Proofs.Ytkjbhjmjfacjcaa
