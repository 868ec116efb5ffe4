/- The document's tables: its Make; entries read, walks; what a page's laying does; no condition but the arguments' own. -/
import Derived.Test.YtkjbhjmjfacjcaaPte
namespace Go.Proofs.Ytkjbhjmjfacjcaa
open Go.RowKit Go.BigFrame
set_option linter.unusedSimpArgs false
set_option linter.unusedVariables false
set_option maxRecDepth 100000

theorem and255i (n : Int) : bits .and .i64 n 255 = n % 256 := by
  have h255 : (BitVec.ofInt 64 255).toNat = 2 ^ 8 - 1 := by decide
  have key : (BitVec.ofInt 64 n &&& BitVec.ofInt 64 255).toNat = (n % ((2 ^ 64 : Nat) : Int)).toNat % 2 ^ 8 := by
    rw [BitVec.toNat_and, BitVec.toNat_ofInt, h255, Nat.and_two_pow_sub_one_eq_mod]
  show IntKind.i64.wrap ((BitVec.ofInt 64 n &&& BitVec.ofInt 64 255).toNat : Nat) = n % 256
  rw [key, IntKind.wrap_i64]
  omega
theorem and255 (x : Nat) (hx : x < 9223372036854775808) : bits .and .i64 (x : Int) 255 = ((x % 256 : Nat) : Int) := by
  rw [and255i]; omega
theorem rmake_b (x y : Nat) (hx : x < 9223372036854775808) (hy : y < 9223372036854775808) :
    Gives Try.prog 21 #[.int .i64 (x : Int), .int .i64 (y : Int)] (U (mkB x y)) := by
  refine .of_same fun w => ?_
  have e1 := and255 x hx
  have e2 := and255 y hy
  have e3 : IntKind.u64.wrap ((x % 256 : Nat) : Int) = ((x % 256 : Nat) : Int) := IntWalk.u64_in _ ⟨by omega, by omega⟩
  have e4 : IntKind.u64.wrap ((y % 256 : Nat) : Int) = ((y % 256 : Nat) : Int) := IntWalk.u64_in _ ⟨by omega, by omega⟩
  have hm : mkB x y = BitVec.ofNat 64 (x % 256 * 256 + y % 256) := rfl
  have e5 : IntKind.u64.wrap (((x % 256 : Nat) : Int) * 256) = (((x % 256 * 256 : Nat)) : Int) := by
    rw [show ((x % 256 : Nat) : Int) * 256 = (((x % 256 * 256 : Nat)) : Int) by omega]; exact IntWalk.u64_in _ ⟨by omega, by omega⟩
  have e6 : bits .or .u64 ((x % 256 * 256 : Nat) : Int) ((y % 256 : Nat) : Int) = ((mkB x y).toNat : Int) := by
    rw [hm, ofNat_toNat _ (by omega)]
    have h1 := u_or (BitVec.ofNat 64 (x % 256 * 256)) (BitVec.ofNat 64 (y % 256))
    rw [ofNat_toNat _ (by omega), ofNat_toNat _ (by omega)] at h1
    rw [h1, BitVec.toNat_or, ofNat_toNat _ (by omega), ofNat_toNat _ (by omega)]
    have := Nat.shiftLeft_add_eq_or_of_lt (show y % 256 < 2 ^ 8 by omega) (x % 256)
    rw [Nat.shiftLeft_eq] at this
    rw [show (256 : Nat) = 2 ^ 8 from rfl, this]
  clear hm
  generalize hp : x % 256 * 256 = p at *
  generalize x % 256 = a at *
  generalize y % 256 = b at *
  generalize mkB x y = m at *
  clear hp
  go_enter Try.func21, Try.ntmps21
  go_wp2
  go_ret
  exact ⟨rfl, rfl⟩

def entF (f : Nat → UInt8) (frame : Int) (index : Nat) : BitVec 64 := if 0 ≤ frame ∧ frame < 128 then readF f (frame.toNat * 256 + index * 8) 8 else 0#64
def entC (frame : Int) : Int := if 0 ≤ frame ∧ frame < 128 then 0 else 2
theorem entry_yes {p g : Nat} {f : Nat → UInt8} (x k : Nat) (w : World) (hM : IsMem w p g 88 f) (hx : x < 128) (hk : k < 16) :
    Calls Try.prog 18 #[.pointer (some ⟨p, 0, none⟩), .int .i64 (x : Int), .int .i64 (k : Int)] w fun e w' => e = .returned (.tuple #[U (readF f (x * 256 + k * 8) 8), .bool true]) ∧ Below w.heap.size w w' := by
  have key := read_yes (BitVec.ofNat 64 (x * 256 + k * 8)) 8 w hM (code_in _ 8 (by omega) (by omega) (by omega))
  rw [U_of _ (by omega), ofNat_toNat _ (by omega), show ((x * 256 + k * 8 : Nat) : Int) = (x : Int) * 256 + (k : Int) * 8 by omega, show ((8 : Nat) : Int) = 8 from rfl] at key
  have e3 : IntKind.u64.wrap ((x : Int) * 256 + (k : Int) * 8) = (x : Int) * 256 + (k : Int) * 8 := IntWalk.u64_in _ ⟨by omega, by omega⟩
  generalize readF f (x * 256 + k * 8) 8 = v at *
  clear hM
  go_enter Try.func18, Try.ntmps18
  go_wp2_with (go_at_call 35; (with_reducible refine key.mono ?_); rintro e w' ⟨rfl, HB⟩)
  go_ret2
  exact ⟨rfl, HB⟩
theorem entry_nil (x k : Nat) (w : World) (hx : x < 128) (hk : k < 16) :
    Calls Try.prog 18 #[.pointer none, .int .i64 (x : Int), .int .i64 (k : Int)] w fun e w' => e = .returned (.tuple #[U 0#64, .bool true]) ∧ Below w.heap.size w w' := by
  have HB := Below.refl w.heap.size w
  go_enter Try.func18, Try.ntmps18
  go_wp2
  go_ret2
  exact ⟨rfl, HB⟩
theorem entry_no (m : Value) (x k : Int) (w : World) (h : x < 0 ∨ 128 ≤ x ∨ k < 0 ∨ 16 ≤ k) :
    Calls Try.prog 18 #[m, .int .i64 x, .int .i64 k] w fun e w' => e = .returned (.tuple #[.int .u64 0, .bool false]) ∧ Below w.heap.size w w' := by
  have HB := Below.refl w.heap.size w
  have h4 : (decide (x < 0) || decide (128 ≤ x) || decide (k < 0) || decide (16 ≤ k)) = true := by simp; omega
  generalize h1 : decide (x < 0) = b1 at *
  generalize h2 : decide (128 ≤ x) = b2 at *
  generalize h3 : decide (k < 0) = b3 at *
  generalize h5 : decide (16 ≤ k) = b5 at *
  clear h
  go_enter Try.func18, Try.ntmps18
  cases b1 <;> cases b2 <;> cases b3 <;> cases b5 <;> first | (exact absurd h4 (by decide)) | (go_wp2; go_ret2; exact ⟨rfl, HB⟩)

/-- What the closure of Walk tells: an entry and a code. -/
theorem read_in {p g : Nat} {f : Nat → UInt8} (b x k : Nat) (w : World) (hM : IsMem w p g 88 f) (hx : x < 128) (hk : k < 16) (hb : w.cell? ⟨b, 0, none⟩ = some (.pointer (some ⟨p, 0, none⟩))) :
    Calls Try.prog 48 #[.int .i64 (x : Int), .int .i64 (k : Int), .pointer (some ⟨b, 0, none⟩)] w fun e w' => e = .returned (.tuple #[U (readF f (x * 256 + k * 8) 8), .int .i64 0]) ∧ Below w.heap.size w w' := by
  have key := entry_yes x k w hM hx hk
  generalize readF f (x * 256 + k * 8) 8 = v at *
  clear hM
  go_enter Try.func48, Try.ntmps48
  go_wp2_with (go_at_call 18; (with_reducible refine key.mono ?_); rintro e w' ⟨rfl, HB⟩)
  go_ret2
  exact ⟨rfl, HB⟩
theorem read_nil (b x k : Nat) (w : World) (hx : x < 128) (hk : k < 16) (hb : w.cell? ⟨b, 0, none⟩ = some (.pointer none)) :
    Calls Try.prog 48 #[.int .i64 (x : Int), .int .i64 (k : Int), .pointer (some ⟨b, 0, none⟩)] w fun e w' => e = .returned (.tuple #[U 0#64, .int .i64 0]) ∧ Below w.heap.size w w' := by
  have key := entry_nil x k w hx hk
  go_enter Try.func48, Try.ntmps48
  go_wp2_with (go_at_call 18; (with_reducible refine key.mono ?_); rintro e w' ⟨rfl, HB⟩)
  go_ret2
  exact ⟨rfl, HB⟩
theorem read_out (m : Value) (b : Nat) (x k : Int) (w : World) (h : x < 0 ∨ 128 ≤ x) (hb : w.cell? ⟨b, 0, none⟩ = some m) :
    Calls Try.prog 48 #[.int .i64 x, .int .i64 k, .pointer (some ⟨b, 0, none⟩)] w fun e w' => e = .returned (.tuple #[.int .u64 0, .int .i64 2]) ∧ Below w.heap.size w w' := by
  have key := entry_no m x k w (by omega)
  clear h
  go_enter Try.func48, Try.ntmps48
  go_wp2_with (go_at_call 18; (with_reducible refine key.mono ?_); rintro e w' ⟨rfl, HB⟩)
  go_ret2
  exact ⟨rfl, HB⟩
end Go.Proofs.Ytkjbhjmjfacjcaa
