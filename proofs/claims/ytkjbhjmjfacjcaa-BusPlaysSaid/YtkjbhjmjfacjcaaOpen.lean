/- Small lemmas: numbers opened, min and max, names. -/
import Derived.Test.YtkjbhjmjfacjcaaGives
namespace Go.Proofs.Ytkjbhjmjfacjcaa
open Go.RowKit
set_option linter.unusedSimpArgs false
set_option linter.unusedVariables false
set_option maxRecDepth 100000

theorem u64_open {a : Int} (h : (Lit.int .u64 a).wf = true) : ∃ x : BitVec 64, a = (x.toNat : Int) := by
  have h2 := h
  simp [Lit.wf, IntKind.min, IntKind.max, IntKind.signed, IntKind.bits] at h2
  exact ⟨BitVec.ofInt 64 a, by rw [BitVec.toNat_ofInt]; omega⟩
theorem u8_open {a : Int} (h : (Lit.int .u8 a).wf = true) : ∃ x : Nat, a = (x : Int) ∧ x < 256 := by
  have h2 := h
  simp [Lit.wf, IntKind.min, IntKind.max, IntKind.signed, IntKind.bits] at h2
  exact ⟨a.toNat, by omega, by omega⟩
theorem bytes_size (v : BitVec 64) (m : Nat) : (bytesB v m).size ≤ 140737488351232 := by
  show (bytesL v m).toArray.size ≤ _
  unfold bytesL; simp; omega
theorem i32_open {a : Int} (h : (Lit.int .i32 a).wf = true) : -2147483648 ≤ a ∧ a ≤ 2147483647 := by
  have h2 := h
  simp [Lit.wf, IntKind.min, IntKind.max, IntKind.signed, IntKind.bits] at h2
  omega
theorem min_run {P : Program} (ats : Array TypeId) (ty : TypeId) (k : IntKind) (a b c : Int) (h : (if b < a then b else a) = c) (W : World) : (Builtin.min_ ats ty #[.int k a, .int k b]).run P W = .ok (.int k c) W := by
  have e : Builtin.min_ ats ty #[.int k a, .int k b] = pure (.int k c) := by rw [← h]; simp [Builtin.min_, Builtin.min2]
  rw [e]; rfl
theorem max_run {P : Program} (ats : Array TypeId) (ty : TypeId) (k : IntKind) (a b c : Int) (h : (if a < b then b else a) = c) (W : World) : (Builtin.max_ ats ty #[.int k a, .int k b]).run P W = .ok (.int k c) W := by
  have e : Builtin.max_ ats ty #[.int k a, .int k b] = pure (.int k c) := by rw [← h]; simp [Builtin.max_, Builtin.max2]
  rw [e]; rfl
theorem name_int (a : Int) : ∃ b : Int, a = b := ⟨a, rfl⟩
theorem U_of (x : Nat) (h : x < 18446744073709551616) : U (BitVec.ofNat 64 x) = .int .u64 (x : Int) := by
  unfold U; rw [BitVec.toNat_ofNat, Nat.mod_eq_of_lt h]
theorem ofNat_toNat (x : Nat) (h : x < 18446744073709551616) : (BitVec.ofNat 64 x).toNat = x := by rw [BitVec.toNat_ofNat, Nat.mod_eq_of_lt h]
theorem u16_open {a : Int} (h : (Lit.int .u16 a).wf = true) : ∃ x : Nat, a = (x : Int) ∧ x < 65536 := by
  have h2 := h
  simp [Lit.wf, IntKind.min, IntKind.max, IntKind.signed, IntKind.bits] at h2
  exact ⟨a.toNat, by omega, by omega⟩
theorem Gives.run {P : Program} {f : FuncId} {args : Array Value} {v : Value} (h : Gives P f args v) (w : World) : Calls P f args w fun e w' => e = .returned v ∧ Below w.heap.size w w' := h w
theorem un_xor (v : BitVec 64) : Op.unary .xor (.int .u64 (v.toNat : Int)) = (pure (.int .u64 ((~~~v).toNat : Int)) : Sem Value) := by
  have e : bits .xor .u64 (18446744073709551615 : Int) (v.toNat : Int) = ((~~~v).toNat : Int) := by
    have e1 := u_xor (BitVec.allOnes 64) v
    have e2 : ((BitVec.allOnes 64).toNat : Int) = 18446744073709551615 := rfl
    rw [e2] at e1
    rw [e1, BitVec.allOnes_xor]
  rw [← e]; rfl
end Go.Proofs.Ytkjbhjmjfacjcaa
