/- The contracts of the words in one form: what is made lies behind what was there. -/
import Derived.Test.YtkjbhjmjfacjcaaJoin
import Derived.Test.YtkjbhjmjfacjcaaRow
namespace Go.Proofs.Ytkjbhjmjfacjcaa
open Go.RowKit
set_option linter.unusedSimpArgs false
set_option linter.unusedVariables false
set_option maxRecDepth 100000

/-- A call that hands back v and makes at most new blocks. -/
def Gives (P : Program) (f : FuncId) (args : Array Value) (v : Value) : Prop := ∀ w : World, Calls P f args w fun e w' => e = .returned v ∧ Below w.heap.size w w'
theorem Gives.of_same {P : Program} {f : FuncId} {args : Array Value} {v : Value} (h : ∀ w, Calls P f args w fun e w' => e = .returned v ∧ w = w') : Gives P f args v :=
  fun w => (h w).mono fun e w' ⟨he, hw⟩ => ⟨he, by rw [hw]; exact Below.refl _ _⟩
theorem Gives.of_drew {P : Program} {f : FuncId} {args : Array Value} {v : Value} (h : ∀ w, Calls P f args w fun e w' => e = .returned v ∧ ∃ k, w' = w.drewN k) : Gives P f args v :=
  fun w => (h w).mono fun e w' ⟨he, k, hw⟩ => ⟨he, by rw [hw]; exact ⟨rfl, rfl, rfl, Nat.le_refl _, fun _ _ => rfl⟩⟩
/-- Behind what has been made so far. -/
theorem Gives.on {P : Program} {f : FuncId} {args : Array Value} {v : Value} {W w : World} (h : Gives P f args v) (HB : Below W.heap.size W w) :
    Calls P f args w fun e w' => e = .returned v ∧ Below W.heap.size W w' :=
  (h w).mono fun e w' ⟨he, hb⟩ => ⟨he, HB.trans (hb.mono HB.size)⟩

theorem Gives.to {P : Program} {f : FuncId} {args : Array Value} {v u : Value} (h : Gives P f args v) (e : v = u) : Gives P f args u := e ▸ h
theorem U_eq {x y : BitVec 64} (h : x = y) : U x = U y := by rw [h]

theorem zext_b (v : BitVec 64) (n : Int) : Gives Try.prog 70 #[U v, .int .i64 n] (U (zextB v (wOf n))) := .of_same (zext_any v n)
theorem bits_b (v : BitVec 64) (lo n : Int) : Gives Try.prog 65 #[U v, .int .i64 lo, .int .i64 n] (U (bitsB v (loOf lo) (nOf lo n))) := .of_drew (bits_any v lo n)
theorem set_b (v : BitVec 64) (lo n : Int) (x : BitVec 64) : Gives Try.prog 69 #[U v, .int .i64 lo, .int .i64 n, U x] (U (setB v (loOf lo) (nOf lo n) x)) := .of_drew (set_any v lo n x)
theorem get_b (s : ByteArray) (at_ n : Int) (hs : s.size ≤ 140737488351232) : Gives Try.prog 62 #[.string s, .int .i64 at_, .int .i64 n] (U (getB s at_ n)) := fun w => get_any s at_ n w (by omega)
theorem bytes_b (v : BitVec 64) (n : Int) : Gives Try.prog 55 #[U v, .int .i64 n] (.string (bytesB v (held 0 8 n))) := bytes_any v n
end Go.Proofs.Ytkjbhjmjfacjcaa
