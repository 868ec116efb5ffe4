/- Contracts of package word's functions (but Get and Bytes) and of the references' twins: what each returns, as a bit vector; no condition but that the arguments are of their kinds. -/
import Derived.WalkKit
import Derived.Deep.QuietTactic
import Derived.BigQuiet
import Derived.Outline
import Derived.Handy
import Derived.Test.YtkhiegmjdflkmaaWords
namespace Go.Proofs.Ytkhiegmjdflkmaa
open Go.RowKit

theorem ret_u {a : Int} {x : BitVec 64} (h : a = (x.toNat : Int)) : Ending.returned (.int .u64 a) = .returned (U x) := by rw [h]
theorem ret_ii {a b c d : Int} (h : a = c) (h2 : b = d) : Ending.returned (.tuple #[.int .i64 a, .int .i64 b]) = .returned (.tuple #[.int .i64 c, .int .i64 d]) := by rw [h, h2]
theorem ret_b {a b : Bool} (h : a = b) : Ending.returned (.bool a) = .returned (.bool b) := by rw [h]

theorem quiet_left {P : Program} {f : FuncId} {args : Array Value} {w : World} {n : Nat} {v : Value}
    (h : Calls P f args (w.drewN n) fun e w' => e = .returned v ∧ w.drewN n = w') : Calls P f args (w.drewN n) fun e w'' => e = .returned v ∧ ∃ m, w'' = w.drewN m :=
  h.mono fun _ _ ⟨he, hm⟩ => ⟨he, n, hm.symm⟩
theorem wOf_lo {n : Int} (h : n < 1) : wOf n = 1 := by simp only [wOf, held, if_pos h]; rfl
theorem wOf_mid {n : Int} (h : 1 ≤ n) (h2 : n ≤ 64) : wOf n = n.toNat := by simp only [wOf, held]; rw [if_neg (by omega), if_neg (by omega)]
theorem wOf_hi {n : Int} (h2 : 64 < n) : wOf n = 64 := by simp only [wOf, held]; rw [if_neg (by omega), if_pos h2]; rfl
end Go.Proofs.Ytkhiegmjdflkmaa
