/- The document's port; no condition. -/
import Derived.Test.YtkjbhjmjfacjcaaRefBusA
namespace Go.Proofs.Ytkjbhjmjfacjcaa
open Go.RowKit Go.BigFrame
set_option linter.unusedSimpArgs false
set_option linter.unusedVariables false
set_option maxRecDepth 100000

def pOf (a : BitVec 64) : Int := match conOf a 1 with | some k => (k : Int) | none => -1
theorem rport (a : BitVec 64) (w : World) : Calls Try.prog 63 #[U a] w fun e w' => e = .returned (.int .i64 (pOf a)) ∧ w = w' := by
  unfold pOf
  by_cases h2 : 61696 ≤ a.toNat
  · have s1 : IntKind.u64.wrap ((a.toNat : Int) - 61696) = ((a.toNat - 61696 : Nat) : Int) := by rw [show (a.toNat : Int) - 61696 = ((a.toNat - 61696 : Nat) : Int) by omega]; exact IntWalk.u64_in _ ⟨by omega, by have := a.isLt; omega⟩
    have l1 : decide ((a.toNat : Int) < 61696) = false := decide_eq_false (by omega)
    by_cases h3 : (a.toNat - 61696) % 256 = 0
    · have r1 : (((a.toNat - 61696 : Nat) : Int) % 256 != 0) = false := by rw [bne_eq_false_iff_eq]; omega
      have r2 : ((a.toNat - 61696 : Nat) : Int) / 256 = (((a.toNat - 61696) / 256 : Nat) : Int) := by omega
      have r3 : IntKind.u64.wrap (((a.toNat - 61696) / 256 : Nat) : Int) = (((a.toNat - 61696) / 256 : Nat) : Int) := IntWalk.u64_in _ ⟨by omega, by have := a.isLt; omega⟩
      by_cases h4 : (a.toNat - 61696) / 256 < 4
      · have c : conOf a 1 = some ((a.toNat - 61696) / 256) := by unfold conOf; rw [if_pos ⟨rfl, h2, h3, h4⟩]
        rw [c]
        have r4 : decide ((4 : Int) ≤ (((a.toNat - 61696) / 256 : Nat) : Int)) = false := decide_eq_false (by omega)
        have r5 : IntKind.i64.wrap (((a.toNat - 61696) / 256 : Nat) : Int) = (((a.toNat - 61696) / 256 : Nat) : Int) := IntWalk.i64_in _ ⟨by omega, by omega⟩
        generalize (a.toNat - 61696) / 256 = q at *
        generalize a.toNat - 61696 = y at *
        clear h4 h3 h2 c
        go_enter Try.func63, Try.ntmps63
        go_wp2
        go_ret
        exact ⟨rfl, rfl⟩
      · have c : conOf a 1 = none := by unfold conOf; rw [if_neg (by omega)]
        rw [c]
        have r4 : decide ((4 : Int) ≤ (((a.toNat - 61696) / 256 : Nat) : Int)) = true := decide_eq_true (by omega)
        generalize (a.toNat - 61696) / 256 = q at *
        generalize a.toNat - 61696 = y at *
        clear h4 h3 h2 c
        go_enter Try.func63, Try.ntmps63
        go_wp2
        go_ret
        exact ⟨rfl, rfl⟩
    · have r1 : (((a.toNat - 61696 : Nat) : Int) % 256 != 0) = true := by rw [bne_iff_ne]; omega
      have c : conOf a 1 = none := by unfold conOf; rw [if_neg (by omega)]
      rw [c]
      generalize a.toNat - 61696 = y at *
      clear h3 h2 c
      go_enter Try.func63, Try.ntmps63
      go_wp2
      go_ret
      exact ⟨rfl, rfl⟩
  · have l1 : decide ((a.toNat : Int) < 61696) = true := decide_eq_true (by omega)
    have c : conOf a 1 = none := by unfold conOf; rw [if_neg (by omega)]
    rw [c]
    clear h2 c
    go_enter Try.func63, Try.ntmps63
    go_wp2
    go_ret
    exact ⟨rfl, rfl⟩
end Go.Proofs.Ytkjbhjmjfacjcaa
