/- The walks of WalkNone, WalkPointers, WalkGreat. -/
import Derived.Test.YtkjbhjmjfacjcaaKnown11
import Derived.Test.YtkjbhjmjfacjcaaPlain11
namespace Go.Proofs.Ytkjbhjmjfacjcaa
open Go.RowKit Go.BigFrame
set_option linter.unusedSimpArgs false
set_option linter.unusedVariables false
set_option maxRecDepth 100000

set_option maxHeartbeats 2000000 in
theorem none1 (root : Int) (x : BitVec 64) (c : Int) (b0 b1 b2 : Bool) (w : World) (h0 : decide ((x.toNat : Int) < 65536) = b0) (h1 : decide (root < 0) = b1) (h2 : decide ((128 : Int) ≤ root) = b2)
    (hn : noneC root x = (if b0 && (b1 || b2) then 2 else 1)) :
    Calls Try.prog 6 #[.int .i64 root, U x] w fun e w' => e = .returned (.bool true) ∧ Below w.heap.size w w' := by
  have Z := Lib.hid (walk_zero root x)
  have NC := Lib.hid hn
  have KN := Lib.hid (fun w => walk_nil root x w)
  clear hn
  cases b0 <;> cases b1 <;> cases b2 <;> simp only [Bool.false_and, Bool.true_and, Bool.or_false, Bool.false_or, Bool.or_true, Bool.true_or, Bool.false_eq_true, if_true, if_false, ite_true, ite_false] at NC
  all_goals (
    have HB := Below.refl w.heap.size w
    go_enter Try.func6, Try.ntmps6
    go_wp2_with fail
    (with_reducible refine (known11_b.on HB).mono ?_)
    rintro e w1 ⟨rfl, HB1⟩
    replace HB := HB1
    clear HB1
    go_wp2_with fail
    refine (new_all _).mono ?_
    rintro e w2 ⟨p, g, rfl, hp, hg, hpl, hgl, M, hb⟩
    have hg2 : w.heap.size ≤ g := Nat.le_trans HB.size hg
    replace HB := HBstep HB hb
    clear hb hg hp hpl hgl
    go_wp2_with fail
    have key := walk_all root (x) w2 M
    rw [Z.out, NC.out] at key
    (with_reducible refine key.mono ?_)
    clear key
    rintro e w3 ⟨rfl, hb⟩
    replace HB := HBstep HB hb
    replace M := M.below hb
    clear hb
    go_wp2_with fail
    have key := KN.out w3
    rw [NC.out] at key
    (with_reducible refine key.mono ?_)
    clear key
    rintro e w4 ⟨rfl, hb⟩
    replace HB := HBstep HB hb
    clear hb
    go_wp2
    go_ret
    exact ⟨rfl, HB⟩)
theorem walkWalkNone (a0 a1 : Int) (h0 : (Lit.int .i64 a0).wf = true) (h1 : (Lit.int .u64 a1).wf = true) (w : World) :
    Calls Try.prog 6 #[.int .i64 a0, .int .u64 a1] w fun e w' => e = .returned (.bool true) ∧ Below w.heap.size w w' := by
  obtain ⟨x, rfl⟩ := u64_open h1
  refine none1 a0 x 0 _ _ _ w rfl rfl rfl ?_
  unfold noneC
  by_cases c1 : x.toNat < 65536 <;> by_cases c2 : a0 < 0 <;> by_cases c3 : 128 ≤ a0 <;> simp [c1, c2, c3] <;> omega
end Go.Proofs.Ytkjbhjmjfacjcaa
