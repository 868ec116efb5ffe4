/- The walk of BusTimes. -/
import Derived.Test.YtkjbhjmjfacjcaaKnown7
namespace Go.Proofs.Ytkjbhjmjfacjcaa
open Go.RowKit Go.BigFrame
set_option linter.unusedSimpArgs false
set_option linter.unusedVariables false
set_option maxRecDepth 100000

set_option maxHeartbeats 4000000 in
theorem times1 (t a : BitVec 64) (q r : Bool) (w : World) (hr : decide (a.toNat ≤ t.toNat) = r) (hr2 : decide ((a.toNat : Int) ≤ (t.toNat : Int)) = r) (hq : ((t.toNat : Int) == 18446744073709551615) = q) (hq2 : decide ((18446744073709551615#64).toNat ≤ t.toNat) = q) :
    Calls Try.prog 9 #[U t, U a] w fun e w' => e = .returned (.bool true) ∧ Below w.heap.size w w' := by
  have C1 := Lib.hid (show codeOf 61440#64 4 = 60 by decide +kernel)
  have R := Lib.hid hr
  have Q := Lib.hid hq2
  clear hq2
  cases r <;> cases q
  all_goals (
    go_enter Try.func9, Try.ntmps9
    go_wp2_with fail
    (with_reducible refine (known7_b.run _).mono ?_)
    rintro e w1 ⟨rfl, HB0⟩
    go_wp2_with fail
    refine (bnew_nil _).mono ?_
    rintro e w2 ⟨b, rfl, hb0, H, HB⟩
    go_wp2_with fail
    have key : Calls Try.prog 28 #[.pointer (some ⟨b, 0, none⟩), .int .u64 61448, .int .i64 8, U a] w2 _ := bwrite_alarm b w1.heap.size _ a w2 H
    (with_reducible refine key.mono ?_)
    clear key
    rintro e w3 ⟨rfl, hu, H'⟩
    replace HB := Upd.below HB hu HB.size hb0
    replace H := H'
    clear H' hu
    go_wp2_with fail
    have key : Calls Try.prog 30 #[.pointer (some ⟨b, 0, none⟩), U t] w3 _ := bsettime b w1.heap.size t _ w3 H
    (with_reducible refine key.mono ?_)
    clear key
    rintro e w4 ⟨rfl, hu, H'⟩
    replace HB := Upd.below HB hu HB.size hb0
    replace H := H'
    clear H' hu
    go_wp2_with fail
    have key : Calls Try.prog 31 #[.pointer (some ⟨b, 0, none⟩)] w4 _ := btimer b w1.heap.size _ w4 H
    rw [R.out] at key
    (with_reducible refine key.mono ?_)
    clear key
    rintro e w5 ⟨rfl, k, hw⟩
    have hb := Below.of_drew (w := w4) k
    rw [← hw] at hb
    replace HB := HBstep HB hb
    replace H := H.below hb
    clear hb hw
    go_wp2_with fail
    have key : Calls Try.prog 27 #[.pointer (some ⟨b, 0, none⟩), .int .u64 61448, .int .i64 8] w5 _ := bread_alarm b w1.heap.size _ w5 H
    (with_reducible refine key.mono ?_)
    clear key
    rintro e w6 ⟨rfl, hw⟩
    subst hw
    go_wp2_with fail
    have key : Calls Try.prog 27 #[.pointer (some ⟨b, 0, none⟩), .int .u64 61440, .int .i64 8] w5 _ := bread_time b w1.heap.size _ w5 H
    (with_reducible refine key.mono ?_)
    clear key
    rintro e w6 ⟨rfl, hw⟩
    subst hw
    go_wp2_with fail
    have key : Calls Try.prog 28 #[.pointer (some ⟨b, 0, none⟩), .int .u64 61448, .int .i64 8, .int .u64 18446744073709551615] w5 _ := bwrite_alarm b w1.heap.size _ 18446744073709551615#64 w5 H
    (with_reducible refine key.mono ?_)
    clear key
    rintro e w6 ⟨rfl, hu, H'⟩
    replace HB := Upd.below HB hu HB.size hb0
    replace H := H'
    clear H' hu
    go_wp2_with fail
    have key : Calls Try.prog 27 #[.pointer (some ⟨b, 0, none⟩), .int .u64 61440, .int .i64 4] w6 _ := bread_mem b w1.heap.size _ 61440#64 4 w6 H (by decide +kernel) (by decide) (by decide)
    rw [C1.out] at key
    (with_reducible refine key.mono ?_)
    clear key
    rintro e w7 ⟨rfl, hb⟩
    replace HB := HBstep HB hb
    replace H := H.below hb
    clear hb
    go_wp2_with fail
    have key : Calls Try.prog 31 #[.pointer (some ⟨b, 0, none⟩)] w7 _ := btimer b w1.heap.size _ w7 H
    rw [Q.out] at key
    (with_reducible refine key.mono ?_)
    clear key
    rintro e w8 ⟨rfl, k, hw⟩
    have hb := Below.of_drew (w := w7) k
    rw [← hw] at hb
    replace HB := HBstep HB hb
    replace H := H.below hb
    clear hb hw
    go_wp2
    go_ret
    exact ⟨rfl, HB0.trans (HB.mono HB0.size)⟩)
theorem walkBusTimes (a0 a1 : Int) (h0 : (Lit.int .u64 a0).wf = true) (h1 : (Lit.int .u64 a1).wf = true) (w : World) :
    Calls Try.prog 9 #[.int .u64 a0, .int .u64 a1] w fun e w' => e = .returned (.bool true) ∧ Below w.heap.size w w' := by
  obtain ⟨t, rfl⟩ := u64_open h0
  obtain ⟨a, rfl⟩ := u64_open h1
  refine times1 t a _ _ w rfl ?_ rfl ?_
  · rw [Bool.eq_iff_iff]; simp
  · have := t.isLt
    rw [Bool.eq_iff_iff, decide_eq_true_iff, beq_iff_eq, show (18446744073709551615#64).toNat = 18446744073709551615 from rfl]; omega
end Go.Proofs.Ytkjbhjmjfacjcaa
