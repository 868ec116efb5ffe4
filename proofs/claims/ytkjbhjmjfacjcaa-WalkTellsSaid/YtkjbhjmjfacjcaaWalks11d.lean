/- The walk of WalkTells; no condition but the arguments' own. -/
import Derived.Test.YtkjbhjmjfacjcaaBoth
import Derived.Test.YtkjbhjmjfacjcaaKnown11
namespace Go.Proofs.Ytkjbhjmjfacjcaa
open Go.RowKit Go.BigFrame
set_option linter.unusedSimpArgs false
set_option linter.unusedVariables false
set_option maxRecDepth 100000

theorem few_any (a : Option Addr) (n c : Nat) (w : World) : Calls Try.prog 14 #[.slice a n c] w fun e w' => e = .returned (.bool (decide (n ≤ 30))) ∧ w = w' := by
  have d : decide ((n : Int) ≤ 30) = decide (n ≤ 30) := by simp only [decide_eq_decide]; omega
  generalize decide (n ≤ 30) = b at *
  go_enter Try.func14, Try.ntmps14
  go_wp2
  go_ret
  exact ⟨by first | rfl | rw [d], rfl⟩
theorem tells_many (v1 v2 v3 v4 : Value) (a : Option Addr) (n c : Nat) (w : World) (hn : ¬ n ≤ 30) :
    Calls Try.prog 3 #[.slice a n c, v1, v2, v3, v4] w fun e w' => e = .returned (.bool true) ∧ Below w.heap.size w w' := by
  have fa := few_any a n c
  rw [decide_eq_false hn] at fa
  clear hn
  go_enter Try.func3, Try.ntmps3
  go_wp2_with fail
  (with_reducible refine (known11_b.run _).mono ?_)
  rintro e w1 ⟨rfl, HB0⟩
  have HB0 := Lib.hid HB0
  go_wp2_with fail
  (with_reducible refine (fa _).mono ?_)
  rintro e w2 ⟨rfl, rfl⟩
  go_wp2
  go_ret
  exact ⟨rfl, HB0.out⟩
set_option maxHeartbeats 2000000 in
theorem tells_few (root frame index : Int) (at_ : BitVec 64) (a : Option Addr) (n c : Nat) (w : World) (hS : Steps11 w a n) (hn : n ≤ 30) :
    Calls Try.prog 3 #[.slice a n c, .int .i64 root, U at_, .int .i64 frame, .int .i64 index] w fun e w' => e = .returned (.bool true) ∧ Below w.heap.size w w' := by
  have fa := few_any a n c
  rw [decide_eq_true hn] at fa
  have HN := Lib.hid hn
  have HS := Lib.hid hS
  have KE : ∀ f : Nat → UInt8, ∃ ev eb, (∀ (p g : Nat) (W : World), IsMem W p g 88 f → Calls Try.prog 18 #[.pointer (some ⟨p, 0, none⟩), .int .i64 frame, .int .i64 index] W fun e w' => e = .returned (.tuple #[U ev, .bool eb]) ∧ Below W.heap.size W w') ∧
      (∀ (p g : Nat) (W : World), IsMem W p g 85 f → Calls Try.prog 19 #[.pointer (some ⟨p, 0, none⟩), .int .i64 frame, .int .i64 index] W fun e w' => e = .returned (.tuple #[U ev, .bool eb]) ∧ W = w') := by
    intro f
    by_cases h : 0 ≤ frame ∧ frame < 128 ∧ 0 ≤ index ∧ index < 16
    · obtain ⟨x, rfl⟩ : ∃ x : Nat, frame = (x : Int) := ⟨frame.toNat, by omega⟩
      obtain ⟨k, rfl⟩ : ∃ x : Nat, index = (x : Int) := ⟨index.toNat, by omega⟩
      exact ⟨_, _, fun p g W M => entry_yes x k W M (by omega) (by omega), fun p g W M => rentry_yes x k W M (by omega) (by omega)⟩
    · exact ⟨0#64, false, fun p g W M => entry_no _ frame index W (by omega), fun p g W M => rentry_no frame index W M (by omega)⟩
  have KE := Lib.hid KE
  clear hn hS
  go_enter Try.func3, Try.ntmps3
  go_wp2_with fail
  (with_reducible refine (known11_b.run _).mono ?_)
  rintro e w1 ⟨rfl, HB0⟩
  have HB0 := Lib.hid HB0
  go_wp2_with fail
  (with_reducible refine (fa _).mono ?_)
  rintro e w2 ⟨rfl, rfl⟩
  go_wp2_with fail
  have HS1 : Steps11 w1 a n := by
    intro h0
    obtain ⟨b, o, L, R, Lo, Pg, E, A, h1, h2, h3⟩ := HS.out h0
    refine ⟨b, o, L, R, Lo, Pg, E, A, h1, by have := HB0.out.size; omega, fun j hj => ?_⟩
    obtain ⟨c0, c1, c2, c3, c4, c5⟩ := h3 j hj
    exact ⟨by rw [HB0.out.cell h2]; exact c0, by rw [HB0.out.cell h2]; exact c1, by rw [HB0.out.cell h2]; exact c2, by rw [HB0.out.cell h2]; exact c3, by rw [HB0.out.cell h2]; exact c4, by rw [HB0.out.cell h2]; exact c5⟩
  (with_reducible refine (both_any a n c w1 HS1 HN.out).mono ?_)
  clear HS1 HS
  rintro e w3 ⟨p, g, q, h, f, rfl, TW⟩
  obtain ⟨ev, eb, KE1, KE2⟩ := KE.out f
  have KE1 := Lib.hid KE1
  have KE2 := Lib.hid KE2
  clear KE HN
  have M := Lib.hid TW.m
  have N := Lib.hid TW.r
  have HB := Lib.hid (HBstep HB0.out TW.hb)
  clear TW
  go_wp2_with fail
  have W1 := walk_all root at_ w3 M.out
  have W2 := fun (W : World) (M : IsMem W q h 85 f) => rwalk_all root at_ W M
  obtain ⟨vv, hvv⟩ : ∃ vv, vv = (walkV f root at_).1 := ⟨_, rfl⟩
  obtain ⟨vc, hvc⟩ : ∃ vc, vc = (walkV f root at_).2 := ⟨_, rfl⟩
  rw [← hvv, ← hvc] at W1 W2
  have W2 := Lib.hid W2
  clear hvv hvc
  (with_reducible refine W1.mono ?_)
  clear W1
  rintro e w4 ⟨rfl, hb⟩
  have M := Lib.hid (M.out.below hb)
  have N := Lib.hid (N.out.below hb)
  have HB := Lib.hid (HBstep HB.out hb)
  clear hb
  go_wp2_with fail
  (with_reducible refine (W2.out _ N.out).mono ?_)
  rintro e w5 ⟨⟨fr, ta, tl, tc, rfl⟩, hb⟩
  have M := Lib.hid (M.out.below hb)
  have N := Lib.hid (N.out.below hb)
  have HB := Lib.hid (HBstep HB.out hb)
  clear hb W2
  go_wp2_with fail
  have hb : Below w5.heap.size w5 (w5.alloc (.cells #[U vv, .int .i64 fr, .int .i64 vc, .slice ta tl tc] 34)) := (Below.refl _ _).alloc (Nat.le_refl _) _
  have s4 : (w5.alloc (.cells #[U vv, .int .i64 fr, .int .i64 vc, .slice ta tl tc] 34)).heap[w5.heap.size]? = _ := (MapKept.heap_alloc w5 _).1
  have M := Lib.hid (M.out.below hb)
  have N := Lib.hid (N.out.below hb)
  have HB := Lib.hid (HBstep HB.out hb)
  clear hb
  generalize w5.alloc (.cells #[U vv, .int .i64 fr, .int .i64 vc, .slice ta tl tc] 34) = W at s4 M N HB ⊢
  obtain ⟨k, hk⟩ : ∃ k, k = w5.heap.size := ⟨_, rfl⟩
  rw [← hk] at s4 ⊢
  clear hk
  (with_reducible refine (KE1.out p g W M.out).mono ?_)
  rintro e w6 ⟨rfl, hb⟩
  have s6 := (hb.block k (blk_lt s4)).trans s4
  have N := Lib.hid (N.out.below hb)
  have HB := Lib.hid (HBstep HB.out hb)
  clear hb s4
  have e0 := cell_at s6 0 rfl
  have e2 := cell_at s6 2 rfl
  clear s6
  go_wp2_with fail
  (with_reducible refine (KE2.out q h w6 N.out).mono ?_)
  rintro e w7 ⟨rfl, rfl⟩
  go_wp2
  go_ret
  exact ⟨rfl, HB.out⟩
theorem walkWalkTells (a : Option Addr) (n c : Nat) (root at_ frame index : Int) (wr : (Lit.int .i64 root).wf = true) (wa : (Lit.int .u64 at_).wf = true) (w : World) (hS : Steps11 w a n) :
    Calls Try.prog 3 #[.slice a n c, .int .i64 root, .int .u64 at_, .int .i64 frame, .int .i64 index] w fun e w' => e = .returned (.bool true) ∧ Below w.heap.size w w' := by
  by_cases hn : n ≤ 30
  · obtain ⟨x, rfl⟩ := u64_open wa
    exact tells_few root frame index x a n c w hS hn
  · exact tells_many _ _ _ _ a n c w hn
end Go.Proofs.Ytkjbhjmjfacjcaa
