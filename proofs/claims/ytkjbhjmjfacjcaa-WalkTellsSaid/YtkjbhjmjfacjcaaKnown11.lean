/- The contract of the walk laws' own 'known'; the walk of WalkNone. -/
import Derived.Test.YtkjbhjmjfacjcaaLaid
namespace Go.Proofs.Ytkjbhjmjfacjcaa
open Go.RowKit Go.BigFrame
set_option linter.unusedSimpArgs false
set_option linter.unusedVariables false
set_option maxRecDepth 100000

set_option maxHeartbeats 4000000 in
theorem known11_b : Gives Try.prog 13 #[] (.bool true) := by
  intro w
  obtain ⟨e0, he⟩ : ∃ e0, e0 = mkB 7 207 := ⟨_, rfl⟩
  obtain ⟨f1, hf1⟩ : ∃ f1, f1 = layV (fun _ => 0) 1 2 5 e0 := ⟨_, rfl⟩
  have rm : Gives Try.prog 21 #[.int .i64 7, .int .i64 207] (U e0) := by rw [he]; exact rmake_b 7 207 (by decide) (by decide)
  have RM := Lib.hid rm
  have W1 := Lib.hid (show walkV f1 1 1298#64 = (e0, 0) by rw [hf1, he]; decide +kernel)
  have W2 := Lib.hid (show walkV f1 1 1554#64 = (0#64, 1) by rw [hf1, he]; decide +kernel)
  have W3 := Lib.hid (show walkV f1 200 0#64 = (0#64, 2) by rw [hf1, he]; decide +kernel)
  have E1 := Lib.hid (show readF f1 (2 * 256 + 5 * 8) 8 = e0 by rw [hf1, he]; decide +kernel)
  have R3 := Lib.hid hf1
  clear rm hf1 he
  have HB := Below.refl w.heap.size w
  go_enter Try.func13, Try.ntmps13
  go_wp2_with fail
  refine (new_all _).mono ?_
  rintro e w1 ⟨p, g, rfl, hp, hg, hpl, hgl, M, hb⟩
  replace HB := HBstep HB hb
  clear hb
  go_wp2_with fail
  (with_reducible refine (RM.out.run _).mono ?_)
  rintro e w2 ⟨rfl, hb⟩
  replace HB := HBstep HB hb
  replace M := M.below hb
  clear hb
  go_wp2_with fail
  have key : Calls Try.prog 22 #[.pointer (some ⟨p, 0, none⟩), .int .i64 1, .int .i64 2, .int .i64 5, U e0] w2 _ := plays_in 1 2 5 5 e0 w2 M (by decide) (by decide) (by decide) (by decide)
  rw [← R3.out] at key
  (with_reducible refine key.mono ?_)
  clear key M
  rintro e w3 ⟨rfl, hu, M⟩
  replace HB := Upd.below HB hu HB.size hg
  clear hu
  go_wp2_with fail
  have key : Calls Try.prog 22 #[.pointer (some ⟨p, 0, none⟩), .int .i64 1, .int .i64 128, .int .i64 5, U e0] w3 _ := plays_no _ 1 128 5 (U e0) w3 (by decide) _ rfl
  (with_reducible refine key.mono ?_)
  clear key
  rintro e w4 ⟨rfl, hw⟩
  subst hw
  go_wp2_with fail
  have key : Calls Try.prog 16 #[.pointer (some ⟨p, 0, none⟩), .int .i64 1, .int .u64 1298] w3 _ := walk_all 1 1298#64 w3 M
  rw [W1.out] at key
  (with_reducible refine key.mono ?_)
  clear key
  rintro e w4 ⟨rfl, hb⟩
  replace HB := HBstep HB hb
  replace M := M.below hb
  clear hb
  go_wp2_with fail
  have key : Calls Try.prog 16 #[.pointer (some ⟨p, 0, none⟩), .int .i64 1, .int .u64 1554] w4 _ := walk_all 1 1554#64 w4 M
  rw [W2.out] at key
  (with_reducible refine key.mono ?_)
  clear key
  rintro e w5 ⟨rfl, hb⟩
  replace HB := HBstep HB hb
  replace M := M.below hb
  clear hb
  go_wp2_with fail
  have key : Calls Try.prog 16 #[.pointer (some ⟨p, 0, none⟩), .int .i64 200, .int .u64 0] w5 _ := walk_all 200 0#64 w5 M
  rw [W3.out] at key
  (with_reducible refine key.mono ?_)
  clear key
  rintro e w6 ⟨rfl, hb⟩
  replace HB := HBstep HB hb
  replace M := M.below hb
  clear hb
  go_wp2_with fail
  have key : Calls Try.prog 18 #[.pointer (some ⟨p, 0, none⟩), .int .i64 2, .int .i64 5] w6 _ := entry_yes 2 5 w6 M (by decide) (by decide)
  rw [E1.out] at key
  (with_reducible refine key.mono ?_)
  clear key
  rintro e w7 ⟨rfl, hb⟩
  replace HB := HBstep HB hb
  clear hb
  go_wp2_with fail
  have key := entry_no (.pointer (some ⟨p, 0, none⟩)) 2 16 w7 (by decide)
  (with_reducible refine key.mono ?_)
  clear key
  rintro e w8 ⟨rfl, hb⟩
  replace HB := HBstep HB hb
  clear hb
  go_wp2
  go_ret
  exact ⟨rfl, HB⟩
end Go.Proofs.Ytkjbhjmjfacjcaa
