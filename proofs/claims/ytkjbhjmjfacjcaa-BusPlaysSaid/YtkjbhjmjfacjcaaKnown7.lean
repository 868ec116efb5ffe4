/- The contract of the bus laws' own 'known'. -/
import Derived.Test.YtkjbhjmjfacjcaaBusG
namespace Go.Proofs.Ytkjbhjmjfacjcaa
open Go.RowKit Go.BigFrame
set_option linter.unusedSimpArgs false
set_option linter.unusedVariables false
set_option maxRecDepth 100000

set_option maxHeartbeats 4000000 in
theorem known7_b : Gives Try.prog 24 #[] (.bool true) := by
  intro w
  have Z1 := Lib.hid (show rdF (fun _ => 0) 32768#64 1 = 0#64 from rdF_zero _ _)
  have C1 := Lib.hid (show codeOf 32768#64 1 = 60 by decide +kernel)
  have C2 := Lib.hid (show codeOf 61440#64 8 = 60 by decide +kernel)
  go_enter Try.func24, Try.ntmps24
  go_wp2_with fail
  refine (bnew_nil _).mono ?_
  rintro e w1 ⟨b, rfl, hb0, H, HB⟩
  go_wp2_with fail
  have key : Calls Try.prog 31 #[.pointer (some ⟨b, 0, none⟩)] w1 _ := btimer b w.heap.size _ w1 H
  (with_reducible refine key.mono ?_)
  clear key
  rintro e w2 ⟨rfl, k, hw⟩
  have hb := Below.of_drew (w := w1) k
  rw [← hw] at hb
  replace HB := HBstep HB hb
  replace H := H.below hb
  clear hb hw
  go_wp2_with fail
  have key : Calls Try.prog 28 #[.pointer (some ⟨b, 0, none⟩), .int .u64 61952, .int .i64 1, .int .u64 120] w2 _ := bwrite_con b w.heap.size 1 _ 61952#64 120#64 w2 H (by decide +kernel) HB.size (by decide)
  (with_reducible refine key.mono ?_)
  clear key
  rintro e w3 ⟨rfl, hb, hs, H'⟩
  replace HB := HB.trans hb
  replace H := H'
  clear H' hb hs
  go_wp2_with fail
  have key : Calls Try.prog 29 #[.pointer (some ⟨b, 0, none⟩), .int .i64 1] w3 _ := boutput b w.heap.size 1 _ w3 H (by decide)
  (with_reducible refine key.mono ?_)
  clear key
  rintro e w4 ⟨rfl, hw⟩
  subst hw
  go_wp2_with fail
  have key : Calls Try.prog 26 #[.pointer (some ⟨b, 0, none⟩), .int .i64 0, .string ⟨#[105, 110]⟩] w3 _ := btype_nil b w.heap.size 0 _ ⟨#[105, 110]⟩ w3 H (by decide) rfl rfl HB.size (by decide)
  (with_reducible refine key.mono ?_)
  clear key
  rintro e w4 ⟨rfl, hb, hs, H'⟩
  replace HB := HB.trans hb
  replace H := H'
  clear H' hb hs
  go_wp2_with fail
  have key : Calls Try.prog 27 #[.pointer (some ⟨b, 0, none⟩), .int .u64 61696, .int .i64 1] w4 _ := bread_con b w.heap.size 0 _ 61696#64 105 [110] w4 H (by decide +kernel) (by rfl)
  (with_reducible refine key.mono ?_)
  clear key
  rintro e w5 ⟨rfl, hu, H'⟩
  replace HB := Upd.below HB hu HB.size hb0
  replace H := H'
  clear H' hu
  go_wp2_with fail
  have key : Calls Try.prog 27 #[.pointer (some ⟨b, 0, none⟩), .int .u64 32768, .int .i64 1] w5 _ := bread_mem b w.heap.size _ 32768#64 1 w5 H (by decide +kernel) (by decide) (by decide)
  rw [C1.out] at key
  (with_reducible refine key.mono ?_)
  clear key
  rintro e w6 ⟨rfl, hb⟩
  replace HB := HBstep HB hb
  replace H := H.below hb
  clear hb
  go_wp2_with fail
  have key : Calls Try.prog 30 #[.pointer (some ⟨b, 0, none⟩), .int .u64 7] w6 _ := bsettime b w.heap.size 7#64 _ w6 H
  (with_reducible refine key.mono ?_)
  clear key
  rintro e w7 ⟨rfl, hu, H'⟩
  replace HB := Upd.below HB hu HB.size hb0
  replace H := H'
  clear H' hu
  go_wp2_with fail
  have key : Calls Try.prog 27 #[.pointer (some ⟨b, 0, none⟩), .int .u64 61440, .int .i64 8] w7 _ := bread_time b w.heap.size _ w7 H
  (with_reducible refine key.mono ?_)
  clear key
  rintro e w8 ⟨rfl, hw⟩
  subst hw
  go_wp2_with fail
  have key : Calls Try.prog 28 #[.pointer (some ⟨b, 0, none⟩), .int .u64 61440, .int .i64 8, .int .u64 1] w7 _ := bwrite_mem b w.heap.size _ 61440#64 8 1#64 w7 H (by decide +kernel) (by decide)
  rw [C2.out] at key
  (with_reducible refine key.mono ?_)
  clear key
  rintro e w8 ⟨rfl, hb, hs, H'⟩
  replace HB := HB.trans (hb HB.size)
  replace H := H'
  clear H' hb hs
  go_wp2_with fail
  have key : Calls Try.prog 28 #[.pointer (some ⟨b, 0, none⟩), .int .u64 61448, .int .i64 8, .int .u64 7] w8 _ := bwrite_alarm b w.heap.size _ 7#64 w8 H
  (with_reducible refine key.mono ?_)
  clear key
  rintro e w9 ⟨rfl, hu, H'⟩
  replace HB := Upd.below HB hu HB.size hb0
  replace H := H'
  clear H' hu
  go_wp2_with fail
  have key : Calls Try.prog 31 #[.pointer (some ⟨b, 0, none⟩)] w9 _ := btimer b w.heap.size _ w9 H
  (with_reducible refine key.mono ?_)
  clear key
  rintro e w10 ⟨rfl, k, hw⟩
  have hb := Below.of_drew (w := w9) k
  rw [← hw] at hb
  replace HB := HBstep HB hb
  replace H := H.below hb
  clear hb hw
  go_wp2_with fail
  have key : Calls Try.prog 32 #[.pointer (some ⟨b, 0, none⟩), .int .u64 61440] w10 _ := bdevice b 61440#64 w10
  (with_reducible refine key.mono ?_)
  clear key
  rintro e w11 ⟨rfl, hw⟩
  subst hw
  go_wp2_with fail
  have key : Calls Try.prog 32 #[.pointer (some ⟨b, 0, none⟩), .int .u64 32767] w10 _ := bdevice b 32767#64 w10
  (with_reducible refine key.mono ?_)
  clear key
  rintro e w11 ⟨rfl, hw⟩
  subst hw
  go_wp2_with fail
  have key : Calls Try.prog 29 #[.pointer (some ⟨b, 0, none⟩), .int .i64 9] w10 _ := boutput_no b 9 w10 (by decide) (by decide)
  (with_reducible refine key.mono ?_)
  clear key
  rintro e w11 ⟨rfl, hw⟩
  subst hw
  go_wp2
  go_ret
  exact ⟨rfl, HB⟩
end Go.Proofs.Ytkjbhjmjfacjcaa
