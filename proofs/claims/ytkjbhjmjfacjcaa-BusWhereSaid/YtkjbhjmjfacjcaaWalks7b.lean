/- The walk of BusWhere. -/
import Derived.Test.YtkjbhjmjfacjcaaKnown7
namespace Go.Proofs.Ytkjbhjmjfacjcaa
open Go.RowKit Go.BigFrame
set_option linter.unusedSimpArgs false
set_option linter.unusedVariables false
set_option maxRecDepth 100000

def okF (a : BitVec 64) (n : Int) : Bool := (conOf a n).isSome || (decide (n = 8 ∧ (a.toNat = 61440 ∨ a.toNat = 61448)) || decide (codeOf a n = 0))
theorem fresh_read (f : Nat → UInt8) (b B : Nat) (a : BitVec 64) (n : Int) : ∃ v : BitVec 64, ∀ w, Bus w B b (busV0 f) →
    Calls Try.prog 27 #[.pointer (some ⟨b, 0, none⟩), U a, .int .i64 n] w fun e w' => e = .returned (.tuple #[U v, .bool (okF a n)]) ∧ Below w.heap.size w w' := by
  cases hc : conOf a n with
  | some k =>
    obtain ⟨hk, rfl, ha⟩ := con_lt hc
    refine ⟨0#64, fun w h => (bread_con0 b B k _ a w h hc rfl).mono fun e w' ⟨h1, h2⟩ => ⟨h1.trans ?_, by rw [← h2]; exact Below.refl _ _⟩⟩
    unfold okF; rw [hc]; rfl
  | none =>
    by_cases h1 : a.toNat = 61440 ∧ n = 8
    · obtain ⟨h1, rfl⟩ := h1
      have e : a = 61440#64 := BitVec.eq_of_toNat_eq h1
      subst e
      exact ⟨(busV0 f).t, fun w h => (bread_time b B _ w h).mono fun e w' ⟨h1, h2⟩ => ⟨h1.trans (by rw [show okF 61440#64 8 = true by decide +kernel]), by rw [← h2]; exact Below.refl _ _⟩⟩
    · by_cases h2 : a.toNat = 61448 ∧ n = 8
      · obtain ⟨h2, rfl⟩ := h2
        have e : a = 61448#64 := BitVec.eq_of_toNat_eq h2
        subst e
        exact ⟨(busV0 f).al, fun w h => (bread_alarm b B _ w h).mono fun e w' ⟨h1, h2⟩ => ⟨h1.trans (by rw [show okF 61448#64 8 = true by decide +kernel]), by rw [← h2]; exact Below.refl _ _⟩⟩
      · refine ⟨rdF f a n, fun w h => (bread_mem b B (busV0 f) a n w h hc h1 h2).mono fun e w' ⟨h3, h4⟩ => ⟨h3.trans ?_, h4⟩⟩
        have e1 : decide (n = 8 ∧ (a.toNat = 61440 ∨ a.toNat = 61448)) = false := decide_eq_false (by omega)
        have e2 : (codeOf a n == 0) = decide (codeOf a n = 0) := by rw [Bool.eq_iff_iff]; simp
        unfold okF
        rw [hc, e1, e2, Option.isSome_none, Bool.false_or, Bool.false_or]; rfl
theorem okF_one (a : BitVec 64) : okF a 1 = decide (a.toNat < 32768 ∨ a.toNat = 61696 ∨ a.toNat = 61952 ∨ a.toNat = 62208 ∨ a.toNat = 62464) := by
  have e1 : decide ((1 : Int) = 8 ∧ (a.toNat = 61440 ∨ a.toNat = 61448)) = false := decide_eq_false (by omega)
  have e2 : decide (codeOf a 1 = 0) = decide (a.toNat < 32768) := by
    unfold codeOf
    by_cases h : 32768 ≤ a.toNat
    · rw [if_neg (by omega), if_pos h, decide_eq_false (show ¬ (60 : Int) = 0 by omega), decide_eq_false (by omega)]
    · rw [if_neg (by omega), if_neg h, decide_eq_true (show (0 : Int) = 0 from rfl), decide_eq_true (by omega)]
  unfold okF
  rw [e1, e2]
  cases hc : conOf a 1 with
  | some k =>
    obtain ⟨hk, _, ha⟩ := con_lt hc
    rw [Option.isSome_some, Bool.true_or]
    exact (decide_eq_true (by omega)).symm
  | none =>
    have hn : ¬ (61696 ≤ a.toNat ∧ (a.toNat - 61696) % 256 = 0 ∧ (a.toNat - 61696) / 256 < 4) := by
      intro h
      unfold conOf at hc
      rw [if_pos ⟨rfl, h⟩] at hc
      cases hc
    rw [Option.isSome_none, Bool.false_or, Bool.false_or, Bool.eq_iff_iff, decide_eq_true_iff, decide_eq_true_iff]
    omega
theorem okF_eight (a : BitVec 64) : okF a 8 = decide (a.toNat = 61440 ∨ a.toNat = 61448 ∨ a.toNat < 32768 ∧ a.toNat % 8 = 0) := by
  have hc : conOf a 8 = none := by unfold conOf; rw [if_neg (by omega)]
  have e2 : decide (codeOf a 8 = 0) = decide (a.toNat < 32768 ∧ a.toNat % 8 = 0) := by
    unfold codeOf
    by_cases h0 : a.toNat % 8 = 0
    · by_cases h : 32768 ≤ a.toNat
      · rw [if_neg (by omega), if_pos h, decide_eq_false (show ¬ (60 : Int) = 0 by omega), decide_eq_false (by omega)]
      · rw [if_neg (by omega), if_neg h, decide_eq_true (show (0 : Int) = 0 from rfl), decide_eq_true (by omega)]
    · rw [if_pos (.inr (by omega)), decide_eq_false (show ¬ (61 : Int) = 0 by omega), decide_eq_false (by omega)]
  unfold okF
  rw [hc, e2, Option.isSome_none, Bool.false_or, Bool.eq_iff_iff, Bool.or_eq_true, decide_eq_true_iff, decide_eq_true_iff, decide_eq_true_iff]
  omega
set_option maxHeartbeats 2000000 in
theorem where_even (a : BitVec 64) (w : World) (hm : decide ((a.toNat : Int) < 32768) = true) (h1 : decide ((61440 : Int) ≤ (a.toNat : Int)) = false) (hp : ((a.toNat : Int) % 8 == 0) = true) (ho1 : okF a 1 = true) (ho8 : okF a 8 = true) (hdv : decide (61440 ≤ a.toNat ∧ a.toNat < 62720) = false) :
    Calls Try.prog 10 #[U a] w fun e w' => e = .returned (.bool true) ∧ Below w.heap.size w w' := by
  have O1 := Lib.hid ho1
  have O8 := Lib.hid ho8
  have DV := Lib.hid hdv
  clear ho1 ho8 hdv
  go_enter Try.func10, Try.ntmps10
  go_wp2_with fail
  (with_reducible refine (known7_b.run _).mono ?_)
  rintro e w1 ⟨rfl, HB0⟩
  go_wp2_with fail
  refine (bnew_nil _).mono ?_
  rintro e w2 ⟨b, rfl, hb0, H, HB⟩
  go_wp2_with fail
  obtain ⟨v0, k0⟩ := fresh_read (fun _ => 0) b w1.heap.size a 1
  rw [O1.out] at k0
  have key := k0 w2 H
  clear k0
  (with_reducible refine key.mono ?_)
  clear key
  rintro e w3 ⟨rfl, hb⟩
  replace HB := HBstep HB hb
  replace H := H.below hb
  clear hb
  go_wp2_with fail
  obtain ⟨v1, k1⟩ := fresh_read (fun _ => 0) b w1.heap.size a 8
  rw [O8.out] at k1
  have key := k1 w3 H
  clear k1
  (with_reducible refine key.mono ?_)
  clear key
  rintro e w4 ⟨rfl, hb⟩
  replace HB := HBstep HB hb
  replace H := H.below hb
  clear hb
  go_wp2_with fail
  have key := bdevice b a w4
  rw [DV.out] at key
  (with_reducible refine key.mono ?_)
  clear key
  rintro e w5 ⟨rfl, hw⟩
  subst hw
  go_wp2
  go_ret
  exact ⟨rfl, HB0.trans (HB.mono HB0.size)⟩
set_option maxHeartbeats 2000000 in
theorem where_odd (a : BitVec 64) (w : World) (hm : decide ((a.toNat : Int) < 32768) = true) (h1 : decide ((61440 : Int) ≤ (a.toNat : Int)) = false) (hp : ((a.toNat : Int) % 8 == 0) = false) (ho1 : okF a 1 = true) (ho8 : okF a 8 = false) (hdv : decide (61440 ≤ a.toNat ∧ a.toNat < 62720) = false) :
    Calls Try.prog 10 #[U a] w fun e w' => e = .returned (.bool true) ∧ Below w.heap.size w w' := by
  have O1 := Lib.hid ho1
  have O8 := Lib.hid ho8
  have DV := Lib.hid hdv
  clear ho1 ho8 hdv
  go_enter Try.func10, Try.ntmps10
  go_wp2_with fail
  (with_reducible refine (known7_b.run _).mono ?_)
  rintro e w1 ⟨rfl, HB0⟩
  go_wp2_with fail
  refine (bnew_nil _).mono ?_
  rintro e w2 ⟨b, rfl, hb0, H, HB⟩
  go_wp2_with fail
  obtain ⟨v0, k0⟩ := fresh_read (fun _ => 0) b w1.heap.size a 1
  rw [O1.out] at k0
  have key := k0 w2 H
  clear k0
  (with_reducible refine key.mono ?_)
  clear key
  rintro e w3 ⟨rfl, hb⟩
  replace HB := HBstep HB hb
  replace H := H.below hb
  clear hb
  go_wp2_with fail
  obtain ⟨v1, k1⟩ := fresh_read (fun _ => 0) b w1.heap.size a 8
  rw [O8.out] at k1
  have key := k1 w3 H
  clear k1
  (with_reducible refine key.mono ?_)
  clear key
  rintro e w4 ⟨rfl, hb⟩
  replace HB := HBstep HB hb
  replace H := H.below hb
  clear hb
  go_wp2_with fail
  have key := bdevice b a w4
  rw [DV.out] at key
  (with_reducible refine key.mono ?_)
  clear key
  rintro e w5 ⟨rfl, hw⟩
  subst hw
  go_wp2
  go_ret
  exact ⟨rfl, HB0.trans (HB.mono HB0.size)⟩
set_option maxHeartbeats 2000000 in
theorem where_gap (a : BitVec 64) (w : World) (hm : decide ((a.toNat : Int) < 32768) = false) (h1 : decide ((61440 : Int) ≤ (a.toNat : Int)) = false) (c0 : ((a.toNat : Int) == 61696) = false) (c1 : ((a.toNat : Int) == 61952) = false) (c2 : ((a.toNat : Int) == 62208) = false) (c3 : ((a.toNat : Int) == 62464) = false) (c4 : ((a.toNat : Int) == 61440) = false) (c5 : ((a.toNat : Int) == 61448) = false) (ho1 : okF a 1 = false) (ho8 : okF a 8 = false) (hdv : decide (61440 ≤ a.toNat ∧ a.toNat < 62720) = false) :
    Calls Try.prog 10 #[U a] w fun e w' => e = .returned (.bool true) ∧ Below w.heap.size w w' := by
  have O1 := Lib.hid ho1
  have O8 := Lib.hid ho8
  have DV := Lib.hid hdv
  clear ho1 ho8 hdv
  go_enter Try.func10, Try.ntmps10
  go_wp2_with fail
  (with_reducible refine (known7_b.run _).mono ?_)
  rintro e w1 ⟨rfl, HB0⟩
  go_wp2_with fail
  refine (bnew_nil _).mono ?_
  rintro e w2 ⟨b, rfl, hb0, H, HB⟩
  go_wp2_with fail
  obtain ⟨v0, k0⟩ := fresh_read (fun _ => 0) b w1.heap.size a 1
  rw [O1.out] at k0
  have key := k0 w2 H
  clear k0
  (with_reducible refine key.mono ?_)
  clear key
  rintro e w3 ⟨rfl, hb⟩
  replace HB := HBstep HB hb
  replace H := H.below hb
  clear hb
  go_wp2_with fail
  obtain ⟨v1, k1⟩ := fresh_read (fun _ => 0) b w1.heap.size a 8
  rw [O8.out] at k1
  have key := k1 w3 H
  clear k1
  (with_reducible refine key.mono ?_)
  clear key
  rintro e w4 ⟨rfl, hb⟩
  replace HB := HBstep HB hb
  replace H := H.below hb
  clear hb
  go_wp2_with fail
  have key := bdevice b a w4
  rw [DV.out] at key
  (with_reducible refine key.mono ?_)
  clear key
  rintro e w5 ⟨rfl, hw⟩
  subst hw
  go_wp2
  go_ret
  exact ⟨rfl, HB0.trans (HB.mono HB0.size)⟩
set_option maxHeartbeats 2000000 in
theorem where_dev (a : BitVec 64) (w : World) (hm : decide ((a.toNat : Int) < 32768) = false) (h1 : decide ((61440 : Int) ≤ (a.toNat : Int)) = true) (h2 : decide ((a.toNat : Int) < 62720) = true) (c0 : ((a.toNat : Int) == 61696) = false) (c1 : ((a.toNat : Int) == 61952) = false) (c2 : ((a.toNat : Int) == 62208) = false) (c3 : ((a.toNat : Int) == 62464) = false) (c4 : ((a.toNat : Int) == 61440) = false) (c5 : ((a.toNat : Int) == 61448) = false) (ho1 : okF a 1 = false) (ho8 : okF a 8 = false) (hdv : decide (61440 ≤ a.toNat ∧ a.toNat < 62720) = true) :
    Calls Try.prog 10 #[U a] w fun e w' => e = .returned (.bool true) ∧ Below w.heap.size w w' := by
  have O1 := Lib.hid ho1
  have O8 := Lib.hid ho8
  have DV := Lib.hid hdv
  clear ho1 ho8 hdv
  go_enter Try.func10, Try.ntmps10
  go_wp2_with fail
  (with_reducible refine (known7_b.run _).mono ?_)
  rintro e w1 ⟨rfl, HB0⟩
  go_wp2_with fail
  refine (bnew_nil _).mono ?_
  rintro e w2 ⟨b, rfl, hb0, H, HB⟩
  go_wp2_with fail
  obtain ⟨v0, k0⟩ := fresh_read (fun _ => 0) b w1.heap.size a 1
  rw [O1.out] at k0
  have key := k0 w2 H
  clear k0
  (with_reducible refine key.mono ?_)
  clear key
  rintro e w3 ⟨rfl, hb⟩
  replace HB := HBstep HB hb
  replace H := H.below hb
  clear hb
  go_wp2_with fail
  obtain ⟨v1, k1⟩ := fresh_read (fun _ => 0) b w1.heap.size a 8
  rw [O8.out] at k1
  have key := k1 w3 H
  clear k1
  (with_reducible refine key.mono ?_)
  clear key
  rintro e w4 ⟨rfl, hb⟩
  replace HB := HBstep HB hb
  replace H := H.below hb
  clear hb
  go_wp2_with fail
  have key := bdevice b a w4
  rw [DV.out] at key
  (with_reducible refine key.mono ?_)
  clear key
  rintro e w5 ⟨rfl, hw⟩
  subst hw
  go_wp2
  go_ret
  exact ⟨rfl, HB0.trans (HB.mono HB0.size)⟩
set_option maxHeartbeats 2000000 in
theorem where_past (a : BitVec 64) (w : World) (hm : decide ((a.toNat : Int) < 32768) = false) (h1 : decide ((61440 : Int) ≤ (a.toNat : Int)) = true) (h2 : decide ((a.toNat : Int) < 62720) = false) (c0 : ((a.toNat : Int) == 61696) = false) (c1 : ((a.toNat : Int) == 61952) = false) (c2 : ((a.toNat : Int) == 62208) = false) (c3 : ((a.toNat : Int) == 62464) = false) (c4 : ((a.toNat : Int) == 61440) = false) (c5 : ((a.toNat : Int) == 61448) = false) (ho1 : okF a 1 = false) (ho8 : okF a 8 = false) (hdv : decide (61440 ≤ a.toNat ∧ a.toNat < 62720) = false) :
    Calls Try.prog 10 #[U a] w fun e w' => e = .returned (.bool true) ∧ Below w.heap.size w w' := by
  have O1 := Lib.hid ho1
  have O8 := Lib.hid ho8
  have DV := Lib.hid hdv
  clear ho1 ho8 hdv
  go_enter Try.func10, Try.ntmps10
  go_wp2_with fail
  (with_reducible refine (known7_b.run _).mono ?_)
  rintro e w1 ⟨rfl, HB0⟩
  go_wp2_with fail
  refine (bnew_nil _).mono ?_
  rintro e w2 ⟨b, rfl, hb0, H, HB⟩
  go_wp2_with fail
  obtain ⟨v0, k0⟩ := fresh_read (fun _ => 0) b w1.heap.size a 1
  rw [O1.out] at k0
  have key := k0 w2 H
  clear k0
  (with_reducible refine key.mono ?_)
  clear key
  rintro e w3 ⟨rfl, hb⟩
  replace HB := HBstep HB hb
  replace H := H.below hb
  clear hb
  go_wp2_with fail
  obtain ⟨v1, k1⟩ := fresh_read (fun _ => 0) b w1.heap.size a 8
  rw [O8.out] at k1
  have key := k1 w3 H
  clear k1
  (with_reducible refine key.mono ?_)
  clear key
  rintro e w4 ⟨rfl, hb⟩
  replace HB := HBstep HB hb
  replace H := H.below hb
  clear hb
  go_wp2_with fail
  have key := bdevice b a w4
  rw [DV.out] at key
  (with_reducible refine key.mono ?_)
  clear key
  rintro e w5 ⟨rfl, hw⟩
  subst hw
  go_wp2
  go_ret
  exact ⟨rfl, HB0.trans (HB.mono HB0.size)⟩
set_option maxHeartbeats 2000000 in
theorem where_61696 (a : BitVec 64) (w : World) (hm : decide ((a.toNat : Int) < 32768) = false) (h1 : decide ((61440 : Int) ≤ (a.toNat : Int)) = true) (h2 : decide ((a.toNat : Int) < 62720) = true) (c0 : ((a.toNat : Int) == 61696) = true) (c1 : ((a.toNat : Int) == 61952) = false) (c2 : ((a.toNat : Int) == 62208) = false) (c3 : ((a.toNat : Int) == 62464) = false) (c4 : ((a.toNat : Int) == 61440) = false) (c5 : ((a.toNat : Int) == 61448) = false) (ho1 : okF a 1 = true) (ho8 : okF a 8 = false) (hdv : decide (61440 ≤ a.toNat ∧ a.toNat < 62720) = true) :
    Calls Try.prog 10 #[U a] w fun e w' => e = .returned (.bool true) ∧ Below w.heap.size w w' := by
  have O1 := Lib.hid ho1
  have O8 := Lib.hid ho8
  have DV := Lib.hid hdv
  clear ho1 ho8 hdv
  go_enter Try.func10, Try.ntmps10
  go_wp2_with fail
  (with_reducible refine (known7_b.run _).mono ?_)
  rintro e w1 ⟨rfl, HB0⟩
  go_wp2_with fail
  refine (bnew_nil _).mono ?_
  rintro e w2 ⟨b, rfl, hb0, H, HB⟩
  go_wp2_with fail
  obtain ⟨v0, k0⟩ := fresh_read (fun _ => 0) b w1.heap.size a 1
  rw [O1.out] at k0
  have key := k0 w2 H
  clear k0
  (with_reducible refine key.mono ?_)
  clear key
  rintro e w3 ⟨rfl, hb⟩
  replace HB := HBstep HB hb
  replace H := H.below hb
  clear hb
  go_wp2_with fail
  obtain ⟨v1, k1⟩ := fresh_read (fun _ => 0) b w1.heap.size a 8
  rw [O8.out] at k1
  have key := k1 w3 H
  clear k1
  (with_reducible refine key.mono ?_)
  clear key
  rintro e w4 ⟨rfl, hb⟩
  replace HB := HBstep HB hb
  replace H := H.below hb
  clear hb
  go_wp2_with fail
  have key := bdevice b a w4
  rw [DV.out] at key
  (with_reducible refine key.mono ?_)
  clear key
  rintro e w5 ⟨rfl, hw⟩
  subst hw
  go_wp2
  go_ret
  exact ⟨rfl, HB0.trans (HB.mono HB0.size)⟩
set_option maxHeartbeats 2000000 in
theorem where_61952 (a : BitVec 64) (w : World) (hm : decide ((a.toNat : Int) < 32768) = false) (h1 : decide ((61440 : Int) ≤ (a.toNat : Int)) = true) (h2 : decide ((a.toNat : Int) < 62720) = true) (c0 : ((a.toNat : Int) == 61696) = false) (c1 : ((a.toNat : Int) == 61952) = true) (c2 : ((a.toNat : Int) == 62208) = false) (c3 : ((a.toNat : Int) == 62464) = false) (c4 : ((a.toNat : Int) == 61440) = false) (c5 : ((a.toNat : Int) == 61448) = false) (ho1 : okF a 1 = true) (ho8 : okF a 8 = false) (hdv : decide (61440 ≤ a.toNat ∧ a.toNat < 62720) = true) :
    Calls Try.prog 10 #[U a] w fun e w' => e = .returned (.bool true) ∧ Below w.heap.size w w' := by
  have O1 := Lib.hid ho1
  have O8 := Lib.hid ho8
  have DV := Lib.hid hdv
  clear ho1 ho8 hdv
  go_enter Try.func10, Try.ntmps10
  go_wp2_with fail
  (with_reducible refine (known7_b.run _).mono ?_)
  rintro e w1 ⟨rfl, HB0⟩
  go_wp2_with fail
  refine (bnew_nil _).mono ?_
  rintro e w2 ⟨b, rfl, hb0, H, HB⟩
  go_wp2_with fail
  obtain ⟨v0, k0⟩ := fresh_read (fun _ => 0) b w1.heap.size a 1
  rw [O1.out] at k0
  have key := k0 w2 H
  clear k0
  (with_reducible refine key.mono ?_)
  clear key
  rintro e w3 ⟨rfl, hb⟩
  replace HB := HBstep HB hb
  replace H := H.below hb
  clear hb
  go_wp2_with fail
  obtain ⟨v1, k1⟩ := fresh_read (fun _ => 0) b w1.heap.size a 8
  rw [O8.out] at k1
  have key := k1 w3 H
  clear k1
  (with_reducible refine key.mono ?_)
  clear key
  rintro e w4 ⟨rfl, hb⟩
  replace HB := HBstep HB hb
  replace H := H.below hb
  clear hb
  go_wp2_with fail
  have key := bdevice b a w4
  rw [DV.out] at key
  (with_reducible refine key.mono ?_)
  clear key
  rintro e w5 ⟨rfl, hw⟩
  subst hw
  go_wp2
  go_ret
  exact ⟨rfl, HB0.trans (HB.mono HB0.size)⟩
set_option maxHeartbeats 2000000 in
theorem where_62208 (a : BitVec 64) (w : World) (hm : decide ((a.toNat : Int) < 32768) = false) (h1 : decide ((61440 : Int) ≤ (a.toNat : Int)) = true) (h2 : decide ((a.toNat : Int) < 62720) = true) (c0 : ((a.toNat : Int) == 61696) = false) (c1 : ((a.toNat : Int) == 61952) = false) (c2 : ((a.toNat : Int) == 62208) = true) (c3 : ((a.toNat : Int) == 62464) = false) (c4 : ((a.toNat : Int) == 61440) = false) (c5 : ((a.toNat : Int) == 61448) = false) (ho1 : okF a 1 = true) (ho8 : okF a 8 = false) (hdv : decide (61440 ≤ a.toNat ∧ a.toNat < 62720) = true) :
    Calls Try.prog 10 #[U a] w fun e w' => e = .returned (.bool true) ∧ Below w.heap.size w w' := by
  have O1 := Lib.hid ho1
  have O8 := Lib.hid ho8
  have DV := Lib.hid hdv
  clear ho1 ho8 hdv
  go_enter Try.func10, Try.ntmps10
  go_wp2_with fail
  (with_reducible refine (known7_b.run _).mono ?_)
  rintro e w1 ⟨rfl, HB0⟩
  go_wp2_with fail
  refine (bnew_nil _).mono ?_
  rintro e w2 ⟨b, rfl, hb0, H, HB⟩
  go_wp2_with fail
  obtain ⟨v0, k0⟩ := fresh_read (fun _ => 0) b w1.heap.size a 1
  rw [O1.out] at k0
  have key := k0 w2 H
  clear k0
  (with_reducible refine key.mono ?_)
  clear key
  rintro e w3 ⟨rfl, hb⟩
  replace HB := HBstep HB hb
  replace H := H.below hb
  clear hb
  go_wp2_with fail
  obtain ⟨v1, k1⟩ := fresh_read (fun _ => 0) b w1.heap.size a 8
  rw [O8.out] at k1
  have key := k1 w3 H
  clear k1
  (with_reducible refine key.mono ?_)
  clear key
  rintro e w4 ⟨rfl, hb⟩
  replace HB := HBstep HB hb
  replace H := H.below hb
  clear hb
  go_wp2_with fail
  have key := bdevice b a w4
  rw [DV.out] at key
  (with_reducible refine key.mono ?_)
  clear key
  rintro e w5 ⟨rfl, hw⟩
  subst hw
  go_wp2
  go_ret
  exact ⟨rfl, HB0.trans (HB.mono HB0.size)⟩
set_option maxHeartbeats 2000000 in
theorem where_62464 (a : BitVec 64) (w : World) (hm : decide ((a.toNat : Int) < 32768) = false) (h1 : decide ((61440 : Int) ≤ (a.toNat : Int)) = true) (h2 : decide ((a.toNat : Int) < 62720) = true) (c0 : ((a.toNat : Int) == 61696) = false) (c1 : ((a.toNat : Int) == 61952) = false) (c2 : ((a.toNat : Int) == 62208) = false) (c3 : ((a.toNat : Int) == 62464) = true) (c4 : ((a.toNat : Int) == 61440) = false) (c5 : ((a.toNat : Int) == 61448) = false) (ho1 : okF a 1 = true) (ho8 : okF a 8 = false) (hdv : decide (61440 ≤ a.toNat ∧ a.toNat < 62720) = true) :
    Calls Try.prog 10 #[U a] w fun e w' => e = .returned (.bool true) ∧ Below w.heap.size w w' := by
  have O1 := Lib.hid ho1
  have O8 := Lib.hid ho8
  have DV := Lib.hid hdv
  clear ho1 ho8 hdv
  go_enter Try.func10, Try.ntmps10
  go_wp2_with fail
  (with_reducible refine (known7_b.run _).mono ?_)
  rintro e w1 ⟨rfl, HB0⟩
  go_wp2_with fail
  refine (bnew_nil _).mono ?_
  rintro e w2 ⟨b, rfl, hb0, H, HB⟩
  go_wp2_with fail
  obtain ⟨v0, k0⟩ := fresh_read (fun _ => 0) b w1.heap.size a 1
  rw [O1.out] at k0
  have key := k0 w2 H
  clear k0
  (with_reducible refine key.mono ?_)
  clear key
  rintro e w3 ⟨rfl, hb⟩
  replace HB := HBstep HB hb
  replace H := H.below hb
  clear hb
  go_wp2_with fail
  obtain ⟨v1, k1⟩ := fresh_read (fun _ => 0) b w1.heap.size a 8
  rw [O8.out] at k1
  have key := k1 w3 H
  clear k1
  (with_reducible refine key.mono ?_)
  clear key
  rintro e w4 ⟨rfl, hb⟩
  replace HB := HBstep HB hb
  replace H := H.below hb
  clear hb
  go_wp2_with fail
  have key := bdevice b a w4
  rw [DV.out] at key
  (with_reducible refine key.mono ?_)
  clear key
  rintro e w5 ⟨rfl, hw⟩
  subst hw
  go_wp2
  go_ret
  exact ⟨rfl, HB0.trans (HB.mono HB0.size)⟩
set_option maxHeartbeats 2000000 in
theorem where_61440 (a : BitVec 64) (w : World) (hm : decide ((a.toNat : Int) < 32768) = false) (h1 : decide ((61440 : Int) ≤ (a.toNat : Int)) = true) (h2 : decide ((a.toNat : Int) < 62720) = true) (c0 : ((a.toNat : Int) == 61696) = false) (c1 : ((a.toNat : Int) == 61952) = false) (c2 : ((a.toNat : Int) == 62208) = false) (c3 : ((a.toNat : Int) == 62464) = false) (c4 : ((a.toNat : Int) == 61440) = true) (c5 : ((a.toNat : Int) == 61448) = false) (ho1 : okF a 1 = false) (ho8 : okF a 8 = true) (hdv : decide (61440 ≤ a.toNat ∧ a.toNat < 62720) = true) :
    Calls Try.prog 10 #[U a] w fun e w' => e = .returned (.bool true) ∧ Below w.heap.size w w' := by
  have O1 := Lib.hid ho1
  have O8 := Lib.hid ho8
  have DV := Lib.hid hdv
  clear ho1 ho8 hdv
  go_enter Try.func10, Try.ntmps10
  go_wp2_with fail
  (with_reducible refine (known7_b.run _).mono ?_)
  rintro e w1 ⟨rfl, HB0⟩
  go_wp2_with fail
  refine (bnew_nil _).mono ?_
  rintro e w2 ⟨b, rfl, hb0, H, HB⟩
  go_wp2_with fail
  obtain ⟨v0, k0⟩ := fresh_read (fun _ => 0) b w1.heap.size a 1
  rw [O1.out] at k0
  have key := k0 w2 H
  clear k0
  (with_reducible refine key.mono ?_)
  clear key
  rintro e w3 ⟨rfl, hb⟩
  replace HB := HBstep HB hb
  replace H := H.below hb
  clear hb
  go_wp2_with fail
  obtain ⟨v1, k1⟩ := fresh_read (fun _ => 0) b w1.heap.size a 8
  rw [O8.out] at k1
  have key := k1 w3 H
  clear k1
  (with_reducible refine key.mono ?_)
  clear key
  rintro e w4 ⟨rfl, hb⟩
  replace HB := HBstep HB hb
  replace H := H.below hb
  clear hb
  go_wp2_with fail
  have key := bdevice b a w4
  rw [DV.out] at key
  (with_reducible refine key.mono ?_)
  clear key
  rintro e w5 ⟨rfl, hw⟩
  subst hw
  go_wp2
  go_ret
  exact ⟨rfl, HB0.trans (HB.mono HB0.size)⟩
set_option maxHeartbeats 2000000 in
theorem where_61448 (a : BitVec 64) (w : World) (hm : decide ((a.toNat : Int) < 32768) = false) (h1 : decide ((61440 : Int) ≤ (a.toNat : Int)) = true) (h2 : decide ((a.toNat : Int) < 62720) = true) (c0 : ((a.toNat : Int) == 61696) = false) (c1 : ((a.toNat : Int) == 61952) = false) (c2 : ((a.toNat : Int) == 62208) = false) (c3 : ((a.toNat : Int) == 62464) = false) (c4 : ((a.toNat : Int) == 61440) = false) (c5 : ((a.toNat : Int) == 61448) = true) (ho1 : okF a 1 = false) (ho8 : okF a 8 = true) (hdv : decide (61440 ≤ a.toNat ∧ a.toNat < 62720) = true) :
    Calls Try.prog 10 #[U a] w fun e w' => e = .returned (.bool true) ∧ Below w.heap.size w w' := by
  have O1 := Lib.hid ho1
  have O8 := Lib.hid ho8
  have DV := Lib.hid hdv
  clear ho1 ho8 hdv
  go_enter Try.func10, Try.ntmps10
  go_wp2_with fail
  (with_reducible refine (known7_b.run _).mono ?_)
  rintro e w1 ⟨rfl, HB0⟩
  go_wp2_with fail
  refine (bnew_nil _).mono ?_
  rintro e w2 ⟨b, rfl, hb0, H, HB⟩
  go_wp2_with fail
  obtain ⟨v0, k0⟩ := fresh_read (fun _ => 0) b w1.heap.size a 1
  rw [O1.out] at k0
  have key := k0 w2 H
  clear k0
  (with_reducible refine key.mono ?_)
  clear key
  rintro e w3 ⟨rfl, hb⟩
  replace HB := HBstep HB hb
  replace H := H.below hb
  clear hb
  go_wp2_with fail
  obtain ⟨v1, k1⟩ := fresh_read (fun _ => 0) b w1.heap.size a 8
  rw [O8.out] at k1
  have key := k1 w3 H
  clear k1
  (with_reducible refine key.mono ?_)
  clear key
  rintro e w4 ⟨rfl, hb⟩
  replace HB := HBstep HB hb
  replace H := H.below hb
  clear hb
  go_wp2_with fail
  have key := bdevice b a w4
  rw [DV.out] at key
  (with_reducible refine key.mono ?_)
  clear key
  rintro e w5 ⟨rfl, hw⟩
  subst hw
  go_wp2
  go_ret
  exact ⟨rfl, HB0.trans (HB.mono HB0.size)⟩
theorem walkBusWhere (a0 : Int) (h0 : (Lit.int .u64 a0).wf = true) (w : World) :
    Calls Try.prog 10 #[.int .u64 a0] w fun e w' => e = .returned (.bool true) ∧ Below w.heap.size w w' := by
  obtain ⟨a, rfl⟩ := u64_open h0
  have ne : ∀ c : Nat, a.toNat ≠ c → ((a.toNat : Int) == (c : Int)) = false := fun c h => by rw [beq_eq_false_iff_ne]; omega
  have eq : ∀ c : Nat, a.toNat = c → ((a.toNat : Int) == (c : Int)) = true := fun c h => by rw [beq_iff_eq]; omega
  have o1 := okF_one a
  have o8 := okF_eight a
  by_cases m : a.toNat < 32768
  · by_cases p : a.toNat % 8 = 0
    · exact where_even a w (decide_eq_true (by omega)) (decide_eq_false (by omega)) (by rw [beq_iff_eq]; omega) (o1.trans (decide_eq_true (by omega))) (o8.trans (decide_eq_true (by omega))) (decide_eq_false (by omega))
    · exact where_odd a w (decide_eq_true (by omega)) (decide_eq_false (by omega)) (by rw [beq_eq_false_iff_ne]; omega) (o1.trans (decide_eq_true (by omega))) (o8.trans (decide_eq_false (by omega))) (decide_eq_false (by omega))
  by_cases e61696 : a.toNat = 61696
  · exact where_61696 a w (decide_eq_false (by omega)) (decide_eq_true (by omega)) (decide_eq_true (by omega)) (eq 61696 (by omega)) (ne 61952 (by omega)) (ne 62208 (by omega)) (ne 62464 (by omega)) (ne 61440 (by omega)) (ne 61448 (by omega)) (o1.trans (decide_eq_true (by omega))) (o8.trans (decide_eq_false (by omega))) (decide_eq_true (by omega))
  by_cases e61952 : a.toNat = 61952
  · exact where_61952 a w (decide_eq_false (by omega)) (decide_eq_true (by omega)) (decide_eq_true (by omega)) (ne 61696 (by omega)) (eq 61952 (by omega)) (ne 62208 (by omega)) (ne 62464 (by omega)) (ne 61440 (by omega)) (ne 61448 (by omega)) (o1.trans (decide_eq_true (by omega))) (o8.trans (decide_eq_false (by omega))) (decide_eq_true (by omega))
  by_cases e62208 : a.toNat = 62208
  · exact where_62208 a w (decide_eq_false (by omega)) (decide_eq_true (by omega)) (decide_eq_true (by omega)) (ne 61696 (by omega)) (ne 61952 (by omega)) (eq 62208 (by omega)) (ne 62464 (by omega)) (ne 61440 (by omega)) (ne 61448 (by omega)) (o1.trans (decide_eq_true (by omega))) (o8.trans (decide_eq_false (by omega))) (decide_eq_true (by omega))
  by_cases e62464 : a.toNat = 62464
  · exact where_62464 a w (decide_eq_false (by omega)) (decide_eq_true (by omega)) (decide_eq_true (by omega)) (ne 61696 (by omega)) (ne 61952 (by omega)) (ne 62208 (by omega)) (eq 62464 (by omega)) (ne 61440 (by omega)) (ne 61448 (by omega)) (o1.trans (decide_eq_true (by omega))) (o8.trans (decide_eq_false (by omega))) (decide_eq_true (by omega))
  by_cases e61440 : a.toNat = 61440
  · exact where_61440 a w (decide_eq_false (by omega)) (decide_eq_true (by omega)) (decide_eq_true (by omega)) (ne 61696 (by omega)) (ne 61952 (by omega)) (ne 62208 (by omega)) (ne 62464 (by omega)) (eq 61440 (by omega)) (ne 61448 (by omega)) (o1.trans (decide_eq_false (by omega))) (o8.trans (decide_eq_true (by omega))) (decide_eq_true (by omega))
  by_cases e61448 : a.toNat = 61448
  · exact where_61448 a w (decide_eq_false (by omega)) (decide_eq_true (by omega)) (decide_eq_true (by omega)) (ne 61696 (by omega)) (ne 61952 (by omega)) (ne 62208 (by omega)) (ne 62464 (by omega)) (ne 61440 (by omega)) (eq 61448 (by omega)) (o1.trans (decide_eq_false (by omega))) (o8.trans (decide_eq_true (by omega))) (decide_eq_true (by omega))
  by_cases d1 : 61440 ≤ a.toNat
  · by_cases d2 : a.toNat < 62720
    · exact where_dev a w (decide_eq_false (by omega)) (decide_eq_true (by omega)) (decide_eq_true (by omega)) (ne 61696 (by omega)) (ne 61952 (by omega)) (ne 62208 (by omega)) (ne 62464 (by omega)) (ne 61440 (by omega)) (ne 61448 (by omega)) (o1.trans (decide_eq_false (by omega))) (o8.trans (decide_eq_false (by omega))) (decide_eq_true (by omega))
    · exact where_past a w (decide_eq_false (by omega)) (decide_eq_true (by omega)) (decide_eq_false (by omega)) (ne 61696 (by omega)) (ne 61952 (by omega)) (ne 62208 (by omega)) (ne 62464 (by omega)) (ne 61440 (by omega)) (ne 61448 (by omega)) (o1.trans (decide_eq_false (by omega))) (o8.trans (decide_eq_false (by omega))) (decide_eq_false (by omega))
  · exact where_gap a w (decide_eq_false (by omega)) (decide_eq_false (by omega)) (ne 61696 (by omega)) (ne 61952 (by omega)) (ne 62208 (by omega)) (ne 62464 (by omega)) (ne 61440 (by omega)) (ne 61448 (by omega)) (o1.trans (decide_eq_false (by omega))) (o8.trans (decide_eq_false (by omega))) (decide_eq_false (by omega))
end Go.Proofs.Ytkjbhjmjfacjcaa
