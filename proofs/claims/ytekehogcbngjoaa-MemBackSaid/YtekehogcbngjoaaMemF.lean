/- The walk of MemCodes. -/
import Derived.Test.YtekehogcbngjoaaMemE
namespace Go.Proofs.Ytekehogcbngjoaa
open Go.RowKit Go.BigFrame
set_option linter.unusedSimpArgs false
set_option linter.unusedVariables false

theorem readF_zero (a : Nat) (n : Int) : readF (fun _ => 0) a n = 0#64 := by
  unfold readF
  rw [join_congr (g := fun _ => 0#64) 8 (fun i hi => by split <;> rfl), join_zero]
theorem rdF_zero (a : BitVec 64) (n : Int) : rdF (fun _ => 0) a n = 0#64 := by
  unfold rdF; split
  · exact readF_zero _ _
  · rfl
theorem bytesL_zero (n : Nat) : bytesL 0#64 n = List.replicate (min n 8) 0 := by
  unfold bytesL
  have e : (List.range 8).map (byteU 0#64) = List.replicate 8 0 := by decide +kernel
  rw [e, List.take_replicate]
theorem wrF_zero (a : BitVec 64) (n : Int) : wrF (fun _ => 0) a n 0#64 = fun _ => 0 := by
  unfold wrF; split
  · funext i
    unfold putF
    split
    · rw [bytesL_zero, List.getD_eq_getElem?_getD, List.getElem?_replicate]; split <;> rfl
    · rfl
  · rfl
theorem mask_mod (a : BitVec 64) (j k : Nat) (e : j + 1 = k) (h : k = 1 ∨ k = 2 ∨ k = 4 ∨ k = 8) : bits .and .u64 (a.toNat : Int) (j : Int) = (a.toNat : Int) % (k : Int) := by
  rw [u64_and_nat _ _ a.isLt (by omega)]
  rcases h with rfl | rfl | rfl | rfl
  · obtain rfl : j = 0 := by omega
    simp
  · obtain rfl : j = 1 := by omega
    have := Nat.and_two_pow_sub_one_eq_mod a.toNat 1; simp at this ⊢
  · obtain rfl : j = 3 := by omega
    have := Nat.and_two_pow_sub_one_eq_mod a.toNat 2; simp at this ⊢; omega
  · obtain rfl : j = 7 := by omega
    have := Nat.and_two_pow_sub_one_eq_mod a.toNat 3; simp at this ⊢; omega

set_option maxHeartbeats 4000000 in
set_option maxRecDepth 100000 in
theorem codes_no (a : BitVec 64) (n : Int) (w : World) (h1 : n ≠ 1) (h2 : n ≠ 2) (h4 : n ≠ 4) (h8 : n ≠ 8) :
    Calls Try.prog 10 #[U a, .int .i64 n] w fun e w' => e = .returned (.bool true) ∧ Below w.heap.size w w' := by
  have HC := Lib.hid (show codeOf a n = 61 by unfold codeOf; rw [if_pos (Or.inl (by omega))])
  have t1 : (n == 1) = false := beq_eq_false_iff_ne.2 h1
  have t2 : (n == 2) = false := beq_eq_false_iff_ne.2 h2
  have t4 : (n == 4) = false := beq_eq_false_iff_ne.2 h4
  have t8 : (n == 8) = false := beq_eq_false_iff_ne.2 h8
  clear h1 h2 h4 h8
  have HB := Below.refl w.heap.size w
  go_enter Try.func10, Try.ntmps10
  go_wp2_with fail
  refine (known6_b.on HB).mono ?_
  rintro e w1 ⟨rfl, HB1⟩
  replace HB := HB1
  clear HB1
  go_wp2_with fail
  refine (new_all _).mono ?_
  rintro e w2 ⟨p, g, rfl, hp, hg, hpl, hgl, M1, hb⟩
  have hg2 : w.heap.size ≤ g := Nat.le_trans HB.size hg
  replace HB := HBstep HB hb
  clear hb hg hp
  go_wp2_with fail
  have key := read_all a n w2 M1
  rw [rdF_zero, HC.out] at key
  refine key.mono ?_
  clear key
  rintro e w3 ⟨rfl, hb⟩
  have M2 := M1.below hb
  replace HB := HBstep HB hb
  clear M1 hb
  go_wp2_with fail
  have key := write_all a n 0#64 w3 M2
  rw [wrF_zero, HC.out] at key
  refine key.mono ?_
  clear key
  rintro e w4 ⟨rfl, hu, M3⟩
  replace HB := Upd.below HB hu HB.size hg2
  clear M2 hu
  go_wp2_with fail
  have key := same_nil w4 M3
  rw [same_true] at key
  refine key.mono ?_
  clear key
  rintro e w5 ⟨rfl, hb⟩
  replace HB := HBstep HB hb
  clear M3 hb
  go_wp2_with fail
  refine (rnew_all _).mono ?_
  rintro e w6 ⟨p2, g2, rfl, hp2, hg2, hpl2, hgl2, N1, hb⟩
  replace HB := HBstep HB hb
  clear hb
  go_wp2_with fail
  have key := rcode_any a n w6 N1
  rw [HC.out] at key
  refine key.mono ?_
  clear key
  rintro e w7 ⟨rfl, rfl⟩
  go_wp2_with fail
  go_ret
  exact ⟨rfl, HB⟩
set_option maxHeartbeats 4000000 in
set_option maxRecDepth 100000 in
theorem codes_far1 (a : BitVec 64) (w : World) (hm : (a.toNat : Int) % 1 = 0) (hr : 32768 ≤ (a.toNat : Int)) :
    Calls Try.prog 10 #[U a, .int .i64 1] w fun e w' => e = .returned (.bool true) ∧ Below w.heap.size w w' := by
  have HC := Lib.hid (show codeOf a 1 = 60 by unfold codeOf; rw [if_neg (by omega), if_pos (by omega)])
  have tm : (bits .and .u64 (a.toNat : Int) 0 != 0) = false := by
    have e := mask_mod a 0 1 rfl (by omega)
    have e2 : bits .and .u64 (a.toNat : Int) 0 = (a.toNat : Int) % 1 := e
    rw [e2]; rw [hm]; rfl
  clear hm
  have HB := Below.refl w.heap.size w
  go_enter Try.func10, Try.ntmps10
  go_wp2_with fail
  refine (known6_b.on HB).mono ?_
  rintro e w1 ⟨rfl, HB1⟩
  replace HB := HB1
  clear HB1
  go_wp2_with fail
  refine (new_all _).mono ?_
  rintro e w2 ⟨p, g, rfl, hp, hg, hpl, hgl, M1, hb⟩
  have hg2 : w.heap.size ≤ g := Nat.le_trans HB.size hg
  replace HB := HBstep HB hb
  clear hb hg hp
  go_wp2_with fail
  have key := read_all a 1 w2 M1
  rw [rdF_zero, HC.out] at key
  refine key.mono ?_
  clear key
  rintro e w3 ⟨rfl, hb⟩
  have M2 := M1.below hb
  replace HB := HBstep HB hb
  clear M1 hb
  go_wp2_with fail
  have key := write_all a 1 0#64 w3 M2
  rw [wrF_zero, HC.out] at key
  refine key.mono ?_
  clear key
  rintro e w4 ⟨rfl, hu, M3⟩
  replace HB := Upd.below HB hu HB.size hg2
  clear M2 hu
  go_wp2_with fail
  have key := same_nil w4 M3
  rw [same_true] at key
  refine key.mono ?_
  clear key
  rintro e w5 ⟨rfl, hb⟩
  replace HB := HBstep HB hb
  clear M3 hb
  go_wp2_with fail
  refine (rnew_all _).mono ?_
  rintro e w6 ⟨p2, g2, rfl, hp2, hg2, hpl2, hgl2, N1, hb⟩
  replace HB := HBstep HB hb
  clear hb
  go_wp2_with fail
  have key := rcode_any a 1 w6 N1
  rw [HC.out] at key
  refine key.mono ?_
  clear key
  rintro e w7 ⟨rfl, rfl⟩
  go_wp2_with fail
  go_ret
  exact ⟨rfl, HB⟩
set_option maxHeartbeats 4000000 in
set_option maxRecDepth 100000 in
theorem codes_near1 (a : BitVec 64) (w : World) (hm : (a.toNat : Int) % 1 = 0) (hr : (a.toNat : Int) < 32768) :
    Calls Try.prog 10 #[U a, .int .i64 1] w fun e w' => e = .returned (.bool true) ∧ Below w.heap.size w w' := by
  have HC := Lib.hid (show codeOf a 1 = 0 by unfold codeOf; rw [if_neg (by omega), if_neg (by omega)])
  have tm : (bits .and .u64 (a.toNat : Int) 0 != 0) = false := by
    have e := mask_mod a 0 1 rfl (by omega)
    have e2 : bits .and .u64 (a.toNat : Int) 0 = (a.toNat : Int) % 1 := e
    rw [e2]; rw [hm]; rfl
  have hr2 : decide ((32768 : Int) ≤ (a.toNat : Int)) = false := decide_eq_false (by omega)
  clear hr
  clear hm
  have HB := Below.refl w.heap.size w
  go_enter Try.func10, Try.ntmps10
  go_wp2_with fail
  refine (known6_b.on HB).mono ?_
  rintro e w1 ⟨rfl, HB1⟩
  replace HB := HB1
  clear HB1
  go_wp2_with fail
  refine (new_all _).mono ?_
  rintro e w2 ⟨p, g, rfl, hp, hg, hpl, hgl, M1, hb⟩
  have hg2 : w.heap.size ≤ g := Nat.le_trans HB.size hg
  replace HB := HBstep HB hb
  clear hb hg hp
  go_wp2_with fail
  have key := read_all a 1 w2 M1
  rw [rdF_zero, HC.out] at key
  refine key.mono ?_
  clear key
  rintro e w3 ⟨rfl, hb⟩
  have M2 := M1.below hb
  replace HB := HBstep HB hb
  clear M1 hb
  go_wp2_with fail
  have key := write_all a 1 0#64 w3 M2
  rw [wrF_zero, HC.out] at key
  refine key.mono ?_
  clear key
  rintro e w4 ⟨rfl, hu, M3⟩
  replace HB := Upd.below HB hu HB.size hg2
  clear M2 hu
  go_wp2_with fail
  have key := same_nil w4 M3
  rw [same_true] at key
  refine key.mono ?_
  clear key
  rintro e w5 ⟨rfl, hb⟩
  replace HB := HBstep HB hb
  clear M3 hb
  go_wp2_with fail
  refine (rnew_all _).mono ?_
  rintro e w6 ⟨p2, g2, rfl, hp2, hg2, hpl2, hgl2, N1, hb⟩
  replace HB := HBstep HB hb
  clear hb
  go_wp2_with fail
  have key := rcode_any a 1 w6 N1
  rw [HC.out] at key
  refine key.mono ?_
  clear key
  rintro e w7 ⟨rfl, rfl⟩
  go_wp2_with fail
  go_ret
  exact ⟨rfl, HB⟩
set_option maxHeartbeats 4000000 in
set_option maxRecDepth 100000 in
theorem codes_odd2 (a : BitVec 64) (w : World) (hm : (a.toNat : Int) % 2 ≠ 0) :
    Calls Try.prog 10 #[U a, .int .i64 2] w fun e w' => e = .returned (.bool true) ∧ Below w.heap.size w w' := by
  have HC := Lib.hid (show codeOf a 2 = 61 by unfold codeOf; rw [if_pos (Or.inr hm)])
  have tm : (bits .and .u64 (a.toNat : Int) 1 != 0) = true := by
    have e := mask_mod a 1 2 rfl (by omega)
    have e2 : bits .and .u64 (a.toNat : Int) 1 = (a.toNat : Int) % 2 := e
    rw [e2]; exact bne_iff_ne.2 hm
  clear hm
  have HB := Below.refl w.heap.size w
  go_enter Try.func10, Try.ntmps10
  go_wp2_with fail
  refine (known6_b.on HB).mono ?_
  rintro e w1 ⟨rfl, HB1⟩
  replace HB := HB1
  clear HB1
  go_wp2_with fail
  refine (new_all _).mono ?_
  rintro e w2 ⟨p, g, rfl, hp, hg, hpl, hgl, M1, hb⟩
  have hg2 : w.heap.size ≤ g := Nat.le_trans HB.size hg
  replace HB := HBstep HB hb
  clear hb hg hp
  go_wp2_with fail
  have key := read_all a 2 w2 M1
  rw [rdF_zero, HC.out] at key
  refine key.mono ?_
  clear key
  rintro e w3 ⟨rfl, hb⟩
  have M2 := M1.below hb
  replace HB := HBstep HB hb
  clear M1 hb
  go_wp2_with fail
  have key := write_all a 2 0#64 w3 M2
  rw [wrF_zero, HC.out] at key
  refine key.mono ?_
  clear key
  rintro e w4 ⟨rfl, hu, M3⟩
  replace HB := Upd.below HB hu HB.size hg2
  clear M2 hu
  go_wp2_with fail
  have key := same_nil w4 M3
  rw [same_true] at key
  refine key.mono ?_
  clear key
  rintro e w5 ⟨rfl, hb⟩
  replace HB := HBstep HB hb
  clear M3 hb
  go_wp2_with fail
  refine (rnew_all _).mono ?_
  rintro e w6 ⟨p2, g2, rfl, hp2, hg2, hpl2, hgl2, N1, hb⟩
  replace HB := HBstep HB hb
  clear hb
  go_wp2_with fail
  have key := rcode_any a 2 w6 N1
  rw [HC.out] at key
  refine key.mono ?_
  clear key
  rintro e w7 ⟨rfl, rfl⟩
  go_wp2_with fail
  go_ret
  exact ⟨rfl, HB⟩
set_option maxHeartbeats 4000000 in
set_option maxRecDepth 100000 in
theorem codes_far2 (a : BitVec 64) (w : World) (hm : (a.toNat : Int) % 2 = 0) (hr : 32768 ≤ (a.toNat : Int)) :
    Calls Try.prog 10 #[U a, .int .i64 2] w fun e w' => e = .returned (.bool true) ∧ Below w.heap.size w w' := by
  have HC := Lib.hid (show codeOf a 2 = 60 by unfold codeOf; rw [if_neg (by omega), if_pos (by omega)])
  have tm : (bits .and .u64 (a.toNat : Int) 1 != 0) = false := by
    have e := mask_mod a 1 2 rfl (by omega)
    have e2 : bits .and .u64 (a.toNat : Int) 1 = (a.toNat : Int) % 2 := e
    rw [e2]; rw [hm]; rfl
  clear hm
  have HB := Below.refl w.heap.size w
  go_enter Try.func10, Try.ntmps10
  go_wp2_with fail
  refine (known6_b.on HB).mono ?_
  rintro e w1 ⟨rfl, HB1⟩
  replace HB := HB1
  clear HB1
  go_wp2_with fail
  refine (new_all _).mono ?_
  rintro e w2 ⟨p, g, rfl, hp, hg, hpl, hgl, M1, hb⟩
  have hg2 : w.heap.size ≤ g := Nat.le_trans HB.size hg
  replace HB := HBstep HB hb
  clear hb hg hp
  go_wp2_with fail
  have key := read_all a 2 w2 M1
  rw [rdF_zero, HC.out] at key
  refine key.mono ?_
  clear key
  rintro e w3 ⟨rfl, hb⟩
  have M2 := M1.below hb
  replace HB := HBstep HB hb
  clear M1 hb
  go_wp2_with fail
  have key := write_all a 2 0#64 w3 M2
  rw [wrF_zero, HC.out] at key
  refine key.mono ?_
  clear key
  rintro e w4 ⟨rfl, hu, M3⟩
  replace HB := Upd.below HB hu HB.size hg2
  clear M2 hu
  go_wp2_with fail
  have key := same_nil w4 M3
  rw [same_true] at key
  refine key.mono ?_
  clear key
  rintro e w5 ⟨rfl, hb⟩
  replace HB := HBstep HB hb
  clear M3 hb
  go_wp2_with fail
  refine (rnew_all _).mono ?_
  rintro e w6 ⟨p2, g2, rfl, hp2, hg2, hpl2, hgl2, N1, hb⟩
  replace HB := HBstep HB hb
  clear hb
  go_wp2_with fail
  have key := rcode_any a 2 w6 N1
  rw [HC.out] at key
  refine key.mono ?_
  clear key
  rintro e w7 ⟨rfl, rfl⟩
  go_wp2_with fail
  go_ret
  exact ⟨rfl, HB⟩
set_option maxHeartbeats 4000000 in
set_option maxRecDepth 100000 in
theorem codes_near2 (a : BitVec 64) (w : World) (hm : (a.toNat : Int) % 2 = 0) (hr : (a.toNat : Int) < 32768) :
    Calls Try.prog 10 #[U a, .int .i64 2] w fun e w' => e = .returned (.bool true) ∧ Below w.heap.size w w' := by
  have HC := Lib.hid (show codeOf a 2 = 0 by unfold codeOf; rw [if_neg (by omega), if_neg (by omega)])
  have tm : (bits .and .u64 (a.toNat : Int) 1 != 0) = false := by
    have e := mask_mod a 1 2 rfl (by omega)
    have e2 : bits .and .u64 (a.toNat : Int) 1 = (a.toNat : Int) % 2 := e
    rw [e2]; rw [hm]; rfl
  have hr2 : decide ((32768 : Int) ≤ (a.toNat : Int)) = false := decide_eq_false (by omega)
  clear hr
  clear hm
  have HB := Below.refl w.heap.size w
  go_enter Try.func10, Try.ntmps10
  go_wp2_with fail
  refine (known6_b.on HB).mono ?_
  rintro e w1 ⟨rfl, HB1⟩
  replace HB := HB1
  clear HB1
  go_wp2_with fail
  refine (new_all _).mono ?_
  rintro e w2 ⟨p, g, rfl, hp, hg, hpl, hgl, M1, hb⟩
  have hg2 : w.heap.size ≤ g := Nat.le_trans HB.size hg
  replace HB := HBstep HB hb
  clear hb hg hp
  go_wp2_with fail
  have key := read_all a 2 w2 M1
  rw [rdF_zero, HC.out] at key
  refine key.mono ?_
  clear key
  rintro e w3 ⟨rfl, hb⟩
  have M2 := M1.below hb
  replace HB := HBstep HB hb
  clear M1 hb
  go_wp2_with fail
  have key := write_all a 2 0#64 w3 M2
  rw [wrF_zero, HC.out] at key
  refine key.mono ?_
  clear key
  rintro e w4 ⟨rfl, hu, M3⟩
  replace HB := Upd.below HB hu HB.size hg2
  clear M2 hu
  go_wp2_with fail
  have key := same_nil w4 M3
  rw [same_true] at key
  refine key.mono ?_
  clear key
  rintro e w5 ⟨rfl, hb⟩
  replace HB := HBstep HB hb
  clear M3 hb
  go_wp2_with fail
  refine (rnew_all _).mono ?_
  rintro e w6 ⟨p2, g2, rfl, hp2, hg2, hpl2, hgl2, N1, hb⟩
  replace HB := HBstep HB hb
  clear hb
  go_wp2_with fail
  have key := rcode_any a 2 w6 N1
  rw [HC.out] at key
  refine key.mono ?_
  clear key
  rintro e w7 ⟨rfl, rfl⟩
  go_wp2_with fail
  go_ret
  exact ⟨rfl, HB⟩
set_option maxHeartbeats 4000000 in
set_option maxRecDepth 100000 in
theorem codes_odd4 (a : BitVec 64) (w : World) (hm : (a.toNat : Int) % 4 ≠ 0) :
    Calls Try.prog 10 #[U a, .int .i64 4] w fun e w' => e = .returned (.bool true) ∧ Below w.heap.size w w' := by
  have HC := Lib.hid (show codeOf a 4 = 61 by unfold codeOf; rw [if_pos (Or.inr hm)])
  have tm : (bits .and .u64 (a.toNat : Int) 3 != 0) = true := by
    have e := mask_mod a 3 4 rfl (by omega)
    have e2 : bits .and .u64 (a.toNat : Int) 3 = (a.toNat : Int) % 4 := e
    rw [e2]; exact bne_iff_ne.2 hm
  clear hm
  have HB := Below.refl w.heap.size w
  go_enter Try.func10, Try.ntmps10
  go_wp2_with fail
  refine (known6_b.on HB).mono ?_
  rintro e w1 ⟨rfl, HB1⟩
  replace HB := HB1
  clear HB1
  go_wp2_with fail
  refine (new_all _).mono ?_
  rintro e w2 ⟨p, g, rfl, hp, hg, hpl, hgl, M1, hb⟩
  have hg2 : w.heap.size ≤ g := Nat.le_trans HB.size hg
  replace HB := HBstep HB hb
  clear hb hg hp
  go_wp2_with fail
  have key := read_all a 4 w2 M1
  rw [rdF_zero, HC.out] at key
  refine key.mono ?_
  clear key
  rintro e w3 ⟨rfl, hb⟩
  have M2 := M1.below hb
  replace HB := HBstep HB hb
  clear M1 hb
  go_wp2_with fail
  have key := write_all a 4 0#64 w3 M2
  rw [wrF_zero, HC.out] at key
  refine key.mono ?_
  clear key
  rintro e w4 ⟨rfl, hu, M3⟩
  replace HB := Upd.below HB hu HB.size hg2
  clear M2 hu
  go_wp2_with fail
  have key := same_nil w4 M3
  rw [same_true] at key
  refine key.mono ?_
  clear key
  rintro e w5 ⟨rfl, hb⟩
  replace HB := HBstep HB hb
  clear M3 hb
  go_wp2_with fail
  refine (rnew_all _).mono ?_
  rintro e w6 ⟨p2, g2, rfl, hp2, hg2, hpl2, hgl2, N1, hb⟩
  replace HB := HBstep HB hb
  clear hb
  go_wp2_with fail
  have key := rcode_any a 4 w6 N1
  rw [HC.out] at key
  refine key.mono ?_
  clear key
  rintro e w7 ⟨rfl, rfl⟩
  go_wp2_with fail
  go_ret
  exact ⟨rfl, HB⟩
set_option maxHeartbeats 4000000 in
set_option maxRecDepth 100000 in
theorem codes_far4 (a : BitVec 64) (w : World) (hm : (a.toNat : Int) % 4 = 0) (hr : 32768 ≤ (a.toNat : Int)) :
    Calls Try.prog 10 #[U a, .int .i64 4] w fun e w' => e = .returned (.bool true) ∧ Below w.heap.size w w' := by
  have HC := Lib.hid (show codeOf a 4 = 60 by unfold codeOf; rw [if_neg (by omega), if_pos (by omega)])
  have tm : (bits .and .u64 (a.toNat : Int) 3 != 0) = false := by
    have e := mask_mod a 3 4 rfl (by omega)
    have e2 : bits .and .u64 (a.toNat : Int) 3 = (a.toNat : Int) % 4 := e
    rw [e2]; rw [hm]; rfl
  clear hm
  have HB := Below.refl w.heap.size w
  go_enter Try.func10, Try.ntmps10
  go_wp2_with fail
  refine (known6_b.on HB).mono ?_
  rintro e w1 ⟨rfl, HB1⟩
  replace HB := HB1
  clear HB1
  go_wp2_with fail
  refine (new_all _).mono ?_
  rintro e w2 ⟨p, g, rfl, hp, hg, hpl, hgl, M1, hb⟩
  have hg2 : w.heap.size ≤ g := Nat.le_trans HB.size hg
  replace HB := HBstep HB hb
  clear hb hg hp
  go_wp2_with fail
  have key := read_all a 4 w2 M1
  rw [rdF_zero, HC.out] at key
  refine key.mono ?_
  clear key
  rintro e w3 ⟨rfl, hb⟩
  have M2 := M1.below hb
  replace HB := HBstep HB hb
  clear M1 hb
  go_wp2_with fail
  have key := write_all a 4 0#64 w3 M2
  rw [wrF_zero, HC.out] at key
  refine key.mono ?_
  clear key
  rintro e w4 ⟨rfl, hu, M3⟩
  replace HB := Upd.below HB hu HB.size hg2
  clear M2 hu
  go_wp2_with fail
  have key := same_nil w4 M3
  rw [same_true] at key
  refine key.mono ?_
  clear key
  rintro e w5 ⟨rfl, hb⟩
  replace HB := HBstep HB hb
  clear M3 hb
  go_wp2_with fail
  refine (rnew_all _).mono ?_
  rintro e w6 ⟨p2, g2, rfl, hp2, hg2, hpl2, hgl2, N1, hb⟩
  replace HB := HBstep HB hb
  clear hb
  go_wp2_with fail
  have key := rcode_any a 4 w6 N1
  rw [HC.out] at key
  refine key.mono ?_
  clear key
  rintro e w7 ⟨rfl, rfl⟩
  go_wp2_with fail
  go_ret
  exact ⟨rfl, HB⟩
set_option maxHeartbeats 4000000 in
set_option maxRecDepth 100000 in
theorem codes_near4 (a : BitVec 64) (w : World) (hm : (a.toNat : Int) % 4 = 0) (hr : (a.toNat : Int) < 32768) :
    Calls Try.prog 10 #[U a, .int .i64 4] w fun e w' => e = .returned (.bool true) ∧ Below w.heap.size w w' := by
  have HC := Lib.hid (show codeOf a 4 = 0 by unfold codeOf; rw [if_neg (by omega), if_neg (by omega)])
  have tm : (bits .and .u64 (a.toNat : Int) 3 != 0) = false := by
    have e := mask_mod a 3 4 rfl (by omega)
    have e2 : bits .and .u64 (a.toNat : Int) 3 = (a.toNat : Int) % 4 := e
    rw [e2]; rw [hm]; rfl
  have hr2 : decide ((32768 : Int) ≤ (a.toNat : Int)) = false := decide_eq_false (by omega)
  clear hr
  clear hm
  have HB := Below.refl w.heap.size w
  go_enter Try.func10, Try.ntmps10
  go_wp2_with fail
  refine (known6_b.on HB).mono ?_
  rintro e w1 ⟨rfl, HB1⟩
  replace HB := HB1
  clear HB1
  go_wp2_with fail
  refine (new_all _).mono ?_
  rintro e w2 ⟨p, g, rfl, hp, hg, hpl, hgl, M1, hb⟩
  have hg2 : w.heap.size ≤ g := Nat.le_trans HB.size hg
  replace HB := HBstep HB hb
  clear hb hg hp
  go_wp2_with fail
  have key := read_all a 4 w2 M1
  rw [rdF_zero, HC.out] at key
  refine key.mono ?_
  clear key
  rintro e w3 ⟨rfl, hb⟩
  have M2 := M1.below hb
  replace HB := HBstep HB hb
  clear M1 hb
  go_wp2_with fail
  have key := write_all a 4 0#64 w3 M2
  rw [wrF_zero, HC.out] at key
  refine key.mono ?_
  clear key
  rintro e w4 ⟨rfl, hu, M3⟩
  replace HB := Upd.below HB hu HB.size hg2
  clear M2 hu
  go_wp2_with fail
  have key := same_nil w4 M3
  rw [same_true] at key
  refine key.mono ?_
  clear key
  rintro e w5 ⟨rfl, hb⟩
  replace HB := HBstep HB hb
  clear M3 hb
  go_wp2_with fail
  refine (rnew_all _).mono ?_
  rintro e w6 ⟨p2, g2, rfl, hp2, hg2, hpl2, hgl2, N1, hb⟩
  replace HB := HBstep HB hb
  clear hb
  go_wp2_with fail
  have key := rcode_any a 4 w6 N1
  rw [HC.out] at key
  refine key.mono ?_
  clear key
  rintro e w7 ⟨rfl, rfl⟩
  go_wp2_with fail
  go_ret
  exact ⟨rfl, HB⟩
set_option maxHeartbeats 4000000 in
set_option maxRecDepth 100000 in
theorem codes_odd8 (a : BitVec 64) (w : World) (hm : (a.toNat : Int) % 8 ≠ 0) :
    Calls Try.prog 10 #[U a, .int .i64 8] w fun e w' => e = .returned (.bool true) ∧ Below w.heap.size w w' := by
  have HC := Lib.hid (show codeOf a 8 = 61 by unfold codeOf; rw [if_pos (Or.inr hm)])
  have tm : (bits .and .u64 (a.toNat : Int) 7 != 0) = true := by
    have e := mask_mod a 7 8 rfl (by omega)
    have e2 : bits .and .u64 (a.toNat : Int) 7 = (a.toNat : Int) % 8 := e
    rw [e2]; exact bne_iff_ne.2 hm
  clear hm
  have HB := Below.refl w.heap.size w
  go_enter Try.func10, Try.ntmps10
  go_wp2_with fail
  refine (known6_b.on HB).mono ?_
  rintro e w1 ⟨rfl, HB1⟩
  replace HB := HB1
  clear HB1
  go_wp2_with fail
  refine (new_all _).mono ?_
  rintro e w2 ⟨p, g, rfl, hp, hg, hpl, hgl, M1, hb⟩
  have hg2 : w.heap.size ≤ g := Nat.le_trans HB.size hg
  replace HB := HBstep HB hb
  clear hb hg hp
  go_wp2_with fail
  have key := read_all a 8 w2 M1
  rw [rdF_zero, HC.out] at key
  refine key.mono ?_
  clear key
  rintro e w3 ⟨rfl, hb⟩
  have M2 := M1.below hb
  replace HB := HBstep HB hb
  clear M1 hb
  go_wp2_with fail
  have key := write_all a 8 0#64 w3 M2
  rw [wrF_zero, HC.out] at key
  refine key.mono ?_
  clear key
  rintro e w4 ⟨rfl, hu, M3⟩
  replace HB := Upd.below HB hu HB.size hg2
  clear M2 hu
  go_wp2_with fail
  have key := same_nil w4 M3
  rw [same_true] at key
  refine key.mono ?_
  clear key
  rintro e w5 ⟨rfl, hb⟩
  replace HB := HBstep HB hb
  clear M3 hb
  go_wp2_with fail
  refine (rnew_all _).mono ?_
  rintro e w6 ⟨p2, g2, rfl, hp2, hg2, hpl2, hgl2, N1, hb⟩
  replace HB := HBstep HB hb
  clear hb
  go_wp2_with fail
  have key := rcode_any a 8 w6 N1
  rw [HC.out] at key
  refine key.mono ?_
  clear key
  rintro e w7 ⟨rfl, rfl⟩
  go_wp2_with fail
  go_ret
  exact ⟨rfl, HB⟩
set_option maxHeartbeats 4000000 in
set_option maxRecDepth 100000 in
theorem codes_far8 (a : BitVec 64) (w : World) (hm : (a.toNat : Int) % 8 = 0) (hr : 32768 ≤ (a.toNat : Int)) :
    Calls Try.prog 10 #[U a, .int .i64 8] w fun e w' => e = .returned (.bool true) ∧ Below w.heap.size w w' := by
  have HC := Lib.hid (show codeOf a 8 = 60 by unfold codeOf; rw [if_neg (by omega), if_pos (by omega)])
  have tm : (bits .and .u64 (a.toNat : Int) 7 != 0) = false := by
    have e := mask_mod a 7 8 rfl (by omega)
    have e2 : bits .and .u64 (a.toNat : Int) 7 = (a.toNat : Int) % 8 := e
    rw [e2]; rw [hm]; rfl
  clear hm
  have HB := Below.refl w.heap.size w
  go_enter Try.func10, Try.ntmps10
  go_wp2_with fail
  refine (known6_b.on HB).mono ?_
  rintro e w1 ⟨rfl, HB1⟩
  replace HB := HB1
  clear HB1
  go_wp2_with fail
  refine (new_all _).mono ?_
  rintro e w2 ⟨p, g, rfl, hp, hg, hpl, hgl, M1, hb⟩
  have hg2 : w.heap.size ≤ g := Nat.le_trans HB.size hg
  replace HB := HBstep HB hb
  clear hb hg hp
  go_wp2_with fail
  have key := read_all a 8 w2 M1
  rw [rdF_zero, HC.out] at key
  refine key.mono ?_
  clear key
  rintro e w3 ⟨rfl, hb⟩
  have M2 := M1.below hb
  replace HB := HBstep HB hb
  clear M1 hb
  go_wp2_with fail
  have key := write_all a 8 0#64 w3 M2
  rw [wrF_zero, HC.out] at key
  refine key.mono ?_
  clear key
  rintro e w4 ⟨rfl, hu, M3⟩
  replace HB := Upd.below HB hu HB.size hg2
  clear M2 hu
  go_wp2_with fail
  have key := same_nil w4 M3
  rw [same_true] at key
  refine key.mono ?_
  clear key
  rintro e w5 ⟨rfl, hb⟩
  replace HB := HBstep HB hb
  clear M3 hb
  go_wp2_with fail
  refine (rnew_all _).mono ?_
  rintro e w6 ⟨p2, g2, rfl, hp2, hg2, hpl2, hgl2, N1, hb⟩
  replace HB := HBstep HB hb
  clear hb
  go_wp2_with fail
  have key := rcode_any a 8 w6 N1
  rw [HC.out] at key
  refine key.mono ?_
  clear key
  rintro e w7 ⟨rfl, rfl⟩
  go_wp2_with fail
  go_ret
  exact ⟨rfl, HB⟩
set_option maxHeartbeats 4000000 in
set_option maxRecDepth 100000 in
theorem codes_near8 (a : BitVec 64) (w : World) (hm : (a.toNat : Int) % 8 = 0) (hr : (a.toNat : Int) < 32768) :
    Calls Try.prog 10 #[U a, .int .i64 8] w fun e w' => e = .returned (.bool true) ∧ Below w.heap.size w w' := by
  have HC := Lib.hid (show codeOf a 8 = 0 by unfold codeOf; rw [if_neg (by omega), if_neg (by omega)])
  have tm : (bits .and .u64 (a.toNat : Int) 7 != 0) = false := by
    have e := mask_mod a 7 8 rfl (by omega)
    have e2 : bits .and .u64 (a.toNat : Int) 7 = (a.toNat : Int) % 8 := e
    rw [e2]; rw [hm]; rfl
  have hr2 : decide ((32768 : Int) ≤ (a.toNat : Int)) = false := decide_eq_false (by omega)
  clear hr
  clear hm
  have HB := Below.refl w.heap.size w
  go_enter Try.func10, Try.ntmps10
  go_wp2_with fail
  refine (known6_b.on HB).mono ?_
  rintro e w1 ⟨rfl, HB1⟩
  replace HB := HB1
  clear HB1
  go_wp2_with fail
  refine (new_all _).mono ?_
  rintro e w2 ⟨p, g, rfl, hp, hg, hpl, hgl, M1, hb⟩
  have hg2 : w.heap.size ≤ g := Nat.le_trans HB.size hg
  replace HB := HBstep HB hb
  clear hb hg hp
  go_wp2_with fail
  have key := read_all a 8 w2 M1
  rw [rdF_zero, HC.out] at key
  refine key.mono ?_
  clear key
  rintro e w3 ⟨rfl, hb⟩
  have M2 := M1.below hb
  replace HB := HBstep HB hb
  clear M1 hb
  go_wp2_with fail
  have key := write_all a 8 0#64 w3 M2
  rw [wrF_zero, HC.out] at key
  refine key.mono ?_
  clear key
  rintro e w4 ⟨rfl, hu, M3⟩
  replace HB := Upd.below HB hu HB.size hg2
  clear M2 hu
  go_wp2_with fail
  have key := same_nil w4 M3
  rw [same_true] at key
  refine key.mono ?_
  clear key
  rintro e w5 ⟨rfl, hb⟩
  replace HB := HBstep HB hb
  clear M3 hb
  go_wp2_with fail
  refine (rnew_all _).mono ?_
  rintro e w6 ⟨p2, g2, rfl, hp2, hg2, hpl2, hgl2, N1, hb⟩
  replace HB := HBstep HB hb
  clear hb
  go_wp2_with fail
  have key := rcode_any a 8 w6 N1
  rw [HC.out] at key
  refine key.mono ?_
  clear key
  rintro e w7 ⟨rfl, rfl⟩
  go_wp2_with fail
  go_ret
  exact ⟨rfl, HB⟩
theorem walkMemCodes (a0 a1 : Int) (w0 : (Lit.int .u64 a0).wf = true) (w1 : (Lit.int .i64 a1).wf = true) (w : World) :
    Calls Try.prog 10 #[.int .u64 a0, .int .i64 a1] w fun e w' => e = .returned (.bool true) ∧ Below w.heap.size w w' := by
  obtain ⟨a, rfl⟩ := u64_open w0
  by_cases h1 : a1 = 1
  · subst h1
    by_cases hr : 32768 ≤ (a.toNat : Int)
    · exact codes_far1 a w (by omega) hr
    · exact codes_near1 a w (by omega) (by omega)
  by_cases h2 : a1 = 2
  · subst h2
    by_cases hm : (a.toNat : Int) % 2 = 0
    · by_cases hr : 32768 ≤ (a.toNat : Int)
      · exact codes_far2 a w hm hr
      · exact codes_near2 a w hm (by omega)
    · exact codes_odd2 a w hm
  by_cases h4 : a1 = 4
  · subst h4
    by_cases hm : (a.toNat : Int) % 4 = 0
    · by_cases hr : 32768 ≤ (a.toNat : Int)
      · exact codes_far4 a w hm hr
      · exact codes_near4 a w hm (by omega)
    · exact codes_odd4 a w hm
  by_cases h8 : a1 = 8
  · subst h8
    by_cases hm : (a.toNat : Int) % 8 = 0
    · by_cases hr : 32768 ≤ (a.toNat : Int)
      · exact codes_far8 a w hm hr
      · exact codes_near8 a w hm (by omega)
    · exact codes_odd8 a w hm
  exact codes_no a a1 w h1 h2 h4 h8
end Go.Proofs.Ytekehogcbngjoaa
