/- The walk of BusMemory. -/
import Derived.Test.YtkjbhjmjfacjcaaBusCopy
import Derived.Test.YtkjbhjmjfacjcaaLaid
namespace Go.Proofs.Ytkjbhjmjfacjcaa
open Go.RowKit Go.BigFrame
set_option linter.unusedSimpArgs false
set_option linter.unusedVariables false
set_option maxRecDepth 100000

theorem bwrite_memI (b B p g : Nat) (ks : Nat → Option Nat) (vs : Nat → Value) (S : BusV) (a : BitVec 64) (n : Int) (x : BitVec 64) (w : World) (h : IsBus w B b p g ks vs S) (hc : conOf a n = none) (h2 : ¬ (a.toNat = 61448 ∧ n = 8)) :
    Calls Try.prog 28 #[.pointer (some ⟨b, 0, none⟩), U a, .int .i64 n, U x] w fun e w' => e = .returned (.bool (codeOf a n == 0)) ∧ Upd w w' g ∧ IsBus w' B b p g ks vs { S with f := wrF S.f a n x } := by
  have hp := h.c0
  have kc := bcon b a n w
  rw [hc] at kc
  have kr := write_all a n x w h.mem
  have H := Lib.hid h
  generalize wrF S.f a n x = f' at *
  have e2 : (((a.toNat : Int) == 61448) && (n == 8)) = false := by rw [Bool.eq_false_iff]; intro e; rw [Bool.and_eq_true, beq_iff_eq, beq_iff_eq] at e; omega
  generalize hb2 : ((a.toNat : Int) == 61448) = b2 at *
  generalize hb3 : (n == 8) = b3 at *
  generalize codeOf a n = c at *
  clear h h2 hc
  go_enter Try.func28, Try.ntmps28
  cases b2 <;> cases b3 <;> first
    | (exact absurd e2 (by decide))
    | (go_wp2_with fail
       (with_reducible refine kc.mono ?_)
       rintro e w1 ⟨rfl, rfl⟩
       go_wp2_with fail
       (with_reducible refine kr.mono ?_)
       rintro e w2 ⟨rfl, hu, hM⟩
       go_wp2
       go_ret
       exact ⟨rfl, hu, H.out.mem_turn hu hM⟩)
set_option maxHeartbeats 4000000 in
theorem memory1 (x a : Nat) (v : BitVec 64) (w : World) (ex : bits .andNot .u64 ((x : Int) % 32768) 7 = (a : Int)) (ha8 : a % 8 = 0) (ha : a < 32768) (hx : x < 65536) :
    Calls Try.prog 11 #[.int .u16 (x : Int), U v] w fun e w' => e = .returned (.bool true) ∧ Below w.heap.size w w' := by
  obtain ⟨u, hux⟩ : ∃ u : BitVec 64, Op.unary .xor (.int .u64 (v.toNat : Int)) = (pure (.int .u64 (u.toNat : Int)) : Sem Value) := ⟨_, un_xor v⟩
  have d0 : IntKind.u64.wrap (x : Int) = (x : Int) := IntWalk.u64_in _ ⟨by omega, by omega⟩
  have UA := Lib.hid (U_of a (by omega))
  have CA := Lib.hid (code_in a 8 (by omega) (by omega) ha)
  have CB := Lib.hid (show (codeOf (BitVec.ofNat 64 a) 8 == 0) = true by rw [code_in a 8 (by omega) (by omega) ha]; rfl)
  obtain ⟨f1, hf1⟩ : ∃ f1, f1 = putW (fun _ => 0) a v := ⟨_, rfl⟩
  obtain ⟨f2, hf2⟩ : ∃ f2, f2 = putW f1 a u := ⟨_, rfl⟩
  have W1 := Lib.hid ((wr_put (fun _ => 0) a v ha ha8).trans hf1.symm)
  have W2 := Lib.hid ((wr_put f1 a u ha ha8).trans hf2.symm)
  have R1 := Lib.hid (show rdF f1 (BitVec.ofNat 64 a) 8 = v by unfold rdF; rw [if_pos CA.out, ofNat_toNat a (by omega), hf1]; exact put_same _ _ _)
  have R2 := Lib.hid (show rdF f2 (BitVec.ofNat 64 a) 8 = u by unfold rdF; rw [if_pos CA.out, ofNat_toNat a (by omega), hf2]; exact put_same _ _ _)
  have CN := Lib.hid (show conOf (BitVec.ofNat 64 a) 8 = none by unfold conOf; rw [if_neg (by omega)])
  have N1 := Lib.hid (show (BitVec.ofNat 64 a).toNat ≠ 61440 by rw [ofNat_toNat a (by omega)]; omega)
  have N2 := Lib.hid (show (BitVec.ofNat 64 a).toNat ≠ 61448 by rw [ofNat_toNat a (by omega)]; omega)
  have DV := Lib.hid (show decide (61440 ≤ (BitVec.ofNat 64 a).toNat ∧ (BitVec.ofNat 64 a).toNat < 62720) = false from decide_eq_false (by rw [ofNat_toNat a (by omega)]; omega))
  clear hf1 hf2 ha8 ha
  go_enter Try.func11, Try.ntmps11
  go_wp2_with fail
  (with_reducible refine (known7_b.run _).mono ?_)
  rintro e w1 ⟨rfl, HB0⟩
  go_wp2_with fail
  refine (new_all _).mono ?_
  rintro e w2 ⟨p, g, rfl, hp, hg, hpl, hgl, M, HB⟩
  go_wp2_with fail
  have key := write_all (BitVec.ofNat 64 a) 8 v w2 M
  rw [UA.out, CA.out, W1.out] at key
  (with_reducible refine key.mono ?_)
  clear key M
  rintro e w3 ⟨rfl, hu, M⟩
  replace HB := Upd.below HB hu HB.size hg
  clear hu
  go_wp2_with fail
  refine (bnew_mem (B := w1.heap.size) w3 M HB.size hp hg).mono ?_
  rintro e w4 ⟨b, rfl, hb, ⟨ks, vs, H⟩, hb4⟩
  replace HB := HBstep HB hb4
  clear hb4 M
  go_wp2_with fail
  refine (bcopy1 b w1.heap.size p g ks vs _ w4 H (fun i hi => H.nil_val i hi rfl) (fun _ _ => rfl)).mono ?_
  rintro e w5 ⟨c, g', ks2, p', rfl, hc, hp', hg', I, H5, hb5⟩
  have hlt := H.lt
  replace HB := HBstep HB hb5
  replace H := H5
  clear H5 hb5
  go_wp2_with fail
  have key := bread_mem b w1.heap.size _ (BitVec.ofNat 64 a) 8 w5 ⟨p, g, ks, vs, H⟩ CN.out (fun h => N1.out h.1) (fun h => N2.out h.1)
  rw [CB.out] at key
  have key : Calls Try.prog 27 #[.pointer (some ⟨b, 0, none⟩), U (BitVec.ofNat 64 a), .int .i64 8] w5 fun e w' => e = .returned (.tuple #[U (rdF f1 (BitVec.ofNat 64 a) 8), .bool true]) ∧ Below w5.heap.size w5 w' := key
  rw [R1.out, UA.out] at key
  (with_reducible refine key.mono ?_)
  clear key
  rintro e w6 ⟨rfl, hb6⟩
  replace HB := HBstep HB hb6
  replace H := H.below hb6
  replace I := I.below hb6
  clear hb6
  go_wp2_with fail
  have key := bwrite_memI b w1.heap.size p g ks vs _ (BitVec.ofNat 64 a) 8 u w6 H CN.out (fun h => N2.out h.1)
  rw [CB.out, UA.out] at key
  (with_reducible refine key.mono ?_)
  clear key
  rintro e w7 ⟨rfl, hu, H7⟩
  replace HB := Upd.below HB hu HB.size hg
  have I7 := I.keep hu (by omega) (by omega) (by omega) (fun i hi => by rw [I.nl i hi rfl]; simp)
  replace I := I7
  replace H := H7
  clear H7 I7 hu
  go_wp2_with fail
  have key := bmem b w1.heap.size p g ks vs _ w7 H
  (with_reducible refine key.mono ?_)
  clear key
  rintro e w8 ⟨rfl, hw⟩
  subst hw
  go_wp2_with fail
  have HM : IsMem w7 p g 88 (wrF f1 (BitVec.ofNat 64 a) 8 u) := H.mem
  rw [W2.out] at HM
  have key := read_all (BitVec.ofNat 64 a) 8 w7 HM
  rw [R2.out, CA.out, UA.out] at key
  (with_reducible refine key.mono ?_)
  clear key HM
  rintro e w9 ⟨rfl, hb9⟩
  replace HB := HBstep HB hb9
  replace I := I.below hb9
  clear hb9 H
  go_wp2_with fail
  have key := bread_mem c w4.heap.size _ (BitVec.ofNat 64 a) 8 w9 ⟨p', g', ks2, _, I⟩ CN.out (fun h => N1.out h.1) (fun h => N2.out h.1)
  rw [CB.out] at key
  have key : Calls Try.prog 27 #[.pointer (some ⟨c, 0, none⟩), U (BitVec.ofNat 64 a), .int .i64 8] w9 fun e w' => e = .returned (.tuple #[U (rdF f1 (BitVec.ofNat 64 a) 8), .bool true]) ∧ Below w9.heap.size w9 w' := key
  rw [R1.out, UA.out] at key
  (with_reducible refine key.mono ?_)
  clear key
  rintro e w10 ⟨rfl, hb10⟩
  replace HB := HBstep HB hb10
  clear hb10 I
  go_wp2_with fail
  have key := bdevice b (BitVec.ofNat 64 a) w10
  rw [DV.out, UA.out] at key
  (with_reducible refine key.mono ?_)
  clear key
  rintro e w11 ⟨rfl, hw⟩
  subst hw
  go_wp2
  go_ret
  exact ⟨rfl, HB0.trans (HB.mono HB0.size)⟩
theorem walkBusMemory (a0 a1 : Int) (h0 : (Lit.int .u16 a0).wf = true) (h1 : (Lit.int .u64 a1).wf = true) (w : World) :
    Calls Try.prog 11 #[.int .u16 a0, .int .u64 a1] w fun e w' => e = .returned (.bool true) ∧ Below w.heap.size w w' := by
  obtain ⟨x, rfl, hx⟩ := u16_open h0
  obtain ⟨v, rfl⟩ := u64_open h1
  have ex := and_not7 (x % 32768) (by omega)
  rw [show ((x % 32768 : Nat) : Int) = (x : Int) % 32768 by omega] at ex
  exact memory1 x (x % 32768 / 8 * 8) v w ex (by omega) (by omega) hx
end Go.Proofs.Ytkjbhjmjfacjcaa
