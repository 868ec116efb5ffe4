/- The walk of RouteBits; no condition but the arguments' own. -/
import Derived.Test.YtalcldghpmeeaaaSteps
namespace Go.Proofs.Ytalcldghpmeeaaa
open Go.RowKit Go.BigFrame
set_option linter.unusedSimpArgs false
set_option linter.unusedVariables false
set_option maxRecDepth 100000

def bitT (S : St) (a b : BitVec 64) (v : Bool) : St := { cleanS S with lev := 0, v := v, c := updC (updC (cleanS S).c 1 a) 17 b }
theorem shl_bit (k d : Nat) (hk : k < 64) (hd : d < 64) : (1#64 <<< k).getLsbD d = decide (k = d) := by
  rw [BitVec.getLsbD_shiftLeft]
  by_cases c : k = d
  · subst c; simp [hk]
  · by_cases c2 : d < k
    · simp [c, c2]
    · have h0 : (1#64).getLsbD (d - k) = false := by
        rw [BitVec.getLsbD_one]; simp; omega
      simp [c, h0]
theorem exc_bits (S : St) (a b : BitVec 64) (v : Bool) (d : BitVec 64) : excV (bitT S a b v) d = if a.getLsbD d.toNat = false then (3, false) else (1, v && b.getLsbD d.toNat) := by
  unfold excV
  show (if (0 : Int) = 3 ∨ (updC (updC (cleanS S).c 1 a) 17 b 1).getLsbD d.toNat = false then ((3 : Int), false) else (1, v && (updC (updC (cleanS S).c 1 a) 17 b 17).getLsbD d.toNat)) = _
  have e1 : updC (updC (cleanS S).c 1 a) 17 b 1 = a := by unfold updC; simp
  have e2 : updC (updC (cleanS S).c 1 a) 17 b 17 = b := by unfold updC; simp
  rw [e1, e2]
  simp
theorem updC_twice (f : Nat → BitVec 64) (i : Nat) (a b : BitVec 64) : updC (updC f i a) i b = updC f i b := by
  funext j; unfold updC; split <;> rfl
theorem updC_swap (f : Nat → BitVec 64) (i j : Nat) (a b : BitVec 64) (h : i ≠ j) : updC (updC f i a) j b = updC (updC f j b) i a := by
  funext k; unfold updC; by_cases c : k = i <;> by_cases d : k = j <;> simp [c, d, h, Ne.symm h]
theorem bitT_one (S : St) (a b a' : BitVec 64) (v : Bool) : ({ bitT S a b v with c := updC (bitT S a b v).c 1 a' } : St) = bitT S a' b v := by
  have e : updC (updC (updC (cleanS S).c 1 a) 17 b) 1 a' = updC (updC (cleanS S).c 1 a') 17 b := by
    rw [updC_swap (updC (cleanS S).c 1 a) 17 1 b a' (by omega), updC_twice]
  unfold bitT
  simp only [e]
theorem bitT_two (S : St) (a b b' : BitVec 64) (v : Bool) : ({ bitT S a b v with c := updC (bitT S a b v).c 17 b' } : St) = bitT S a b' v := by
  have e : updC (updC (updC (cleanS S).c 1 a) 17 b) 17 b' = updC (updC (cleanS S).c 1 a) 17 b' := updC_twice _ _ _ _
  unfold bitT
  simp only [e]
theorem bitT_v (S : St) (a b : BitVec 64) (v v' : Bool) : ({ bitT S a b v with v := v' } : St) = bitT S a b v' := rfl
set_option maxHeartbeats 4000000 in
theorem bits_walk (S : St) (x y : Nat) (hx : x < 256) (hy : y < 256) (w : World) :
    Calls Try.prog 6 #[.agg (stA S), .int .u8 (x : Int), .int .u8 (y : Int)] w fun e w' => e = .returned (.bool true) ∧ Below w.heap.size w w' := by
  have sz := stA_size S
  have zs := zero_st
  have hs := HasSt.new w S
  have hb : Below w.heap.size w (w.alloc (.cells (stA S) 26)) := (Below.refl _ _).alloc (Nat.le_refl _) _
  have HS := Lib.hid hs
  have HB := Lib.hid hb
  clear hs hb
  have CL := Lib.hid (clean_b S)
  obtain ⟨k, hk⟩ : ∃ k, k = x % 24 := ⟨_, rfl⟩
  obtain ⟨d, hd⟩ : ∃ d, d = y % 24 := ⟨_, rfl⟩
  have k1 : (x : Int) % 24 = (k : Int) := by omega
  have d1 : (y : Int) % 24 = (d : Int) := by omega
  have k2 : k < 24 := by omega
  have d2 : d < 24 := by omega
  have k3 : IntKind.u64.wrap (k : Int) = (k : Int) := IntWalk.u64_in _ ⟨by omega, by omega⟩
  have d3 : IntKind.u64.wrap (d : Int) = (d : Int) := IntWalk.u64_in _ ⟨by omega, by omega⟩
  have e1 := u_shl 1#64 k
  rw [show ((1#64).toNat : Int) = 1 from rfl, Int.one_mul] at e1
  have X : ∀ (a b : BitVec 64) (v : Bool) (j : Nat), j < 24 → Gives Try.prog 9 #[.agg (stA (bitT S a b v)), .int .u64 (j : Int)] (.tuple #[.int .i64 (if a.getLsbD j = false then (3, false) else ((1 : Int), v && b.getLsbD j)).1, .bool (if a.getLsbD j = false then ((3 : Int), false) else (1, v && b.getLsbD j)).2]) := by
    intro a b v j hj
    have := exc_b (bitT S a b v) (BitVec.ofNat 64 j)
    rw [U_of j (by omega), exc_bits, ofNat_toNat j (by omega)] at this
    exact this
  have B0 : ∀ j, (0#64 : BitVec 64).getLsbD j = false := fun j => by simp
  have X1 := X 0#64 0#64 true k k2
  rw [B0, if_pos rfl] at X1
  have X2 := X (1#64 <<< k) 0#64 true k k2
  rw [shl_bit k k (by omega) (by omega), decide_eq_true rfl, if_neg (by simp), B0] at X2
  have X3 := X (1#64 <<< k) 0#64 true d d2
  rw [shl_bit k d (by omega) (by omega), B0] at X3
  obtain ⟨e3, q, X3, q1, q2⟩ : ∃ (e3 : Int) (q : Bool), Gives Try.prog 9 #[.agg (stA (bitT S (1#64 <<< k) 0#64 true)), .int .u64 (d : Int)] (.tuple #[.int .i64 e3, .bool false]) ∧ (e3 == 1) = q ∧ ((k : Int) == (d : Int)) = q := by
    by_cases hkd : k = d
    · rw [decide_eq_true hkd, if_neg (by simp)] at X3
      exact ⟨1, true, X3, rfl, by rw [hkd]; simp⟩
    · rw [decide_eq_false hkd, if_pos rfl] at X3
      exact ⟨3, false, X3, rfl, by rw [beq_eq_false_iff_ne]; omega⟩
  have X4 := X (1#64 <<< k) (1#64 <<< k) true k k2
  rw [shl_bit k k (by omega) (by omega), decide_eq_true rfl, if_neg (by simp)] at X4
  have X5 := X (1#64 <<< k) (1#64 <<< k) false k k2
  rw [shl_bit k k (by omega) (by omega), decide_eq_true rfl, if_neg (by simp)] at X5
  generalize 1#64 <<< k = mm at X2 X3 X4 X5 e1
  have X1 := Lib.hid X1
  have X2 := Lib.hid X2
  have X3 := Lib.hid X3
  have X4 := Lib.hid X4
  have X5 := Lib.hid X5
  clear hk hd X B0
  go_enter Try.func6, Try.ntmps6
  go_wp2_with fail
  (with_reducible refine (known15_b.run _).mono ?_)
  rintro e w1 ⟨rfl, hb1⟩
  have HS := Lib.hid (HS.out.below hb1)
  have HB := Lib.hid (HBstep HB.out hb1)
  clear hb1
  go_wp2_with (first | (refine wpList_load_st HS.out rfl rfl rfl ?_) | fail)
  (with_reducible refine (CL.out.run _).mono ?_)
  rintro e w2 ⟨rfl, hb2⟩
  have HB := Lib.hid (HBstep HB.out hb2)
  clear hb2 HS
  have h0 := HasSt.new w2 St0
  have hs := h0.row (cleanS S)
  have H0 := Lib.hid h0
  have hb : Below w.heap.size w ((w2.alloc (.cells (stA St0) 26)).setRow w2.heap.size (stA (cleanS S))) := below_setRow (HB.out.alloc HB.out.size _) HB.out.size _
  obtain ⟨W, hW⟩ : ∃ W, W = (w2.alloc (.cells (stA St0) 26)).setRow w2.heap.size (stA (cleanS S)) := ⟨_, rfl⟩
  rw [← hW] at hs hb
  have HW := Lib.hid hW
  have hbl : w.heap.size ≤ w2.heap.size := HB.out.size
  have c33 := hs.cell (stA_lev (cleanS S))
  have c34 := hs.cell (stA_v (cleanS S))
  have c36 : W.cell? ⟨w2.heap.size, 36, none⟩ = _ := hs.cell (stA_c (cleanS S) 1 (by omega))
  have c52 : W.cell? ⟨w2.heap.size, 52, none⟩ = _ := hs.cell (stA_c (cleanS S) 17 (by omega))
  have fz := hs.free
  have H4 := Lib.hid (show HasSt ((((W.setCell ⟨w2.heap.size, 33, none⟩ (.int .i64 0)).setCell ⟨w2.heap.size, 34, none⟩ (.bool true)).setCell ⟨w2.heap.size, 36, none⟩ (.int .u64 0)).setCell ⟨w2.heap.size, 52, none⟩ (.int .u64 0)) w2.heap.size (bitT S 0#64 0#64 true) from
    (((hs.set 33 _ (stA_setL _ 0)).set 34 _ (stA_setV _ true)).setC 1 0#64 (by omega)).setC 17 0#64 (by omega))
  have B4 := Lib.hid (show Below w.heap.size w ((((W.setCell ⟨w2.heap.size, 33, none⟩ (.int .i64 0)).setCell ⟨w2.heap.size, 34, none⟩ (.bool true)).setCell ⟨w2.heap.size, 36, none⟩ (.int .u64 0)).setCell ⟨w2.heap.size, 52, none⟩ (.int .u64 0)) from
    (((hb.setCell hbl _).setCell hbl _).setCell hbl _).setCell hbl _)
  have HBL := Lib.hid hbl
  clear hs hb h0 hbl hW hx hy
  go_wp2_with (first | (with_reducible refine step_store (cleanS S) H0.out (by with_unfolding_all rfl) (by with_unfolding_all rfl) (by with_unfolding_all rfl) (by with_unfolding_all rfl) ?_; rw [← HW.out]) | (with_reducible refine step_load H4.out (by with_unfolding_all rfl) (by with_unfolding_all rfl) (by with_unfolding_all rfl) ?_))
  (with_reducible refine (X1.out.run _).mono ?_)
  rintro e v1 ⟨rfl, hb1⟩
  have hs := H4.out.below hb1
  have hb := HBstep B4.out hb1
  clear hb1
  have cc := (show v1.cell? ⟨w2.heap.size, 36, none⟩ = _ from hs.cell (stA_c _ 1 (by omega)))
  have fz := hs.free
  have G1 := Lib.hid (show HasSt (v1.setCell ⟨w2.heap.size, 36, none⟩ (.int .u64 (mm.toNat : Int))) w2.heap.size (bitT S mm 0#64 true) from by have := hs.setC 1 mm (by omega); rw [bitT_one] at this; exact this)
  have J1 := Lib.hid (show Below w.heap.size w (v1.setCell ⟨w2.heap.size, 36, none⟩ (.int .u64 (mm.toNat : Int))) from hb.setCell HBL.out _)
  clear hs hb
  go_wp2_with (first | (with_reducible refine step_load G1.out (by with_unfolding_all rfl) (by with_unfolding_all rfl) (by with_unfolding_all rfl) ?_))
  (with_reducible refine (X2.out.run _).mono ?_)
  rintro e v2 ⟨rfl, hb2⟩
  have hs := G1.out.below hb2
  have hb := HBstep J1.out hb2
  clear hb2
  have G2 := Lib.hid hs
  have J2 := Lib.hid hb
  clear hs hb
  go_wp2_with (first | (with_reducible refine step_load G2.out (by with_unfolding_all rfl) (by with_unfolding_all rfl) (by with_unfolding_all rfl) ?_))
  (with_reducible refine (X3.out.run _).mono ?_)
  rintro e v3 ⟨rfl, hb3⟩
  have hs := G2.out.below hb3
  have hb := HBstep J2.out hb3
  clear hb3
  have cc := (show v3.cell? ⟨w2.heap.size, 52, none⟩ = _ from hs.cell (stA_c _ 17 (by omega)))
  have fz := hs.free
  have G3 := Lib.hid (show HasSt (v3.setCell ⟨w2.heap.size, 52, none⟩ (.int .u64 (mm.toNat : Int))) w2.heap.size (bitT S mm mm true) from by have := hs.setC 17 mm (by omega); rw [bitT_two] at this; exact this)
  have J3 := Lib.hid (show Below w.heap.size w (v3.setCell ⟨w2.heap.size, 52, none⟩ (.int .u64 (mm.toNat : Int))) from hb.setCell HBL.out _)
  clear hs hb
  go_wp2_with (first | (with_reducible refine step_load G3.out (by with_unfolding_all rfl) (by with_unfolding_all rfl) (by with_unfolding_all rfl) ?_))
  (with_reducible refine (X4.out.run _).mono ?_)
  rintro e v4 ⟨rfl, hb4⟩
  have hs := G3.out.below hb4
  have hb := HBstep J3.out hb4
  clear hb4
  have cc := hs.cell (stA_v (bitT S mm mm true))
  have fz := hs.free
  have G4 := Lib.hid (show HasSt (v4.setCell ⟨w2.heap.size, 34, none⟩ (.bool false)) w2.heap.size (bitT S mm mm false) from hs.set 34 _ (stA_setV _ false))
  have J4 := Lib.hid (show Below w.heap.size w (v4.setCell ⟨w2.heap.size, 34, none⟩ (.bool false)) from hb.setCell HBL.out _)
  clear hs hb
  go_wp2_with (first | (with_reducible refine step_load G4.out (by with_unfolding_all rfl) (by with_unfolding_all rfl) (by with_unfolding_all rfl) ?_))
  (with_reducible refine (X5.out.run _).mono ?_)
  rintro e v5 ⟨rfl, hb5⟩
  have J5 := Lib.hid (HBstep J4.out hb5)
  clear hb5
  cases q <;> (go_wp2; go_ret; exact ⟨rfl, J5.out⟩)
theorem walkRouteBits (S : St) (x y : Int) (hx : (Lit.int .u8 x).wf = true) (hy : (Lit.int .u8 y).wf = true) (w : World) :
    Calls Try.prog 6 #[.agg (stA S), .int .u8 x, .int .u8 y] w fun e w' => e = .returned (.bool true) ∧ Below w.heap.size w w' := by
  obtain ⟨a, rfl, ha⟩ := u8_open hx
  obtain ⟨b, rfl, hb⟩ := u8_open hy
  exact bits_walk S a b ha hb w
end Go.Proofs.Ytalcldghpmeeaaa
