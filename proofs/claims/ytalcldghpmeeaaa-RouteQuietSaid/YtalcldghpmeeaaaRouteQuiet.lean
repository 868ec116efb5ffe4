/- The walk of RouteQuiet; no condition but the arguments' own. -/
import Derived.Test.YtalcldghpmeeaaaSteps
namespace Go.Proofs.Ytalcldghpmeeaaa
open Go.RowKit Go.BigFrame
set_option linter.unusedSimpArgs false
set_option linter.unusedVariables false
set_option maxRecDepth 100000

theorem int_none (S : St) (t l : Bool) (h : ∀ m, m < 8 → firesB S (enB S t l) m = false) : intV S t l = (0#64, 0, false, false) := by
  unfold intV
  have key : ∀ k m, m + k ≤ 8 → intFrom S (enB S t l) k m = (0#64, 0, false, false) := by
    intro k
    induction k with
    | zero => intro m _; rfl
    | succ k ih =>
      intro m hm
      show (if firesB S (enB S t l) m = true then _ else _) = _
      rw [h m (by omega), if_neg (by simp)]
      exact ih (m + 1) (by omega)
  exact key 8 0 (by omega)
def qA (T : St) : St := { T with c := updC T.c 3 0#64 }
def qB (T : St) : St := { T with lev := 3, v := false, c := updC T.c 0 (T.c 0 &&& ~~~8#64) }
def qC (T : St) : St := { T with lev := 1, v := false, c := updC (updC T.c 0 (T.c 0 &&& ~~~2#64)) 2 544#64 }
theorem q_bit (x y : BitVec 64) (k : Nat) (h : y.getLsbD k = true) : (x &&& ~~~y).getLsbD k = false := by
  rw [BitVec.getLsbD_and, BitVec.getLsbD_not, h]; simp
theorem qA_none (T : St) (t l : Bool) : intV (qA T) t l = (0#64, 0, false, false) := by
  refine int_none _ _ _ fun m _ => ?_
  have e : enB (qA T) t l = 0#64 := by
    show pendB _ t l &&& updC T.c 3 0#64 3 = 0#64
    unfold updC; simp
  unfold firesB
  rw [e]
  simp
theorem qB_none (T : St) (t l : Bool) : intV (qB T) t l = (0#64, 0, false, false) := by
  refine int_none _ _ _ fun m hm => ?_
  have o : openB (qB T) (tl m) (tv m) = false := by
    have e : (qB T).c 0 = T.c 0 &&& ~~~8#64 := rfl
    unfold openB
    rw [e, q_bit (T.c 0) 8#64 3 (by decide)]
    show (if (tl m == 3) = true then ((3 : Int) != 3) || false else if (((3 : Int) == 3) || _) = true then false else _) = false
    by_cases c : (tl m == 3) = true
    · rw [if_pos c]; rfl
    · rw [if_neg c, if_pos (by simp)]
  unfold firesB
  rw [o, Bool.and_false]
theorem qC_none (T : St) (t l : Bool) : intV (qC T) t l = (0#64, 0, false, false) := by
  refine int_none _ _ _ fun m hm => ?_
  have e0 : (qC T).c 0 = T.c 0 &&& ~~~2#64 := rfl
  have e2 : (qC T).c 2 = 544#64 := rfl
  have lv : (qC T).lev = 1 := rfl
  have vv : (qC T).v = false := rfl
  unfold firesB
  match m, hm with
  | 0, _ => rw [show ti 0 = 2 from rfl, e2]; simp [tb, tg]
  | 1, _ => rw [show ti 1 = 2 from rfl, e2]; simp [tb, tg]
  | 2, _ | 3, _ | 4, _ | 5, _ =>
    rw [show openB (qC T) (tl _) (tv _) = false from by unfold openB; rw [e0, lv, vv, q_bit (T.c 0) 2#64 1 (by decide)]; rfl, Bool.and_false]
  | 6, _ | 7, _ =>
    rw [show openB (qC T) (tl _) (tv _) = false from by unfold openB; rw [e0, lv, vv]; rfl, Bool.and_false]
set_option maxHeartbeats 4000000 in
theorem walkRouteQuiet (S : St) (t l : Bool) (w : World) :
    Calls Try.prog 5 #[.agg (stA S), .bool t, .bool l] w fun e w' => e = .returned (.bool true) ∧ Below w.heap.size w w' := by
  have sz := stA_size S
  have zs := zero_st
  have hs := HasSt.new w S
  have hb : Below w.heap.size w (w.alloc (.cells (stA S) 26)) := (Below.refl _ _).alloc (Nat.le_refl _) _
  have HS := Lib.hid hs
  have HB := Lib.hid hb
  clear hs hb
  have CL := Lib.hid (clean_b S)
  have IA : Gives Try.prog 11 #[.agg (stA (qA (cleanS S))), .bool t, .bool l] (.tuple #[.int .u64 0, .int .i64 0, .bool false, .bool false]) := by have := int_b (qA (cleanS S)) t l; rw [qA_none] at this; exact this
  have IB : Gives Try.prog 11 #[.agg (stA (qB (cleanS S))), .bool t, .bool l] (.tuple #[.int .u64 0, .int .i64 0, .bool false, .bool false]) := by have := int_b (qB (cleanS S)) t l; rw [qB_none] at this; exact this
  have IC : Gives Try.prog 11 #[.agg (stA (qC (cleanS S))), .bool t, .bool l] (.tuple #[.int .u64 0, .int .i64 0, .bool false, .bool false]) := by have := int_b (qC (cleanS S)) t l; rw [qC_none] at this; exact this
  have IA := Lib.hid IA
  have IB := Lib.hid IB
  have IC := Lib.hid IC
  have n8 := u_andNot ((cleanS S).c 0) 8#64
  have n2 := u_andNot ((cleanS S).c 0) 2#64
  rw [show ((8#64 : BitVec 64).toNat : Int) = 8 from rfl] at n8
  rw [show ((2#64 : BitVec 64).toNat : Int) = 2 from rfl] at n2
  obtain ⟨x8, h8⟩ : ∃ x8, x8 = (cleanS S).c 0 &&& ~~~8#64 := ⟨_, rfl⟩
  obtain ⟨x2, h2⟩ : ∃ x2, x2 = (cleanS S).c 0 &&& ~~~2#64 := ⟨_, rfl⟩
  rw [← h8] at n8
  rw [← h2] at n2
  have IB' := Lib.hid (show Gives Try.prog 11 #[.agg (stA { cleanS S with lev := 3, v := false, c := updC (cleanS S).c 0 x8 }), .bool t, .bool l] (.tuple #[.int .u64 0, .int .i64 0, .bool false, .bool false]) from by rw [h8]; exact IB.out)
  have IC' := Lib.hid (show Gives Try.prog 11 #[.agg (stA { cleanS S with lev := 1, v := false, c := updC (updC (cleanS S).c 0 x2) 2 544#64 }), .bool t, .bool l] (.tuple #[.int .u64 0, .int .i64 0, .bool false, .bool false]) from by rw [h2]; exact IC.out)
  clear h8 h2
  go_enter Try.func5, Try.ntmps5
  go_wp2_with fail
  (with_reducible refine (known15_b.run _).mono ?_)
  rintro e w1 ⟨rfl, hb1⟩
  have HS := Lib.hid (HS.out.below hb1)
  have HB := Lib.hid (HBstep HB.out hb1)
  clear hb1
  go_wp2_with (first | (with_reducible refine step_load HS.out (by with_unfolding_all rfl) (by with_unfolding_all rfl) (by with_unfolding_all rfl) ?_))
  (with_reducible refine (CL.out.run _).mono ?_)
  rintro e w2 ⟨rfl, hb2⟩
  have HB := Lib.hid (HBstep HB.out hb2)
  clear hb2 HS
  have Z0 := Lib.hid (HasSt.new w2 St0)
  have hbl0 : w.heap.size ≤ w2.heap.size := HB.out.size
  have hs := Z0.out.row (cleanS S)
  have hb : Below w.heap.size w ((w2.alloc (.cells (stA St0) 26)).setRow w2.heap.size (stA (cleanS S))) := below_setRow (HB.out.alloc HB.out.size _) HB.out.size _
  obtain ⟨W0, hW0⟩ : ∃ W0, W0 = (w2.alloc (.cells (stA St0) 26)).setRow w2.heap.size (stA (cleanS S)) := ⟨_, rfl⟩
  rw [← hW0] at hs hb
  have HW0 := Lib.hid hW0
  clear hW0
  have HT := Lib.hid hs
  have HB := Lib.hid hb
  clear hs hb
  have HL := HT
  have hbn1 : w2.heap.size < W0.heap.size := HT.out.lt
  have Z1 := Lib.hid (HasSt.new W0 St0)
  have hbl1 : w.heap.size ≤ W0.heap.size := HB.out.size
  have hs := Z1.out.row (cleanS S)
  have hb : Below w.heap.size w ((W0.alloc (.cells (stA St0) 26)).setRow W0.heap.size (stA (cleanS S))) := below_setRow (HB.out.alloc HB.out.size _) HB.out.size _
  obtain ⟨W1, hW1⟩ : ∃ W1, W1 = (W0.alloc (.cells (stA St0) 26)).setRow W0.heap.size (stA (cleanS S)) := ⟨_, rfl⟩
  rw [← hW1] at hs hb
  have HT := Lib.hid (show HasSt W1 w2.heap.size (cleanS S) from by
    have h := HT.out
    have hl := h.lt
    rw [hW1]
    unfold HasSt at *
    rw [setRow_other _ _ _ _ (by omega), Below.heap_alloc _ _ _ hl]
    exact h)
  have HW1 := Lib.hid hW1
  clear hW1
  have c1_38 : W1.cell? ⟨W0.heap.size, 38, none⟩ = _ := hs.cell (stA_c (cleanS S) 3 (by omega))
  have fz1 := hs.free
  have G1 := Lib.hid (show HasSt (W1.setCell ⟨W0.heap.size, 38, none⟩ (.int .u64 0)) W0.heap.size (qA (cleanS S)) from (hs).setC 3 0#64 (by omega))
  have J1 := Lib.hid (show Below w.heap.size w (W1.setCell ⟨W0.heap.size, 38, none⟩ (.int .u64 0)) from (hb).setCell hbl1 _)
  have HTn := Lib.hid (show HasSt (W1.setCell ⟨W0.heap.size, 38, none⟩ (.int .u64 0)) w2.heap.size (cleanS S) from by
    have h := HT.out
    unfold HasSt at *
    have hne : w2.heap.size ≠ W0.heap.size := by have := hbn1; omega
    rw [heap_setCell_other _ _ _ _ hne]
    exact h)
  have HT := HTn
  clear hs hb HTn
  go_wp2_with (first | (with_reducible refine step_store (cleanS S) Z0.out (by with_unfolding_all rfl) (by with_unfolding_all rfl) (by with_unfolding_all rfl) (by with_unfolding_all rfl) ?_; rw [← HW0.out]) | (with_reducible refine step_store (cleanS S) Z1.out (by with_unfolding_all rfl) (by with_unfolding_all rfl) (by with_unfolding_all rfl) (by with_unfolding_all rfl) ?_; rw [← HW1.out]) | (with_reducible refine step_load HL.out (by with_unfolding_all rfl) (by with_unfolding_all rfl) (by with_unfolding_all rfl) ?_) | (with_reducible refine step_load G1.out (by with_unfolding_all rfl) (by with_unfolding_all rfl) (by with_unfolding_all rfl) ?_))
  (with_reducible refine (IA.out.run _).mono ?_)
  rintro e v1 ⟨rfl, hbv1⟩
  have HB := Lib.hid (HBstep J1.out hbv1)
  have HT := Lib.hid (HT.out.below hbv1)
  clear hbv1
  have HL := HT
  have hbn2 : w2.heap.size < v1.heap.size := HT.out.lt
  have Z2 := Lib.hid (HasSt.new v1 St0)
  have hbl2 : w.heap.size ≤ v1.heap.size := HB.out.size
  have hs := Z2.out.row (cleanS S)
  have hb : Below w.heap.size w ((v1.alloc (.cells (stA St0) 26)).setRow v1.heap.size (stA (cleanS S))) := below_setRow (HB.out.alloc HB.out.size _) HB.out.size _
  obtain ⟨W2, hW2⟩ : ∃ W2, W2 = (v1.alloc (.cells (stA St0) 26)).setRow v1.heap.size (stA (cleanS S)) := ⟨_, rfl⟩
  rw [← hW2] at hs hb
  have HT := Lib.hid (show HasSt W2 w2.heap.size (cleanS S) from by
    have h := HT.out
    have hl := h.lt
    rw [hW2]
    unfold HasSt at *
    rw [setRow_other _ _ _ _ (by omega), Below.heap_alloc _ _ _ hl]
    exact h)
  have HW2 := Lib.hid hW2
  clear hW2
  have c2_33 : W2.cell? ⟨v1.heap.size, 33, none⟩ = _ := hs.cell (stA_lev (cleanS S))
  have c2_34 : W2.cell? ⟨v1.heap.size, 34, none⟩ = _ := hs.cell (stA_v (cleanS S))
  have c2_35 : W2.cell? ⟨v1.heap.size, 35, none⟩ = _ := hs.cell (stA_c (cleanS S) 0 (by omega))
  have fz2 := hs.free
  have G2 := Lib.hid (show HasSt (((W2.setCell ⟨v1.heap.size, 33, none⟩ (.int .i64 3)).setCell ⟨v1.heap.size, 34, none⟩ (.bool false)).setCell ⟨v1.heap.size, 35, none⟩ (U x8)) v1.heap.size ({ cleanS S with lev := 3, v := false, c := updC (cleanS S).c 0 x8 }) from (((hs).set 33 _ (stA_setL _ 3)).set 34 _ (stA_setV _ false)).setC 0 x8 (by omega))
  have J2 := Lib.hid (show Below w.heap.size w (((W2.setCell ⟨v1.heap.size, 33, none⟩ (.int .i64 3)).setCell ⟨v1.heap.size, 34, none⟩ (.bool false)).setCell ⟨v1.heap.size, 35, none⟩ (U x8)) from (((hb).setCell hbl2 _).setCell hbl2 _).setCell hbl2 _)
  have HTn := Lib.hid (show HasSt (((W2.setCell ⟨v1.heap.size, 33, none⟩ (.int .i64 3)).setCell ⟨v1.heap.size, 34, none⟩ (.bool false)).setCell ⟨v1.heap.size, 35, none⟩ (U x8)) w2.heap.size (cleanS S) from by
    have h := HT.out
    unfold HasSt at *
    have hne : w2.heap.size ≠ v1.heap.size := by have := hbn2; omega
    rw [heap_setCell_other _ _ _ _ hne]
    rw [heap_setCell_other _ _ _ _ hne]
    rw [heap_setCell_other _ _ _ _ hne]
    exact h)
  have HT := HTn
  clear hs hb HTn
  go_wp2_with (first | (with_reducible refine step_store (cleanS S) Z2.out (by with_unfolding_all rfl) (by with_unfolding_all rfl) (by with_unfolding_all rfl) (by with_unfolding_all rfl) ?_; rw [← HW2.out]) | (with_reducible refine step_load HL.out (by with_unfolding_all rfl) (by with_unfolding_all rfl) (by with_unfolding_all rfl) ?_) | (with_reducible refine step_load G2.out (by with_unfolding_all rfl) (by with_unfolding_all rfl) (by with_unfolding_all rfl) ?_))
  (with_reducible refine (IB'.out.run _).mono ?_)
  rintro e v2 ⟨rfl, hbv2⟩
  have HB := Lib.hid (HBstep J2.out hbv2)
  have HT := Lib.hid (HT.out.below hbv2)
  clear hbv2
  have HL := HT
  have hbn3 : w2.heap.size < v2.heap.size := HT.out.lt
  have Z3 := Lib.hid (HasSt.new v2 St0)
  have hbl3 : w.heap.size ≤ v2.heap.size := HB.out.size
  have hs := Z3.out.row (cleanS S)
  have hb : Below w.heap.size w ((v2.alloc (.cells (stA St0) 26)).setRow v2.heap.size (stA (cleanS S))) := below_setRow (HB.out.alloc HB.out.size _) HB.out.size _
  obtain ⟨W3, hW3⟩ : ∃ W3, W3 = (v2.alloc (.cells (stA St0) 26)).setRow v2.heap.size (stA (cleanS S)) := ⟨_, rfl⟩
  rw [← hW3] at hs hb
  have HT := Lib.hid (show HasSt W3 w2.heap.size (cleanS S) from by
    have h := HT.out
    have hl := h.lt
    rw [hW3]
    unfold HasSt at *
    rw [setRow_other _ _ _ _ (by omega), Below.heap_alloc _ _ _ hl]
    exact h)
  have HW3 := Lib.hid hW3
  clear hW3
  have c3_33 : W3.cell? ⟨v2.heap.size, 33, none⟩ = _ := hs.cell (stA_lev (cleanS S))
  have c3_34 : W3.cell? ⟨v2.heap.size, 34, none⟩ = _ := hs.cell (stA_v (cleanS S))
  have c3_35 : W3.cell? ⟨v2.heap.size, 35, none⟩ = _ := hs.cell (stA_c (cleanS S) 0 (by omega))
  have c3_37 : W3.cell? ⟨v2.heap.size, 37, none⟩ = _ := hs.cell (stA_c (cleanS S) 2 (by omega))
  have fz3 := hs.free
  have G3 := Lib.hid (show HasSt ((((W3.setCell ⟨v2.heap.size, 33, none⟩ (.int .i64 1)).setCell ⟨v2.heap.size, 34, none⟩ (.bool false)).setCell ⟨v2.heap.size, 35, none⟩ (U x2)).setCell ⟨v2.heap.size, 37, none⟩ (.int .u64 544)) v2.heap.size ({ cleanS S with lev := 1, v := false, c := updC (updC (cleanS S).c 0 x2) 2 544#64 }) from ((((hs).set 33 _ (stA_setL _ 1)).set 34 _ (stA_setV _ false)).setC 0 x2 (by omega)).setC 2 544#64 (by omega))
  have J3 := Lib.hid (show Below w.heap.size w ((((W3.setCell ⟨v2.heap.size, 33, none⟩ (.int .i64 1)).setCell ⟨v2.heap.size, 34, none⟩ (.bool false)).setCell ⟨v2.heap.size, 35, none⟩ (U x2)).setCell ⟨v2.heap.size, 37, none⟩ (.int .u64 544)) from ((((hb).setCell hbl3 _).setCell hbl3 _).setCell hbl3 _).setCell hbl3 _)
  have HTn := Lib.hid (show HasSt ((((W3.setCell ⟨v2.heap.size, 33, none⟩ (.int .i64 1)).setCell ⟨v2.heap.size, 34, none⟩ (.bool false)).setCell ⟨v2.heap.size, 35, none⟩ (U x2)).setCell ⟨v2.heap.size, 37, none⟩ (.int .u64 544)) w2.heap.size (cleanS S) from by
    have h := HT.out
    unfold HasSt at *
    have hne : w2.heap.size ≠ v2.heap.size := by have := hbn3; omega
    rw [heap_setCell_other _ _ _ _ hne]
    rw [heap_setCell_other _ _ _ _ hne]
    rw [heap_setCell_other _ _ _ _ hne]
    rw [heap_setCell_other _ _ _ _ hne]
    exact h)
  have HT := HTn
  clear hs hb HTn
  go_wp2_with (first | (with_reducible refine step_store (cleanS S) Z3.out (by with_unfolding_all rfl) (by with_unfolding_all rfl) (by with_unfolding_all rfl) (by with_unfolding_all rfl) ?_; rw [← HW3.out]) | (with_reducible refine step_load HL.out (by with_unfolding_all rfl) (by with_unfolding_all rfl) (by with_unfolding_all rfl) ?_) | (with_reducible refine step_load G3.out (by with_unfolding_all rfl) (by with_unfolding_all rfl) (by with_unfolding_all rfl) ?_))
  (with_reducible refine (IC'.out.run _).mono ?_)
  rintro e v3 ⟨rfl, hbv3⟩
  have HB := Lib.hid (HBstep J3.out hbv3)
  have HT := Lib.hid (HT.out.below hbv3)
  clear hbv3
  go_wp2
  go_ret
  exact ⟨rfl, HB.out⟩
end Go.Proofs.Ytalcldghpmeeaaa
