/- What the law package's known tells: true. -/
import Derived.Test.YtalcldghpmeeaaaRouteC
import Derived.Test.YtalcldghpmeeaaaCleanB
namespace Go.Proofs.Ytalcldghpmeeaaa
open Go.RowKit Go.BigFrame
set_option linter.unusedSimpArgs false
set_option linter.unusedVariables false
set_option maxRecDepth 100000

theorem wpList_store_st {ops : Array Oper} {rest : List Oper} {o : Oper} {a : Act} {w : World} {Q : Exit → Act → World → Prop} {g : Nat} {S S0 : St} {x y : Operand} (hgd : o.guard = none) (hg : HasSt w g S0)
    (hx : a.eval x = .pointer (some ⟨g, 0, none⟩)) (hy : a.eval y = .agg (stA S)) (ho : o.op = .store 26 x y)
    (h : wpList Try.prog ops Q rest (a.put o.dst undef) (w.setRow g (stA S))) : wpList Try.prog ops Q (o :: rest) a w :=
  wpList_store_row hgd 26 x y ho g _ hx hy 26 _ hg (by rw [stA_size]; exact infoSt) (by rw [stA_size, stA_size]) (stA_one _) h
theorem HasSt.row {w : World} {g : Nat} {S0 : St} (hg : HasSt w g S0) (S : St) : HasSt (w.setRow g (stA S)) g S := setRow_heap _ _ _ _ _ _ hg
def Sk1 : St := { x := fun _ => 0#64, pc := 0#64, lev := 0, v := true, c := fun _ => 0#64, done := 0#64 }
def Sk2 : St := { Sk1 with c := updC Sk1.c 1 4#64 }
def Sk3 : St := { Sk2 with c := updC Sk2.c 17 4#64 }
def Sk4 : St := { Sk3 with c := updC Sk3.c 3 512#64 }
theorem built_k : Try.prog.built 26 [(2, .int .i64 0), (3, .bool true)] = some (stA Sk1) := by kernel_rfl
theorem wpList_build_is {P : Program} {ops : Array Oper} {rest : List Oper} {o : Oper} {a : Act} {w : World} {Q : Exit → Act → World → Prop} (hg : o.guard = none) (t : TypeId) (parts : Array (Nat × Operand)) (ho : o.op = .build t parts) (cs : Array Value) (l : List (Nat × Value))
    (hl : (parts.map fun (i, x) => (i, a.eval x)).toList = l) (hf : P.built t l = some cs) (h : wpList P ops Q rest (a.put o.dst (.agg cs)) w) : wpList P ops Q (o :: rest) a w := by
  refine wpList_build hg t parts ho ?_ ?_ <;> rw [hl, hf]
  · rfl
  · exact h
set_option maxHeartbeats 4000000 in
theorem known15_b : Gives Try.prog 7 #[] (.bool true) := by
  intro w
  have zs := zero_st
  have h0 := HasSt.new w St0
  have h1 := h0.row Sk1
  have hb0 : Below w.heap.size w ((w.alloc (.cells (stA St0) 26)).setRow w.heap.size (stA Sk1)) := below_setRow ((Below.refl _ _).alloc (Nat.le_refl _) _) (Nat.le_refl _) _
  have H0 := Lib.hid h0
  have HS := Lib.hid h1
  have HB := Lib.hid hb0
  have E1 := Lib.hid (show Gives Try.prog 9 #[.agg (stA Sk1), .int .u64 2] (.tuple #[.int .i64 3, .bool false]) from by have := exc_b Sk1 2#64; rw [show excV Sk1 2#64 = (3, false) from by decide] at this; exact this)
  have E2 := Lib.hid (show Gives Try.prog 9 #[.agg (stA Sk2), .int .u64 2] (.tuple #[.int .i64 1, .bool false]) from by have := exc_b Sk2 2#64; rw [show excV Sk2 2#64 = (1, false) from by decide] at this; exact this)
  have E3 := Lib.hid (show Gives Try.prog 9 #[.agg (stA Sk3), .int .u64 2] (.tuple #[.int .i64 1, .bool true]) from by have := exc_b Sk3 2#64; rw [show excV Sk3 2#64 = (1, true) from by decide] at this; exact this)
  have I1 := Lib.hid (show Gives Try.prog 11 #[.agg (stA Sk4), .bool false, .bool true] (.tuple #[.int .u64 9223372036854775817, .int .i64 3, .bool false, .bool true]) from by have := int_b Sk4 false true; rw [show intV Sk4 false true = (9223372036854775817#64, 3, false, true) from by decide] at this; exact this)
  have I2 := Lib.hid (show Gives Try.prog 11 #[.agg (stA Sk4), .bool true, .bool false] (.tuple #[.int .u64 0, .int .i64 0, .bool false, .bool false]) from by have := int_b Sk4 true false; rw [show intV Sk4 true false = (0#64, 0, false, false) from by decide] at this; exact this)
  have N1 := Lib.hid (show Gives Try.prog 13 #[.agg (stA Sk4), .bool true, .bool true] (.int .u64 512) from by have := en_b Sk4 true true; rw [show enB Sk4 true true = 512#64 from by decide] at this; exact this)
  clear h0 h1 hb0
  go_enter Try.func7, Try.ntmps7
  go_wp2_with (first | (refine wpList_build_is rfl _ _ rfl (stA Sk1) _ rfl built_k ?_) | (refine wpList_store_st (S := Sk1) rfl H0.out rfl rfl rfl ?_) | (refine wpList_load_st HS.out rfl rfl rfl ?_) | fail)
  (with_reducible refine (E1.out.run _).mono ?_)
  rintro e w1 ⟨rfl, hb1⟩
  have hs := HS.out.below hb1
  have HB := Lib.hid (HBstep HB.out hb1)
  have c1 : w1.cell? ⟨w.heap.size, 36, none⟩ = some (U (Sk1.c 1)) := hs.cell (stA_c Sk1 1 (by omega))
  have fz := hs.free
  have HS := Lib.hid (show HasSt (w1.setCell ⟨w.heap.size, 36, none⟩ (.int .u64 4)) w.heap.size Sk2 from hs.setC 1 4#64 (by omega))
  have HB := Lib.hid (show Below w.heap.size w (w1.setCell ⟨w.heap.size, 36, none⟩ (.int .u64 4)) from HB.out.setCell (Nat.le_refl _) _)
  clear hs hb1
  go_wp2_with (first | (refine wpList_load_st HS.out rfl rfl rfl ?_) | fail)
  (with_reducible refine (E2.out.run _).mono ?_)
  rintro e w2 ⟨rfl, hb2⟩
  have hs := HS.out.below hb2
  have HB := Lib.hid (HBstep HB.out hb2)
  have c2 : w2.cell? ⟨w.heap.size, 52, none⟩ = some (U (Sk2.c 17)) := hs.cell (stA_c Sk2 17 (by omega))
  have fz := hs.free
  have HS := Lib.hid (show HasSt (w2.setCell ⟨w.heap.size, 52, none⟩ (.int .u64 4)) w.heap.size Sk3 from hs.setC 17 4#64 (by omega))
  have HB := Lib.hid (show Below w.heap.size w (w2.setCell ⟨w.heap.size, 52, none⟩ (.int .u64 4)) from HB.out.setCell (Nat.le_refl _) _)
  clear hs hb2
  go_wp2_with (first | (refine wpList_load_st HS.out rfl rfl rfl ?_) | fail)
  (with_reducible refine (E3.out.run _).mono ?_)
  rintro e w3 ⟨rfl, hb3⟩
  have hs := HS.out.below hb3
  have HB := Lib.hid (HBstep HB.out hb3)
  have c3 : w3.cell? ⟨w.heap.size, 38, none⟩ = some (U (Sk3.c 3)) := hs.cell (stA_c Sk3 3 (by omega))
  have fz := hs.free
  have HS := Lib.hid (show HasSt (w3.setCell ⟨w.heap.size, 38, none⟩ (.int .u64 512)) w.heap.size Sk4 from hs.setC 3 512#64 (by omega))
  have HB := Lib.hid (show Below w.heap.size w (w3.setCell ⟨w.heap.size, 38, none⟩ (.int .u64 512)) from HB.out.setCell (Nat.le_refl _) _)
  clear hs hb3
  go_wp2_with (first | (refine wpList_load_st HS.out rfl rfl rfl ?_) | fail)
  (with_reducible refine (I1.out.run _).mono ?_)
  rintro e w4 ⟨rfl, hb4⟩
  have HS := Lib.hid (HS.out.below hb4)
  have HB := Lib.hid (HBstep HB.out hb4)
  clear hb4
  go_wp2_with (first | (refine wpList_load_st HS.out rfl rfl rfl ?_) | fail)
  (with_reducible refine (I2.out.run _).mono ?_)
  rintro e w5 ⟨rfl, hb5⟩
  have HS := Lib.hid (HS.out.below hb5)
  have HB := Lib.hid (HBstep HB.out hb5)
  clear hb5
  go_wp2_with (first | (refine wpList_load_st HS.out rfl rfl rfl ?_) | fail)
  (with_reducible refine (N1.out.run _).mono ?_)
  rintro e w6 ⟨rfl, hb6⟩
  have HB := Lib.hid (HBstep HB.out hb6)
  clear hb6
  go_wp2
  go_ret
  exact ⟨rfl, HB.out⟩
end Go.Proofs.Ytalcldghpmeeaaa
