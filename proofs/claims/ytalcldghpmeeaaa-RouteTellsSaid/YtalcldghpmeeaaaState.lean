/- A state as the program has it (a struct of 65 cells, handed on by value); laws for loading it whole. No condition but the cells. -/
import Derived.Laws.Rows
import Derived.OpenShut
import Derived.Carry
import Derived.Lib.Hide
import Derived.Test.YtalcldghpmeeaaaBeyond
namespace Go.Proofs.Ytalcldghpmeeaaa
open Go.RowKit Go.BigFrame
set_option linter.unusedSimpArgs false
set_option linter.unusedVariables false
set_option maxRecDepth 100000

structure St where
  x : Nat → BitVec 64
  pc : BitVec 64
  lev : Int
  v : Bool
  c : Nat → BitVec 64
  done : BitVec 64
def stL (S : St) : List Value := ((List.range 32).map fun i => U (S.x i)) ++ [U S.pc, .int .i64 S.lev, .bool S.v] ++ ((List.range 29).map fun i => U (S.c i)) ++ [U S.done]
def stA (S : St) : Array Value := (stL S).toArray
theorem stA_size (S : St) : (stA S).size = 65 := by unfold stA stL; simp
theorem stA_x (S : St) (i : Nat) (h : i < 32) : (stA S)[i]? = some (U (S.x i)) := by
  unfold stA stL
  simp only [List.getElem?_toArray, List.append_assoc]
  rw [List.getElem?_append_left (by simp; omega), List.getElem?_map, List.getElem?_range h]; rfl
theorem stA_mid (S : St) (i : Nat) (h : i < 33) : (stA S)[32 + i]? = ([U S.pc, .int .i64 S.lev, .bool S.v] ++ ((List.range 29).map fun i => U (S.c i)) ++ [U S.done])[i]? := by
  unfold stA stL
  simp only [List.getElem?_toArray, List.append_assoc]
  rw [List.getElem?_append_right (by simp), List.length_map, List.length_range, Nat.add_sub_cancel_left]
theorem stA_pc (S : St) : (stA S)[32]? = some (U S.pc) := stA_mid S 0 (by omega)
theorem stA_lev (S : St) : (stA S)[33]? = some (.int .i64 S.lev) := stA_mid S 1 (by omega)
theorem stA_v (S : St) : (stA S)[34]? = some (.bool S.v) := stA_mid S 2 (by omega)
theorem stA_c (S : St) (i : Nat) (h : i < 29) : (stA S)[35 + i]? = some (U (S.c i)) := by
  have := stA_mid S (3 + i) (by omega)
  rw [show 35 + i = 32 + (3 + i) by omega, this, List.append_assoc, List.getElem?_append_right (by simp), show 3 + i - [U S.pc, Value.int IntKind.i64 S.lev, Value.bool S.v].length = i by simp, List.getElem?_append_left (by simp; omega), List.getElem?_map, List.getElem?_range h]; rfl
theorem stA_done (S : St) : (stA S)[64]? = some (U S.done) := stA_mid S 32 (by omega)
/-- The state's block. -/
def HasSt (w : World) (b : Nat) (S : St) : Prop := w.heap[b]? = some (.cells (stA S) 26 (0, 0))
theorem HasSt.lt {w : World} {b : Nat} {S : St} (h : HasSt w b S) : b < w.heap.size := (Array.getElem?_eq_some_iff.1 h).1
theorem HasSt.below {w w' : World} {b : Nat} {S : St} (h : HasSt w b S) (k : Below w.heap.size w w') : HasSt w' b S := (k.block b h.lt).trans h
theorem HasSt.cell {w : World} {b : Nat} {S : St} (h : HasSt w b S) {j : Nat} {v : Value} (hv : (stA S)[j]? = some v) : w.cell? ⟨b, j, none⟩ = some v := by
  unfold HasSt at h; simp [World.cell?, h, hv]
theorem HasSt.free {w : World} {b : Nat} {S : St} (h : HasSt w b S) (j : Nat) : w.frozen? ⟨b, j, none⟩ = false := by
  unfold HasSt at h; simp [World.frozen?, h]
theorem HasSt.new (w : World) (S : St) : HasSt (w.alloc (.cells (stA S) 26)) w.heap.size S := (MapKept.heap_alloc w _).1
theorem infoSt : (Try.prog.info? 26).map (·.size) = some 65 := by kernel_rfl
/-- A whole state loaded. -/
theorem wpList_load_st {ops : Array Oper} {rest : List Oper} {o : Oper} {a : Act} {w : World} {Q : Exit → Act → World → Prop} {g : Nat} {S : St} {x : Operand} (hg : HasSt w g S)
    (hx : a.eval x = .pointer (some ⟨g, 0, none⟩)) (ho : o.op = .load 26 x) (hw : Region.wanted o (yielded ops a.tmps) = true)
    (h : wpList Try.prog ops Q rest (a.put o.dst (.agg (stA S))) w) : wpList Try.prog ops Q (o :: rest) a w :=
  wpList_step fun K hK => by
    simp only [hw, if_true]
    exact wp_load_row 26 x ho g hx _ _ _ _ hg Try.underlying26 rfl (by rw [stA_size]; exact infoSt) (hK _ _ h)

/-- .. in a region that draws its order. -/
theorem quiet_load_st {o : Oper} {a : Act} {W : World} {K : Act → Prop} {g : Nat} {S : St} {x : Operand} (hg : HasSt W g S)
    (hx : a.eval x = .pointer (some ⟨g, 0, none⟩)) (ho : o.op = .load 26 x)
    (hk : K (a.put o.dst (.agg (stA S)))) : o.quiet Try.prog a (fun w' => ∃ s : Beyond W, w' = s.to) K :=
  ⟨.agg (stA S), fun w' ⟨s, hs⟩ => by
    subst hs
    unfold Oper.quietAt execOp
    simp only [ho, hx, Instr.loadAt, Instr.sureAddr, Sem.run_bind, Sem.run_pure, Result.andThen_ok, run_loadVar_row (P := Try.prog) s.to g 26 26 (stA S) (0, 0) _ (hg.below s.ok) Try.underlying26 rfl (by rw [stA_size]; exact infoSt)]
    exact ⟨rfl, rfl⟩, hk⟩
theorem i64_small (x : BitVec 64) (h : x.toNat < 9223372036854775808) : IntKind.i64.wrap (x.toNat : Int) = (x.toNat : Int) := IntWalk.i64_in _ ⟨by omega, by omega⟩
/-- Behind what was made so far. -/
theorem HBstep {w0 w w' : World} (h : Below w0.heap.size w0 w) (k : Below w.heap.size w w') : Below w0.heap.size w0 w' := h.trans (k.mono h.size)
end Go.Proofs.Ytalcldghpmeeaaa
