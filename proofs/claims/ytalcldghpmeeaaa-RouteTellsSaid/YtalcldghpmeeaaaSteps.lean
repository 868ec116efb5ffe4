/- The laws for whole states once more, their conditions in an order that serves tactics. -/
import Derived.Test.YtalcldghpmeeaaaKnown15
namespace Go.Proofs.Ytalcldghpmeeaaa
open Go.RowKit Go.BigFrame
set_option linter.unusedVariables false
set_option maxRecDepth 100000

theorem step_load {ops : Array Oper} {rest : List Oper} {o : Oper} {a : Act} {w : World} {Q : Exit → Act → World → Prop} {g : Nat} {S : St} {x : Operand} (hg : HasSt w g S) (ho : o.op = .load 26 x)
    (hx : a.eval x = .pointer (some ⟨g, 0, none⟩)) (hw : Region.wanted o (yielded ops a.tmps) = true)
    (h : wpList Try.prog ops Q rest (a.put o.dst (.agg (stA S))) w) : wpList Try.prog ops Q (o :: rest) a w := wpList_load_st hg hx ho hw h
theorem step_store {ops : Array Oper} {rest : List Oper} {o : Oper} {a : Act} {w : World} {Q : Exit → Act → World → Prop} {g : Nat} {S0 : St} {x y : Operand} (S : St) (hg : HasSt w g S0) (hgd : o.guard = none) (ho : o.op = .store 26 x y)
    (hx : a.eval x = .pointer (some ⟨g, 0, none⟩)) (hy : a.eval y = .agg (stA S))
    (h : wpList Try.prog ops Q rest (a.put o.dst undef) (w.setRow g (stA S))) : wpList Try.prog ops Q (o :: rest) a w := wpList_store_st hgd hg hx hy ho h
end Go.Proofs.Ytalcldghpmeeaaa
