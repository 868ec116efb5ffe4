/- (*Bus).Copy of any bus; no condition but the state. -/
import Derived.Test.YtkjbhjmjfacjcaaClone
import Derived.Test.YtkjbhjmjfacjcaaBusCopy
namespace Go.Proofs.Ytkjbhjmjfacjcaa
open Go.RowKit Go.BigFrame
set_option linter.unusedSimpArgs false
set_option linter.unusedVariables false
set_option maxRecDepth 100000

theorem RowAt.weak {w : World} {B B' : Nat} {k : Option Nat} {v : Value} {l : List UInt8} (h : RowAt w B k v l) (hB : B' ≤ B) : RowAt w B' k v l := by
  cases k with
  | none => exact h
  | some g =>
    obtain ⟨o, cap, pre, rest, a, b, c, d, e, f, i⟩ := h
    exact ⟨o, cap, pre, rest, a, b, c, d, e, by omega, i⟩
theorem RowAt.new_key {w : World} {B : Nat} {k : Option Nat} {v : Value} {l : List UInt8} (h : RowAt w B k v l) : k = none ∨ ∃ q, k = some q ∧ B ≤ q := by
  cases k with
  | none => exact .inl rfl
  | some g =>
    obtain ⟨o, cap, pre, rest, a, b, c, d, e, f, i⟩ := h
    exact .inr ⟨g, rfl, f⟩
/-- How far a copy has come. -/
def cpS (S : BusV) (m : Nat) : BusV :=
  { f := S.f, t := S.t, al := S.al, ls := fun j => if j < 2 * m then S.ls j else [], ns := fun j => if j < m then S.ns j else 0, nil := fun j => decide (2 * m ≤ j) }
theorem cpS_step (S : BusV) (m : Nat) : ({ cpS S m with ls := updN (updN (cpS S m).ls (2 * m) (S.ls (2 * m))) (2 * m + 1) (S.ls (2 * m + 1)), nil := updN (updN (cpS S m).nil (2 * m) false) (2 * m + 1) false, ns := updN (cpS S m).ns m (S.ns m) } : BusV) = cpS S (m + 1) := by
  have e1 : updN (updN (cpS S m).ls (2 * m) (S.ls (2 * m))) (2 * m + 1) (S.ls (2 * m + 1)) = (cpS S (m + 1)).ls := by
    funext j
    show updN (updN (fun j => if j < 2 * m then S.ls j else []) (2 * m) (S.ls (2 * m))) (2 * m + 1) (S.ls (2 * m + 1)) j = if j < 2 * (m + 1) then S.ls j else []
    unfold updN
    by_cases a : j = 2 * m + 1
    · subst a; rw [if_pos rfl, if_pos (by omega)]
    · rw [if_neg a]
      by_cases b : j = 2 * m
      · subst b; rw [if_pos rfl, if_pos (by omega)]
      · rw [if_neg b]
        show (if j < 2 * m then S.ls j else []) = _
        by_cases c : j < 2 * m
        · rw [if_pos c, if_pos (by omega)]
        · rw [if_neg c, if_neg (by omega)]
  have e2 : updN (updN (cpS S m).nil (2 * m) false) (2 * m + 1) false = (cpS S (m + 1)).nil := by
    funext j
    show updN (updN (fun j => decide (2 * m ≤ j)) (2 * m) false) (2 * m + 1) false j = decide (2 * (m + 1) ≤ j)
    unfold updN
    by_cases a : j = 2 * m + 1
    · subst a; rw [if_pos rfl]; exact (decide_eq_false (by omega)).symm
    · rw [if_neg a]
      by_cases b : j = 2 * m
      · subst b; rw [if_pos rfl]; exact (decide_eq_false (by omega)).symm
      · rw [if_neg b]
        show decide (2 * m ≤ j) = _
        by_cases c : 2 * m ≤ j
        · rw [decide_eq_true c, decide_eq_true (by omega)]
        · rw [decide_eq_false c, decide_eq_false (by omega)]
  have e3 : updN (cpS S m).ns m (S.ns m) = (cpS S (m + 1)).ns := by
    funext j
    show updN (fun j => if j < m then S.ns j else 0) m (S.ns m) j = if j < m + 1 then S.ns j else 0
    unfold updN
    by_cases a : j = m
    · subst a; rw [if_pos rfl, if_pos (by omega)]
    · rw [if_neg a]
      show (if j < m then S.ns j else 0) = _
      by_cases c : j < m
      · rw [if_pos c, if_pos (by omega)]
      · rw [if_neg c, if_neg (by omega)]
  rw [e1, e2, e3]
  rfl
/-- One port of a copy is laid. -/
theorem IsBus.lay_port {V w1 w2 : World} {B c p g : Nat} {ks : Nat → Option Nat} {vs : Nat → Value} (S : BusV) (m : Nat) (hm : m < 4) (h : IsBus V B c p g ks vs (cpS S m)) (hBV : B ≤ V.heap.size)
    (hb1 : Below V.heap.size V w1) (hb2 : Below w1.heap.size w1 w2) {k1 k2 : Option Nat} {v1 v2 : Value} (r1 : RowAt w1 V.heap.size k1 v1 (S.ls (2 * m))) (r2 : RowAt w2 w1.heap.size k2 v2 (S.ls (2 * m + 1))) :
    IsBus (((w2.setCell ⟨c, cellOf (2 * m), none⟩ v1).setCell ⟨c, cellOf (2 * m + 1), none⟩ v2).setCell ⟨c, 3 + 3 * m + 2, none⟩ (.int .i64 (S.ns m))) B c p g (updN (updN ks (2 * m) k1) (2 * m + 1) k2) (updN (updN vs (2 * m) v1) (2 * m + 1) v2) (cpS S (m + 1)) := by
  have hcl := blk_lt h.blk
  have n1 : ks (2 * m) = none := h.nl (2 * m) (by omega) (decide_eq_true (by omega))
  have n2 : ks (2 * m + 1) = none := h.nl (2 * m + 1) (by omega) (decide_eq_true (by omega))
  have T1 := h.turn_row (w1 := w1) (2 * m) (by omega) k1 v1 (S.ls (2 * m)) ⟨hb1.os, hb1.tape, hb1.output, hb1.size, fun j hj _ => hb1.block j hj⟩ (r1.weak hBV) (r1.new_key.elim (fun e => .inr (.inl e)) (fun e => .inr (.inr e)))
  have s1 : (w1.setCell ⟨c, cellOf (2 * m), none⟩ v1).heap.size = w1.heap.size := by show (w1.heap.modify _ _).size = _; simp
  have s2 : (w2.setCell ⟨c, cellOf (2 * m), none⟩ v1).heap.size = w2.heap.size := by show (w2.heap.modify _ _).size = _; simp
  have hc1 : c < w1.heap.size := Nat.lt_of_lt_of_le hcl hb1.size
  have U2 : UpdK (w1.setCell ⟨c, cellOf (2 * m), none⟩ v1) (w2.setCell ⟨c, cellOf (2 * m), none⟩ v1) (updN ks (2 * m) k1 (2 * m + 1)) := by
    refine ⟨hb2.os, hb2.tape, hb2.output, by rw [s1, s2]; exact hb2.size, fun j hj _ => ?_⟩
    rw [s1] at hj
    show (w2.heap.modify c _)[j]? = (w1.heap.modify c _)[j]?
    rw [Array.getElem?_modify, Array.getElem?_modify, hb2.block j hj]
  have r2' : RowAt (w2.setCell ⟨c, cellOf (2 * m), none⟩ v1) B k2 v2 (S.ls (2 * m + 1)) := (r2.weak (Nat.le_trans hBV hb1.size)).same fun q hq _ => set_other _ _ _ _ _ (by
    rcases r2.new_key with e | ⟨q', e, hq'⟩
    · rw [e] at hq; cases hq
    · rw [e] at hq; cases hq; omega)
  have T2 := T1.turn_row (w1 := w2.setCell ⟨c, cellOf (2 * m), none⟩ v1) (2 * m + 1) (by omega) k2 v2 (S.ls (2 * m + 1)) U2 r2' (r2.new_key.elim (fun e => .inr (.inl e)) (fun ⟨q, e, hq⟩ => .inr (.inr ⟨q, e, by rw [s1]; exact hq⟩)))
  have hbk := set_block (v := .int .i64 (S.ns m)) T2.blk (show 3 + 3 * m + 2 < 15 by omega)
  rw [bus_typed _ _ _ _ _ m hm] at hbk
  have T3 := T2.turn (set_upd _ c (3 + 3 * m + 2) (.int .i64 (S.ns m))) S.t S.al (updN (cpS S m).ns m (S.ns m)) hbk
  rw [← cpS_step S m]
  exact T3
end Go.Proofs.Ytkjbhjmjfacjcaa
