/- The program's order of interrupts is the document's; no condition but that the machine is no guest. -/
import Derived.Test.YtalcldghpmeeaaaRef16I
namespace Go.Proofs.Ytalcldghpmeeaaa
open Go.RowKit Go.BigFrame
set_option linter.unusedSimpArgs false
set_option linter.unusedVariables false
set_option maxRecDepth 100000

def tabI : Nat → BitVec 64 × Int × Bool × Bool
  | 0 => (9223372036854775817#64, 3, false, true)
  | 1 => (9223372036854775813#64, 3, false, true)
  | 2 => (9223372036854775817#64, 1, false, true)
  | 3 => (9223372036854775813#64, 1, false, true)
  | 4 => (9223372036854775818#64, 1, false, true)
  | 5 => (9223372036854775814#64, 1, false, true)
  | 6 => (9223372036854775817#64, 1, true, true)
  | 7 => (9223372036854775813#64, 1, true, true)
  | _ => (0#64, 0, false, false)
def lcode (e9 e5 e10 e6 d9 d5 h10 h6 oM oS oG : Bool) : Nat :=
  if (e9 && (d9 == false) && oM) = true then 0 else if (e5 && (d5 == false) && oM) = true then 1 else if (e9 && (d9 == true) && oS) = true then 2 else if (e5 && (d5 == true) && oS) = true then 3 else
  if (e10 && (h10 == false) && oS) = true then 4 else if (e6 && (h6 == false) && oS) = true then 5 else if (e10 && (h10 == true) && oG) = true then 6 else if (e6 && (h6 == true) && oG) = true then 7 else 8
def rcode (e9 e5 e10 e6 d9 d5 h10 h6 oM oS oG : Bool) : Nat :=
  let m9 := e9 && !d9
  let m5 := e5 && !d5
  let s9 := e9 && d9
  let s5 := e5 && d5
  let s10 := e10 && !h10
  let s6 := e6 && !h6
  let g10 := e10 && h10
  let g6 := e6 && h6
  if ((m9 || m5) && oM) = true then (if m9 = true then 0 else 1) else if ((s9 || s5 || s10 || s6) && oS) = true then (if s9 = true then 2 else if s5 = true then 3 else if s10 = true then 4 else 5) else
  if ((g10 || g6) && oG) = true then (if g10 = true then 6 else 7) else 8
theorem codes_eq : ∀ e9 e5 e10 e6 d9 d5 h10 h6 oM oS oG : Bool, lcode e9 e5 e10 e6 d9 d5 h10 h6 oM oS oG = rcode e9 e5 e10 e6 d9 d5 h10 h6 oM oS oG := by decide +kernel
theorem int_code (S : St) (t l : Bool) : intV S t l = tabI (lcode ((enB S t l).getLsbD 9) ((enB S t l).getLsbD 5) ((enB S t l).getLsbD 10) ((enB S t l).getLsbD 6) ((S.c 2).getLsbD 9) ((S.c 2).getLsbD 5) ((S.c 18).getLsbD 10) ((S.c 18).getLsbD 6) (openB S 3 false) (openB S 1 false) (openB S 1 true)) := by
  unfold intV lcode
  generalize enB S t l = en
  simp only [apply_ite tabI]
  rfl
theorem rin_code (m9 m5 s9 s5 s10 s6 g10 g6 l3 l0 v q0 q1 q2 : Bool) :
    rin (m9 || m5) (s9 || s5 || s10 || s6) (g10 || g6) l3 l0 v q0 q1 q2 (9223372036854775808#64 ||| BitVec.ofInt 64 (if m9 then 9 else if m5 then 5 else -1)) (9223372036854775808#64 ||| BitVec.ofInt 64 (if s9 then 9 else if s5 then 5 else if s10 then 10 else if s6 then 6 else -1))
      (9223372036854775808#64 ||| BitVec.ofInt 64 ((if g10 then 10 else if g6 then 6 else -1) - 1)) =
    tabI (if ((m9 || m5) && (!l3 || q0)) = true then (if m9 = true then 0 else 1) else if ((s9 || s5 || s10 || s6) && (!l3 && (v || (l0 || q1)))) = true then (if s9 = true then 2 else if s5 = true then 3 else if s10 = true then 4 else 5) else
      if ((g10 || g6) && (v && (l0 || q2))) = true then (if g10 = true then 6 else 7) else 8) := by
  unfold rin
  generalize (!l3 || q0) = oM
  generalize (!l3 && (v || (l0 || q1))) = oS
  generalize (v && (l0 || q2)) = oG
  cases oM <;> cases oS <;> cases oG <;> cases m9 <;> cases m5 <;> cases s9 <;> cases s5 <;> cases s10 <;> cases s6 <;> cases g10 <;> cases g6 <;> rfl
theorem top_mine (en c : BitVec 64) : topB ((en &&& 544#64) &&& ~~~c) [9, 5] = if (en.getLsbD 9 && !c.getLsbD 9) then 9 else if (en.getLsbD 5 && !c.getLsbD 5) then 5 else -1 := by
  have a : (544#64).getLsbD 9 = true := by decide
  have b : (544#64).getLsbD 5 = true := by decide
  unfold topB topB topB
  simp only [BitVec.getLsbD_and, BitVec.getLsbD_not, a, b, Bool.and_true, decide_true, Bool.true_and, show decide (9 < 64) = true from rfl, show decide (5 < 64) = true from rfl]
  rfl
theorem top_guest (en c : BitVec 64) : topB ((en &&& 1088#64) &&& c) [10, 6] = if (en.getLsbD 10 && c.getLsbD 10) then 10 else if (en.getLsbD 6 && c.getLsbD 6) then 6 else -1 := by
  have a : (1088#64).getLsbD 10 = true := by decide
  have b : (1088#64).getLsbD 6 = true := by decide
  unfold topB topB topB
  simp only [BitVec.getLsbD_and, a, b, Bool.and_true]
  rfl
theorem top_host (en c d : BitVec 64) : topB (hostB en c d) [9, 5, 10, 6] = if (en.getLsbD 9 && c.getLsbD 9) then 9 else if (en.getLsbD 5 && c.getLsbD 5) then 5 else if (en.getLsbD 10 && !d.getLsbD 10) then 10 else if (en.getLsbD 6 && !d.getLsbD 6) then 6 else -1 := by
  have a1 : (544#64).getLsbD 9 = true := by decide
  have a2 : (544#64).getLsbD 5 = true := by decide
  have a3 : (544#64).getLsbD 10 = false := by decide
  have a4 : (544#64).getLsbD 6 = false := by decide
  have b1 : (1088#64).getLsbD 9 = false := by decide
  have b2 : (1088#64).getLsbD 5 = false := by decide
  have b3 : (1088#64).getLsbD 10 = true := by decide
  have b4 : (1088#64).getLsbD 6 = true := by decide
  unfold topB topB topB topB topB hostB
  simp only [BitVec.getLsbD_or, BitVec.getLsbD_and, BitVec.getLsbD_not, a1, a2, a3, a4, b1, b2, b3, b4, Bool.and_true, Bool.and_false, Bool.false_and, Bool.or_false, Bool.false_or, Bool.true_and, show decide (9 < 64) = true from rfl, show decide (5 < 64) = true from rfl, show decide (10 < 64) = true from rfl, show decide (6 < 64) = true from rfl]
  rfl
theorem ge2 (a b : Bool) (x y : Int) (hx : 0 ≤ x) (hy : 0 ≤ y) : decide (0 ≤ (if a then x else if b then y else -1)) = (a || b) := by
  cases a <;> cases b <;> simp [hx, hy]
theorem ge4 (a b c d : Bool) (x y z u : Int) (hx : 0 ≤ x) (hy : 0 ≤ y) (hz : 0 ≤ z) (hu : 0 ≤ u) : decide (0 ≤ (if a then x else if b then y else if c then z else if d then u else -1)) = (a || b || c || d) := by
  cases a <;> cases b <;> cases c <;> cases d <;> simp [hx, hy, hz, hu]
theorem open_m (S : St) : openB S 3 false = (!(S.lev == 3) || (S.c 0).getLsbD 3) := rfl
theorem open_s (S : St) : openB S 1 false = (!(S.lev == 3) && (S.v || ((S.lev == 0) || (S.c 0).getLsbD 1))) := by
  have e : openB S 1 false = if ((S.lev == 3) || (false && !S.v)) = true then false else (S.v || (S.lev == 0) || (S.c 0).getLsbD 1) := rfl
  rw [e]
  generalize (S.lev == 3) = a
  generalize (S.lev == 0) = b
  generalize (S.c 0).getLsbD 1 = c
  cases a <;> cases b <;> cases c <;> cases S.v <;> rfl
theorem open_g (S : St) (h : S.lev = 3 → S.v = false) : openB S 1 true = (S.v && ((S.lev == 0) || (S.c 22).getLsbD 1)) := by
  have e : openB S 1 true = if ((S.lev == 3) || (true && !S.v)) = true then false else ((S.lev == 0) || (S.c 22).getLsbD 1) := rfl
  rw [e]
  by_cases c : S.lev = 3
  · rw [h c]; simp
  · have : (S.lev == 3) = false := by simpa using c
    rw [this]
    cases S.v <;> simp
theorem int_eq (S : St) (t l : Bool) (h : S.lev = 3 → S.v = false) : intV S t l = rintV S t l := by
  rw [int_code, codes_eq, open_m, open_s, open_g S h]
  unfold rintV
  simp only [top_mine, top_host, top_guest, ge2 _ _ 9 5 (by omega) (by omega), ge2 _ _ 10 6 (by omega) (by omega), ge4 _ _ _ _ 9 5 10 6 (by omega) (by omega) (by omega) (by omega)]
  rw [rin_code]
  rfl
end Go.Proofs.Ytalcldghpmeeaaa
