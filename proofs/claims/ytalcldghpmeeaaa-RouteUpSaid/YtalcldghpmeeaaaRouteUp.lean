/- The walk of RouteUp; no condition but the arguments' own. -/
import Derived.Test.YtalcldghpmeeaaaSteps
namespace Go.Proofs.Ytalcldghpmeeaaa
open Go.RowKit Go.BigFrame
set_option linter.unusedSimpArgs false
set_option linter.unusedVariables false
set_option maxRecDepth 100000

theorem int_cases (S : St) (t l : Bool) : intV S t l = (0#64, 0, false, false) ∨ ∃ m, m < 8 ∧ firesB S (enB S t l) m = true ∧ intV S t l = (9223372036854775808#64 ||| BitVec.ofNat 64 (tb m - (if tv m then 1 else 0)), tl m, tv m, true) := by
  unfold intV
  have key : ∀ k m, m + k = 8 → intFrom S (enB S t l) k m = (0#64, 0, false, false) ∨ ∃ j, j < 8 ∧ firesB S (enB S t l) j = true ∧ intFrom S (enB S t l) k m = (9223372036854775808#64 ||| BitVec.ofNat 64 (tb j - (if tv j then 1 else 0)), tl j, tv j, true) := by
    intro k
    induction k with
    | zero => intro m _; exact .inl rfl
    | succ k ih =>
      intro m hm
      by_cases c : firesB S (enB S t l) m = true
      · exact .inr ⟨m, by omega, c, if_pos c⟩
      · have e : intFrom S (enB S t l) (k + 1) m = intFrom S (enB S t l) k (m + 1) := if_neg c
        rw [e]
        exact ih (m + 1) (by omega)
  exact key 8 0 (by omega)
theorem cleanL_lev (l : Int) : cleanL l = 0 ∨ cleanL l = 1 ∨ cleanL l = 3 := by unfold cleanL; split <;> omega
theorem clean_v (S : St) (h : (cleanS S).lev = 3) : (cleanS S).v = false := by
  show (if cleanL S.lev = 3 then false else S.v) = false
  rw [if_pos (show cleanL S.lev = 3 from h)]
/-- What RouteUp asks of the interrupt that comes. -/
def upOk (lev : Int) (v : Bool) (en : BitVec 64) (c : Int) (l : Int) (w ok : Bool) : Prop :=
  (c = 0 ∧ l = 0 ∧ w = false ∧ ok = false) ∨ (ok = true ∧ decide (lev ≤ l) = true ∧ en ≠ 0#64 ∧
    ((c = 9223372036854775817 ∧ w = false) ∨ (c = 9223372036854775813 ∧ w = false) ∨ (c = 9223372036854775818 ∧ w = false) ∨ (c = 9223372036854775814 ∧ w = false) ∨
     (c = 9223372036854775817 ∧ w = true ∧ l = 1 ∧ v = true) ∨ (c = 9223372036854775813 ∧ w = true ∧ l = 1 ∧ v = true)))
theorem up_int (S : St) (t l : Bool) (hl : S.lev = 0 ∨ S.lev = 1 ∨ S.lev = 3) : ∃ (c : BitVec 64) (il : Int) (iw ok : Bool), intV S t l = (c, il, iw, ok) ∧ upOk S.lev S.v (enB S t l) (c.toNat : Int) il iw ok := by
  rcases int_cases S t l with h | ⟨m, hm, hf, h⟩
  · exact ⟨_, _, _, _, h, .inl ⟨rfl, rfl, rfl, rfl⟩⟩
  · refine ⟨_, _, _, _, h, .inr ⟨rfl, ?_, ?_, ?_⟩⟩
    · unfold firesB at hf
      simp only [Bool.and_eq_true] at hf
      have ho := hf.2
      unfold openB at ho
      rcases hl with e | e | e
      · rw [e]; match m, hm with
        | 0, _ | 1, _ | 2, _ | 3, _ | 4, _ | 5, _ | 6, _ | 7, _ => rfl
      · rw [e]; match m, hm with
        | 0, _ | 1, _ | 2, _ | 3, _ | 4, _ | 5, _ | 6, _ | 7, _ => rfl
      · rw [e] at ho ⊢
        match m, hm with
        | 0, _ | 1, _ => rfl
        | 2, _ | 3, _ | 4, _ | 5, _ | 6, _ | 7, _ => simp [tl] at ho
    · intro e
      unfold firesB at hf
      rw [e] at hf
      simp at hf
    · unfold firesB at hf
      simp only [Bool.and_eq_true] at hf
      have ho := hf.2
      match m, hm with
      | 0, _ => exact .inl ⟨by decide, rfl⟩
      | 1, _ => exact .inr (.inl ⟨by decide, rfl⟩)
      | 2, _ => exact .inl ⟨by decide, rfl⟩
      | 3, _ => exact .inr (.inl ⟨by decide, rfl⟩)
      | 4, _ => exact .inr (.inr (.inl ⟨by decide, rfl⟩))
      | 5, _ => exact .inr (.inr (.inr (.inl ⟨by decide, rfl⟩)))
      | 6, _ | 7, _ =>
        have hv : S.v = true := by
          cases c : S.v
          · unfold openB at ho
            rw [c] at ho
            simp [tl, tv] at ho
          · rfl
        first
          | exact .inr (.inr (.inr (.inr (.inl ⟨by decide, rfl, rfl, hv⟩))))
          | exact .inr (.inr (.inr (.inr (.inr ⟨by decide, rfl, rfl, hv⟩))))
theorem up_exc (S : St) (a : BitVec 64) (hl : S.lev = 0 ∨ S.lev = 1 ∨ S.lev = 3) : (excV S a = (3, false) ∧ decide (3 < S.lev) = false) ∨ (excV S a = (1, false) ∧ decide (1 < S.lev) = false) ∨ (excV S a = (1, true) ∧ decide (1 < S.lev) = false ∧ S.v = true) := by
  unfold excV
  by_cases c : S.lev = 3 ∨ (S.c 1).getLsbD a.toNat = false
  · rw [if_pos c]
    exact .inl ⟨rfl, decide_eq_false (by omega)⟩
  · rw [if_neg c]
    have h3 : S.lev ≠ 3 := fun e => c (.inl e)
    have d : decide (1 < S.lev) = false := decide_eq_false (by omega)
    cases hv : S.v
    · exact .inr (.inl ⟨rfl, d⟩)
    · cases hb : (S.c 17).getLsbD a.toNat
      · exact .inr (.inl ⟨rfl, d⟩)
      · exact .inr (.inr ⟨rfl, d, rfl⟩)
set_option maxHeartbeats 8000000 in
theorem walkRouteUp (S : St) (cause : Int) (t l : Bool) (hc : (Lit.int .u64 cause).wf = true) (w : World) :
    Calls Try.prog 4 #[.agg (stA S), .int .u64 cause, .bool t, .bool l] w fun e w' => e = .returned (.bool true) ∧ Below w.heap.size w w' := by
  obtain ⟨ca, rfl⟩ := u64_open hc
  have sz := stA_size S
  have zs := zero_st
  have hs := HasSt.new w S
  have hb : Below w.heap.size w (w.alloc (.cells (stA S) 26)) := (Below.refl _ _).alloc (Nat.le_refl _) _
  have HS := Lib.hid hs
  have HB := Lib.hid hb
  clear hs hb hc
  have CL := clean_b S
  have X := exc_b (cleanS S) ca
  have I := int_b (cleanS S) t l
  have N := en_b (cleanS S) t l
  have hl : (cleanS S).lev = 0 ∨ (cleanS S).lev = 1 ∨ (cleanS S).lev = 3 := cleanL_lev S.lev
  have xc : ∃ ea ev, excV (cleanS S) ca = (ea, ev) ∧ ((ea = 3 ∧ ev = false ∧ decide (3 < (cleanS S).lev) = false) ∨ (ea = 1 ∧ ev = false ∧ decide (1 < (cleanS S).lev) = false) ∨ (ea = 1 ∧ ev = true ∧ decide (1 < (cleanS S).lev) = false ∧ (cleanS S).v = true)) := by
    rcases up_exc (cleanS S) ca hl with ⟨h, d⟩ | ⟨h, d⟩ | ⟨h, d, v⟩
    · exact ⟨_, _, h, .inl ⟨rfl, rfl, d⟩⟩
    · exact ⟨_, _, h, .inr (.inl ⟨rfl, rfl, d⟩)⟩
    · exact ⟨_, _, h, .inr (.inr ⟨rfl, rfl, d, v⟩)⟩
  obtain ⟨ea, ev, hx, xc⟩ := xc
  rw [hx] at X
  clear hx
  obtain ⟨c, il, iw, ok, hi, hu⟩ := up_int (cleanS S) t l hl
  rw [hi] at I
  clear hi hl
  obtain ⟨en, hen⟩ : ∃ en, en = enB (cleanS S) t l := ⟨_, rfl⟩
  rw [← hen] at N hu
  clear hen
  obtain ⟨T, hT⟩ : ∃ T, T = cleanS S := ⟨_, rfl⟩
  rw [← hT] at CL X I N xc hu
  clear hT
  have CL := Lib.hid CL
  obtain ⟨ci, hci⟩ : ∃ ci : Int, ci = (c.toNat : Int) := ⟨_, rfl⟩
  have I : Gives Try.prog 11 #[.agg (stA T), .bool t, .bool l] (.tuple #[.int .u64 ci, .int .i64 il, .bool iw, .bool ok]) := by rw [hci]; exact I
  rw [← hci] at hu
  clear hci
  have nz : en ≠ 0#64 → ((en.toNat : Int) != 0) = true := fun h => by rw [bne_iff_ne]; intro e; exact h (BitVec.eq_of_toNat_eq (by simp; omega))
  have NZ := Lib.hid nz
  clear nz
  have I := Lib.hid I
  have N := Lib.hid N
  go_enter Try.func4, Try.ntmps4
  go_wp2_with fail
  (with_reducible refine (known15_b.run _).mono ?_)
  rintro e w1 ⟨rfl, hb1⟩
  have HS := Lib.hid (HS.out.below hb1)
  have HB := Lib.hid (HBstep HB.out hb1)
  clear hb1
  go_wp2_with (first | (with_reducible refine step_load HS.out (by with_unfolding_all rfl) (by with_unfolding_all rfl) (by with_unfolding_all rfl) ?_))
  (with_reducible refine (CL.out.run _).mono ?_)
  rintro e w2 ⟨rfl, hb2⟩
  have HB := Lib.hid (HBstep HB.out hb2)
  clear hb2 HS
  have Z0 := Lib.hid (HasSt.new w2 St0)
  obtain ⟨W, hW⟩ : ∃ W, W = (w2.alloc (.cells (stA St0) 26)).setRow w2.heap.size (stA T) := ⟨_, rfl⟩
  have HT := Lib.hid (show HasSt W w2.heap.size T by rw [hW]; exact Z0.out.row T)
  have HBW : Below w.heap.size w W := by rw [hW]; exact below_setRow (HB.out.alloc HB.out.size _) HB.out.size _
  have HB := Lib.hid HBW
  have HW := Lib.hid hW
  clear hW HBW
  have X := Lib.hid X
  go_wp2_with (first | (with_reducible refine step_store T Z0.out (by with_unfolding_all rfl) (by with_unfolding_all rfl) (by with_unfolding_all rfl) (by with_unfolding_all rfl) ?_; rw [← HW.out]) | (with_reducible refine step_load HT.out (by with_unfolding_all rfl) (by with_unfolding_all rfl) (by with_unfolding_all rfl) ?_))
  (with_reducible refine (X.out.run _).mono ?_)
  rintro e w3 ⟨rfl, hb3⟩
  have HT := Lib.hid (HT.out.below hb3)
  have HB := Lib.hid (HBstep HB.out hb3)
  clear hb3 X HW Z0
  go_wp2_with (first | (with_reducible refine step_load HT.out (by with_unfolding_all rfl) (by with_unfolding_all rfl) (by with_unfolding_all rfl) ?_))
  (with_reducible refine (I.out.run _).mono ?_)
  rintro e w4 ⟨rfl, hb4⟩
  have HT := Lib.hid (HT.out.below hb4)
  have HB := Lib.hid (HBstep HB.out hb4)
  clear hb4 I
  have cl := HT.out.cell (stA_lev T)
  have cv := HT.out.cell (stA_v T)
  obtain ⟨lev, hlev⟩ : ∃ lev, lev = T.lev := ⟨_, rfl⟩
  obtain ⟨tvv, htv⟩ : ∃ tvv, tvv = T.v := ⟨_, rfl⟩
  rw [← hlev] at cl xc hu
  rw [← htv] at cv xc hu
  clear hlev htv
  have cl := Lib.hid cl
  have cv := Lib.hid cv
  rcases hu with ⟨rfl, rfl, rfl, rfl⟩ | ⟨rfl, dl, hen, hu⟩
  · rcases xc with ⟨rfl, rfl, d⟩ | ⟨rfl, rfl, d⟩ | ⟨rfl, rfl, d, rfl⟩
    all_goals (
      have cl := cl.out
      have cv := cv.out
      go_wp2
      go_ret
      exact ⟨rfl, HB.out⟩)
  · have nz := NZ.out hen
    have nz := Lib.hid nz
    clear hen
    rcases hu with ⟨rfl, rfl⟩ | ⟨rfl, rfl⟩ | ⟨rfl, rfl⟩ | ⟨rfl, rfl⟩ | ⟨rfl, rfl, rfl, rfl⟩ | ⟨rfl, rfl, rfl, rfl⟩
    all_goals (rcases xc with ⟨rfl, rfl, d⟩ | ⟨rfl, rfl, d⟩ | ⟨rfl, rfl, d, hv⟩)
    all_goals (
      first | subst hv | skip
      have cl := cl.out
      have cv := cv.out
      go_wp2_with (first | (with_reducible refine step_load HT.out (by with_unfolding_all rfl) (by with_unfolding_all rfl) (by with_unfolding_all rfl) ?_))
      (with_reducible refine (N.out.run _).mono ?_)
      rintro e w5 ⟨rfl, hb5⟩
      have HB := Lib.hid (HBstep HB.out hb5)
      have nz := nz.out
      clear hb5
      go_wp2
      go_ret
      exact ⟨rfl, HB.out⟩)
end Go.Proofs.Ytalcldghpmeeaaa
