/- The document's Interrupt; no condition but the arguments' own. -/
import Derived.Test.YtalcldghpmeeaaaRef16E
import Derived.Test.YtalcldghpmeeaaaMask
import Derived.Test.YtalcldghpmeeaaaRouteC
import Derived.Test.YtalcldghpmeeaaaSteps
namespace Go.Proofs.Ytalcldghpmeeaaa
open Go.RowKit Go.BigFrame
set_option linter.unusedSimpArgs false
set_option linter.unusedVariables false
set_option maxRecDepth 100000

theorem topB_range (v : BitVec 64) (ks : List Nat) (h : ∀ k ∈ ks, k < 64) : -1 ≤ topB v ks ∧ topB v ks < 64 := by
  induction ks with
  | nil => exact ⟨by show (-1 : Int) ≤ -1; omega, by show (-1 : Int) < 64; omega⟩
  | cons k ks ih =>
    unfold topB
    have := h k (by simp)
    have := ih (fun j hj => h j (by simp [hj]))
    split <;> omega
def hostB (en c2 c18 : BitVec 64) : BitVec 64 := ((en &&& 544#64) &&& c2) ||| ((en &&& 1088#64) &&& ~~~c18)
def rin (g1 g2 g3 l3 l0 v q0 q1 q2 : Bool) (x1 x2 x3 : BitVec 64) : BitVec 64 × Int × Bool × Bool :=
  if (g1 && (!l3 || q0)) = true then (x1, 3, false, true) else if (g2 && (!l3 && (v || (l0 || q1)))) = true then (x2, 1, false, true) else if (g3 && (v && (l0 || q2))) = true then (x3, 1, true, true) else (0#64, 0, false, false)
/-- The document's interrupt. -/
def rintV (S : St) (t l : Bool) : BitVec 64 × Int × Bool × Bool :=
  let b1 := topB ((enB S t l &&& 544#64) &&& ~~~(S.c 2)) [9, 5]
  let b2 := topB (hostB (enB S t l) (S.c 2) (S.c 18)) [9, 5, 10, 6]
  let b3 := topB ((enB S t l &&& 1088#64) &&& S.c 18) [10, 6]
  rin (decide (0 ≤ b1)) (decide (0 ≤ b2)) (decide (0 ≤ b3)) (S.lev == 3) (S.lev == 0) S.v ((S.c 0).getLsbD 3) ((S.c 0).getLsbD 1) ((S.c 22).getLsbD 1) (9223372036854775808#64 ||| BitVec.ofInt 64 b1) (9223372036854775808#64 ||| BitVec.ofInt 64 b2) (9223372036854775808#64 ||| BitVec.ofInt 64 (b3 - 1))
set_option maxHeartbeats 8000000 in
theorem rint_b (S : St) (t l : Bool) : Gives Try.prog 12 #[.agg (stA S), .bool t, .bool l] (.tuple #[U (rintV S t l).1, .int .i64 (rintV S t l).2.1, .bool (rintV S t l).2.2.1, .bool (rintV S t l).2.2.2]) := by
  intro w
  have sz := stA_size S
  have hs := HasSt.new w S
  have hb : Below w.heap.size w (w.alloc (.cells (stA S) 26)) := (Below.refl _ _).alloc (Nat.le_refl _) _
  have HS := Lib.hid hs
  have HB := Lib.hid hb
  clear hs hb
  have E1 := Lib.hid (ren_b S t l)
  have Q0 : Gives Try.prog 23 #[.agg (stA S), .int .i64 0, .int .i64 3] (.bool ((S.c 0).getLsbD 3)) := rbit_b S 0 3 (by omega) (by omega)
  have Q1 : Gives Try.prog 23 #[.agg (stA S), .int .i64 0, .int .i64 1] (.bool ((S.c 0).getLsbD 1)) := rbit_b S 0 1 (by omega) (by omega)
  have Q2 : Gives Try.prog 23 #[.agg (stA S), .int .i64 22, .int .i64 1] (.bool ((S.c 22).getLsbD 1)) := rbit_b S 22 1 (by omega) (by omega)
  obtain ⟨r, hr⟩ : ∃ r, r = rintV S t l := ⟨_, rfl⟩
  rw [← hr]
  have hr : r = rin (decide (0 ≤ topB ((enB S t l &&& 544#64) &&& ~~~(S.c 2)) [9, 5])) (decide (0 ≤ topB (((enB S t l &&& 544#64) &&& S.c 2) ||| ((enB S t l &&& 1088#64) &&& ~~~S.c 18)) [9, 5, 10, 6])) (decide (0 ≤ topB ((enB S t l &&& 1088#64) &&& S.c 18) [10, 6])) (S.lev == 3) (S.lev == 0) S.v ((S.c 0).getLsbD 3) ((S.c 0).getLsbD 1) ((S.c 22).getLsbD 1)
    (9223372036854775808#64 ||| BitVec.ofInt 64 (topB ((enB S t l &&& 544#64) &&& ~~~(S.c 2)) [9, 5])) (9223372036854775808#64 ||| BitVec.ofInt 64 (topB (((enB S t l &&& 544#64) &&& S.c 2) ||| ((enB S t l &&& 1088#64) &&& ~~~S.c 18)) [9, 5, 10, 6])) (9223372036854775808#64 ||| BitVec.ofInt 64 (topB ((enB S t l &&& 1088#64) &&& S.c 18) [10, 6] - 1)) := hr
  generalize (S.c 0).getLsbD 3 = q0 at *
  generalize (S.c 0).getLsbD 1 = q1 at *
  generalize (S.c 22).getLsbD 1 = q2 at *
  have Q0 := Lib.hid Q0
  have Q1 := Lib.hid Q1
  have Q2 := Lib.hid Q2
  generalize enB S t l = en at *
  have C := Lib.hid (show ∀ W : World, HasSt W w.heap.size S → W.cell? ⟨w.heap.size, 33, none⟩ = some (.int .i64 S.lev) ∧ W.cell? ⟨w.heap.size, 34, none⟩ = some (.bool S.v) ∧ W.cell? ⟨w.heap.size, 37, none⟩ = some (U (S.c 2)) ∧ W.cell? ⟨w.heap.size, 53, none⟩ = some (U (S.c 18)) from
    fun W h => ⟨h.cell (stA_lev S), h.cell (stA_v S), h.cell (stA_c S 2 (by omega)), h.cell (stA_c S 18 (by omega))⟩)
  generalize S.c 2 = c2 at *
  generalize S.c 18 = c18 at *
  generalize S.v = v at *
  obtain ⟨lev, hlev⟩ : ∃ lev, lev = S.lev := ⟨_, rfl⟩
  rw [← hlev] at C hr
  clear hlev
  have e3 : ∃ l3, (lev == 3) = l3 ∧ (lev != 3) = !l3 := ⟨_, rfl, rfl⟩
  obtain ⟨l3, e3, n3⟩ := e3
  obtain ⟨l0, e0⟩ : ∃ l0, (lev == 0) = l0 := ⟨_, rfl⟩
  rw [e3, e0] at hr
  have a1 := u_and en 544#64
  have a2 := u_and en 1088#64
  rw [show ((544#64 : BitVec 64).toNat : Int) = 544 from rfl] at a1
  rw [show ((1088#64 : BitVec 64).toNat : Int) = 1088 from rfl] at a2
  generalize en &&& 544#64 = x1 at *
  generalize en &&& 1088#64 = x2 at *
  have a3 := u_andNot x1 c2
  have a4 := u_and x1 c2
  have a5 := u_andNot x2 c18
  have a6 := u_and x2 c18
  have a7 := u_or (x1 &&& c2) (x2 &&& ~~~c18)
  generalize x1 &&& ~~~c2 = m1 at *
  generalize x2 &&& c18 = m3 at *
  generalize x1 &&& c2 = y1 at *
  generalize x2 &&& ~~~c18 = y2 at *
  generalize y1 ||| y2 = m2 at *
  have T1 := fun (b : Nat) (w : World) (h : IntsAt w b [9, 5]) => top_any m1 b 2 [9, 5] w h (by simp)
  have T2 := fun (b : Nat) (w : World) (h : IntsAt w b [9, 5, 10, 6]) => top_any m2 b 4 [9, 5, 10, 6] w h (by simp)
  have T3 := fun (b : Nat) (w : World) (h : IntsAt w b [10, 6]) => top_any m3 b 2 [10, 6] w h (by simp)
  have g3r := topB_range m3 [10, 6] (by decide)
  generalize topB m1 [9, 5] = b1 at *
  generalize topB m2 [9, 5, 10, 6] = b2 at *
  generalize topB m3 [10, 6] = b3 at *
  have T1 := Lib.hid T1
  have T2 := Lib.hid T2
  have T3 := Lib.hid T3
  have w3 : IntKind.i64.wrap (b3 - 1) = b3 - 1 := IntWalk.i64_in _ ⟨by omega, by omega⟩
  have o1 := u_or 9223372036854775808#64 (BitVec.ofInt 64 b1)
  have o2 := u_or 9223372036854775808#64 (BitVec.ofInt 64 b2)
  have o3 := u_or 9223372036854775808#64 (BitVec.ofInt 64 (b3 - 1))
  rw [show ((9223372036854775808#64 : BitVec 64).toNat : Int) = 9223372036854775808 from rfl, ← u_wrap] at o1 o2 o3
  generalize 9223372036854775808#64 ||| BitVec.ofInt 64 b1 = z1 at *
  generalize 9223372036854775808#64 ||| BitVec.ofInt 64 b2 = z2 at *
  generalize 9223372036854775808#64 ||| BitVec.ofInt 64 (b3 - 1) = z3 at *
  generalize hg1 : decide (0 ≤ b1) = g1 at *
  generalize hg2 : decide (0 ≤ b2) = g2 at *
  generalize hg3 : decide (0 ≤ b3) = g3 at *
  have HR := Lib.hid hr
  clear hr g3r
  go_enter Try.func12, Try.ntmps12
  go_wp2_with (first | (with_reducible refine step_load HS.out (by with_unfolding_all rfl) (by with_unfolding_all rfl) (by with_unfolding_all rfl) ?_))
  (with_reducible refine (E1.out.run _).mono ?_)
  rintro e w1 ⟨rfl, hb1⟩
  have HS := Lib.hid (HS.out.below hb1)
  have HB := Lib.hid (HBstep HB.out hb1)
  clear hb1
  obtain ⟨c33, c34, c37, c53⟩ := C.out _ HS.out
  go_wp2_with fail
  refine (T1.out w1.heap.size _ (ints_alloc w1 [9, 5] 3 (by decide))).mono ?_
  rintro e w' ⟨rfl, rfl⟩
  obtain ⟨W1, hW1⟩ : ∃ W, W = w1.alloc (.cells ([9, 5].map fun (k : Nat) => Value.int .i64 (k : Int)).toArray 3) := ⟨_, rfl⟩
  have hbW : Below w1.heap.size w1 W1 := by rw [hW1]; exact (Below.refl _ _).alloc (Nat.le_refl _) _
  have HS := Lib.hid (HS.out.below hbW)
  have HB := Lib.hid (HBstep HB.out hbW)
  skip
  rw [← hW1]
  clear hbW hW1
  obtain ⟨c33, c34, c37, c53⟩ := C.out _ HS.out
  cases g1
  · skip
    go_wp2_with fail
    refine (T2.out W1.heap.size _ (ints_alloc W1 [9, 5, 10, 6] 3 (by decide))).mono ?_
    rintro e w' ⟨rfl, rfl⟩
    obtain ⟨W2, hW2⟩ : ∃ W, W = W1.alloc (.cells ([9, 5, 10, 6].map fun (k : Nat) => Value.int .i64 (k : Int)).toArray 3) := ⟨_, rfl⟩
    have hbW : Below W1.heap.size W1 W2 := by rw [hW2]; exact (Below.refl _ _).alloc (Nat.le_refl _) _
    have HS := Lib.hid (HS.out.below hbW)
    have HB := Lib.hid (HBstep HB.out hbW)
    skip
    rw [← hW2]
    clear hbW hW2
    obtain ⟨c33, c34, c37, c53⟩ := C.out _ HS.out
    cases g2
    · skip
      go_wp2_with fail
      refine (T3.out W2.heap.size _ (ints_alloc W2 [10, 6] 3 (by decide))).mono ?_
      rintro e w' ⟨rfl, rfl⟩
      obtain ⟨W3, hW3⟩ : ∃ W, W = W2.alloc (.cells ([10, 6].map fun (k : Nat) => Value.int .i64 (k : Int)).toArray 3) := ⟨_, rfl⟩
      have hbW : Below W2.heap.size W2 W3 := by rw [hW3]; exact (Below.refl _ _).alloc (Nat.le_refl _) _
      have HS := Lib.hid (HS.out.below hbW)
      have HB := Lib.hid (HBstep HB.out hbW)
      skip
      rw [← hW3]
      clear hbW hW3
      obtain ⟨c33, c34, c37, c53⟩ := C.out _ HS.out
      cases g3
      · go_wp2
        (try simp only [Exit.inBlock, Exit.then])
        refine bodyPost_ret (results_tmp4 rfl _ _ _) rfl ?_
        rw [HR.out]
        exact ⟨rfl, HB.out⟩
      · cases v
        · go_wp2
          (try simp only [Exit.inBlock, Exit.then])
          refine bodyPost_ret (results_tmp4 rfl _ _ _) rfl ?_
          rw [HR.out]
          exact ⟨rfl, HB.out⟩
        · skip
          cases l0
          · skip
            go_wp2_with (first | (with_reducible refine step_load HS.out (by with_unfolding_all rfl) (by with_unfolding_all rfl) (by with_unfolding_all rfl) ?_))
            (with_reducible refine (Q2.out.run _).mono ?_)
            rintro e v5 ⟨rfl, hbv⟩
            have HS := Lib.hid (HS.out.below hbv)
            have HB := Lib.hid (HBstep HB.out hbv)
            clear hbv
            obtain ⟨c33, c34, c37, c53⟩ := C.out _ HS.out
            cases q2
            · go_wp2
              (try simp only [Exit.inBlock, Exit.then])
              refine bodyPost_ret (results_tmp4 rfl _ _ _) rfl ?_
              rw [HR.out]
              exact ⟨rfl, HB.out⟩
            · go_wp2
              (try simp only [Exit.inBlock, Exit.then])
              refine bodyPost_ret (results_tmp4 rfl _ _ _) rfl ?_
              rw [HR.out]
              exact ⟨rfl, HB.out⟩
          · go_wp2
            (try simp only [Exit.inBlock, Exit.then])
            refine bodyPost_ret (results_tmp4 rfl _ _ _) rfl ?_
            rw [HR.out]
            exact ⟨rfl, HB.out⟩
    · cases l3
      · skip
        cases v
        · cases l0
          · skip
            go_wp2_with (first | (with_reducible refine step_load HS.out (by with_unfolding_all rfl) (by with_unfolding_all rfl) (by with_unfolding_all rfl) ?_))
            (with_reducible refine (Q1.out.run _).mono ?_)
            rintro e v4 ⟨rfl, hbv⟩
            have HS := Lib.hid (HS.out.below hbv)
            have HB := Lib.hid (HBstep HB.out hbv)
            clear hbv
            obtain ⟨c33, c34, c37, c53⟩ := C.out _ HS.out
            cases q1
            · skip
              go_wp2_with fail
              refine (T3.out v4.heap.size _ (ints_alloc v4 [10, 6] 3 (by decide))).mono ?_
              rintro e w' ⟨rfl, rfl⟩
              obtain ⟨W3, hW3⟩ : ∃ W, W = v4.alloc (.cells ([10, 6].map fun (k : Nat) => Value.int .i64 (k : Int)).toArray 3) := ⟨_, rfl⟩
              have hbW : Below v4.heap.size v4 W3 := by rw [hW3]; exact (Below.refl _ _).alloc (Nat.le_refl _) _
              have HS := Lib.hid (HS.out.below hbW)
              have HB := Lib.hid (HBstep HB.out hbW)
              skip
              rw [← hW3]
              clear hbW hW3
              obtain ⟨c33, c34, c37, c53⟩ := C.out _ HS.out
              cases g3
              · go_wp2
                (try simp only [Exit.inBlock, Exit.then])
                refine bodyPost_ret (results_tmp4 rfl _ _ _) rfl ?_
                rw [HR.out]
                exact ⟨rfl, HB.out⟩
              · go_wp2
                (try simp only [Exit.inBlock, Exit.then])
                refine bodyPost_ret (results_tmp4 rfl _ _ _) rfl ?_
                rw [HR.out]
                exact ⟨rfl, HB.out⟩
            · go_wp2
              (try simp only [Exit.inBlock, Exit.then])
              refine bodyPost_ret (results_tmp4 rfl _ _ _) rfl ?_
              rw [HR.out]
              exact ⟨rfl, HB.out⟩
          · go_wp2
            (try simp only [Exit.inBlock, Exit.then])
            refine bodyPost_ret (results_tmp4 rfl _ _ _) rfl ?_
            rw [HR.out]
            exact ⟨rfl, HB.out⟩
        · go_wp2
          (try simp only [Exit.inBlock, Exit.then])
          refine bodyPost_ret (results_tmp4 rfl _ _ _) rfl ?_
          rw [HR.out]
          exact ⟨rfl, HB.out⟩
      · skip
        go_wp2_with fail
        refine (T3.out W2.heap.size _ (ints_alloc W2 [10, 6] 3 (by decide))).mono ?_
        rintro e w' ⟨rfl, rfl⟩
        obtain ⟨W3, hW3⟩ : ∃ W, W = W2.alloc (.cells ([10, 6].map fun (k : Nat) => Value.int .i64 (k : Int)).toArray 3) := ⟨_, rfl⟩
        have hbW : Below W2.heap.size W2 W3 := by rw [hW3]; exact (Below.refl _ _).alloc (Nat.le_refl _) _
        have HS := Lib.hid (HS.out.below hbW)
        have HB := Lib.hid (HBstep HB.out hbW)
        skip
        rw [← hW3]
        clear hbW hW3
        obtain ⟨c33, c34, c37, c53⟩ := C.out _ HS.out
        cases g3
        · go_wp2
          (try simp only [Exit.inBlock, Exit.then])
          refine bodyPost_ret (results_tmp4 rfl _ _ _) rfl ?_
          rw [HR.out]
          exact ⟨rfl, HB.out⟩
        · cases v
          · go_wp2
            (try simp only [Exit.inBlock, Exit.then])
            refine bodyPost_ret (results_tmp4 rfl _ _ _) rfl ?_
            rw [HR.out]
            exact ⟨rfl, HB.out⟩
          · skip
            cases l0
            · skip
              go_wp2_with (first | (with_reducible refine step_load HS.out (by with_unfolding_all rfl) (by with_unfolding_all rfl) (by with_unfolding_all rfl) ?_))
              (with_reducible refine (Q2.out.run _).mono ?_)
              rintro e v5 ⟨rfl, hbv⟩
              have HS := Lib.hid (HS.out.below hbv)
              have HB := Lib.hid (HBstep HB.out hbv)
              clear hbv
              obtain ⟨c33, c34, c37, c53⟩ := C.out _ HS.out
              cases q2
              · go_wp2
                (try simp only [Exit.inBlock, Exit.then])
                refine bodyPost_ret (results_tmp4 rfl _ _ _) rfl ?_
                rw [HR.out]
                exact ⟨rfl, HB.out⟩
              · go_wp2
                (try simp only [Exit.inBlock, Exit.then])
                refine bodyPost_ret (results_tmp4 rfl _ _ _) rfl ?_
                rw [HR.out]
                exact ⟨rfl, HB.out⟩
            · go_wp2
              (try simp only [Exit.inBlock, Exit.then])
              refine bodyPost_ret (results_tmp4 rfl _ _ _) rfl ?_
              rw [HR.out]
              exact ⟨rfl, HB.out⟩
  · cases l3
    · go_wp2
      (try simp only [Exit.inBlock, Exit.then])
      refine bodyPost_ret (results_tmp4 rfl _ _ _) rfl ?_
      rw [HR.out]
      exact ⟨rfl, HB.out⟩
    · skip
      go_wp2_with (first | (with_reducible refine step_load HS.out (by with_unfolding_all rfl) (by with_unfolding_all rfl) (by with_unfolding_all rfl) ?_))
      (with_reducible refine (Q0.out.run _).mono ?_)
      rintro e v3 ⟨rfl, hbv⟩
      have HS := Lib.hid (HS.out.below hbv)
      have HB := Lib.hid (HBstep HB.out hbv)
      clear hbv
      obtain ⟨c33, c34, c37, c53⟩ := C.out _ HS.out
      cases q0
      · skip
        go_wp2_with fail
        refine (T2.out v3.heap.size _ (ints_alloc v3 [9, 5, 10, 6] 3 (by decide))).mono ?_
        rintro e w' ⟨rfl, rfl⟩
        obtain ⟨W2, hW2⟩ : ∃ W, W = v3.alloc (.cells ([9, 5, 10, 6].map fun (k : Nat) => Value.int .i64 (k : Int)).toArray 3) := ⟨_, rfl⟩
        have hbW : Below v3.heap.size v3 W2 := by rw [hW2]; exact (Below.refl _ _).alloc (Nat.le_refl _) _
        have HS := Lib.hid (HS.out.below hbW)
        have HB := Lib.hid (HBstep HB.out hbW)
        skip
        rw [← hW2]
        clear hbW hW2
        obtain ⟨c33, c34, c37, c53⟩ := C.out _ HS.out
        cases g2
        · skip
          go_wp2_with fail
          refine (T3.out W2.heap.size _ (ints_alloc W2 [10, 6] 3 (by decide))).mono ?_
          rintro e w' ⟨rfl, rfl⟩
          obtain ⟨W3, hW3⟩ : ∃ W, W = W2.alloc (.cells ([10, 6].map fun (k : Nat) => Value.int .i64 (k : Int)).toArray 3) := ⟨_, rfl⟩
          have hbW : Below W2.heap.size W2 W3 := by rw [hW3]; exact (Below.refl _ _).alloc (Nat.le_refl _) _
          have HS := Lib.hid (HS.out.below hbW)
          have HB := Lib.hid (HBstep HB.out hbW)
          skip
          rw [← hW3]
          clear hbW hW3
          obtain ⟨c33, c34, c37, c53⟩ := C.out _ HS.out
          cases g3
          · go_wp2
            (try simp only [Exit.inBlock, Exit.then])
            refine bodyPost_ret (results_tmp4 rfl _ _ _) rfl ?_
            rw [HR.out]
            exact ⟨rfl, HB.out⟩
          · cases v
            · go_wp2
              (try simp only [Exit.inBlock, Exit.then])
              refine bodyPost_ret (results_tmp4 rfl _ _ _) rfl ?_
              rw [HR.out]
              exact ⟨rfl, HB.out⟩
            · skip
              cases l0
              · skip
                go_wp2_with (first | (with_reducible refine step_load HS.out (by with_unfolding_all rfl) (by with_unfolding_all rfl) (by with_unfolding_all rfl) ?_))
                (with_reducible refine (Q2.out.run _).mono ?_)
                rintro e v5 ⟨rfl, hbv⟩
                have HS := Lib.hid (HS.out.below hbv)
                have HB := Lib.hid (HBstep HB.out hbv)
                clear hbv
                obtain ⟨c33, c34, c37, c53⟩ := C.out _ HS.out
                cases q2
                · go_wp2
                  (try simp only [Exit.inBlock, Exit.then])
                  refine bodyPost_ret (results_tmp4 rfl _ _ _) rfl ?_
                  rw [HR.out]
                  exact ⟨rfl, HB.out⟩
                · go_wp2
                  (try simp only [Exit.inBlock, Exit.then])
                  refine bodyPost_ret (results_tmp4 rfl _ _ _) rfl ?_
                  rw [HR.out]
                  exact ⟨rfl, HB.out⟩
              · go_wp2
                (try simp only [Exit.inBlock, Exit.then])
                refine bodyPost_ret (results_tmp4 rfl _ _ _) rfl ?_
                rw [HR.out]
                exact ⟨rfl, HB.out⟩
        · skip
          go_wp2_with fail
          refine (T3.out W2.heap.size _ (ints_alloc W2 [10, 6] 3 (by decide))).mono ?_
          rintro e w' ⟨rfl, rfl⟩
          obtain ⟨W3, hW3⟩ : ∃ W, W = W2.alloc (.cells ([10, 6].map fun (k : Nat) => Value.int .i64 (k : Int)).toArray 3) := ⟨_, rfl⟩
          have hbW : Below W2.heap.size W2 W3 := by rw [hW3]; exact (Below.refl _ _).alloc (Nat.le_refl _) _
          have HS := Lib.hid (HS.out.below hbW)
          have HB := Lib.hid (HBstep HB.out hbW)
          skip
          rw [← hW3]
          clear hbW hW3
          obtain ⟨c33, c34, c37, c53⟩ := C.out _ HS.out
          cases g3
          · go_wp2
            (try simp only [Exit.inBlock, Exit.then])
            refine bodyPost_ret (results_tmp4 rfl _ _ _) rfl ?_
            rw [HR.out]
            exact ⟨rfl, HB.out⟩
          · cases v
            · go_wp2
              (try simp only [Exit.inBlock, Exit.then])
              refine bodyPost_ret (results_tmp4 rfl _ _ _) rfl ?_
              rw [HR.out]
              exact ⟨rfl, HB.out⟩
            · skip
              cases l0
              · skip
                go_wp2_with (first | (with_reducible refine step_load HS.out (by with_unfolding_all rfl) (by with_unfolding_all rfl) (by with_unfolding_all rfl) ?_))
                (with_reducible refine (Q2.out.run _).mono ?_)
                rintro e v5 ⟨rfl, hbv⟩
                have HS := Lib.hid (HS.out.below hbv)
                have HB := Lib.hid (HBstep HB.out hbv)
                clear hbv
                obtain ⟨c33, c34, c37, c53⟩ := C.out _ HS.out
                cases q2
                · go_wp2
                  (try simp only [Exit.inBlock, Exit.then])
                  refine bodyPost_ret (results_tmp4 rfl _ _ _) rfl ?_
                  rw [HR.out]
                  exact ⟨rfl, HB.out⟩
                · go_wp2
                  (try simp only [Exit.inBlock, Exit.then])
                  refine bodyPost_ret (results_tmp4 rfl _ _ _) rfl ?_
                  rw [HR.out]
                  exact ⟨rfl, HB.out⟩
              · go_wp2
                (try simp only [Exit.inBlock, Exit.then])
                refine bodyPost_ret (results_tmp4 rfl _ _ _) rfl ?_
                rw [HR.out]
                exact ⟨rfl, HB.out⟩
      · go_wp2
        (try simp only [Exit.inBlock, Exit.then])
        refine bodyPost_ret (results_tmp4 rfl _ _ _) rfl ?_
        rw [HR.out]
        exact ⟨rfl, HB.out⟩
end Go.Proofs.Ytalcldghpmeeaaa
