/- Part 4 of the texts behind the law: contracts and lemmas, each proved; no condition but what each names. -/
import Derived.Deep.WholeRow
import Derived.Test.YtfehilinnalflaaGreatQ03
namespace Go.Proofs.YtfehilinnalflaaGreat
open Go.RowKit Go.BigFrame
set_option linter.unusedSimpArgs false
set_option linter.unusedVariables false
set_option maxRecDepth 100000
def tb (m : Nat) : Nat := [9, 5, 9, 5, 10, 6, 10, 6].getD m 0
def ti (m : Nat) : Nat := [2, 2, 2, 2, 18, 18, 18, 18].getD m 0
def tg (m : Nat) : Bool := [false, false, true, true, false, false, true, true].getD m false
def tl (m : Nat) : Int := [3, 3, 1, 1, 1, 1, 1, 1].getD m 0
def tv (m : Nat) : Bool := [false, false, false, false, false, false, true, true].getD m false
abbrev turnA (m : Nat) : Array Value := #[.int .i64 (tb m : Int), .int .i64 (ti m : Int), .bool (tg m), .int .i64 (tl m), .bool (tv m)]
def turnsA : Array Value := turnA 0 ++ turnA 1 ++ turnA 2 ++ turnA 3 ++ turnA 4 ++ turnA 5 ++ turnA 6 ++ turnA 7
set_option maxHeartbeats 2000000 in
theorem turns_b : Gives Tryz.prog 87 #[] (.agg turnsA) := by
  intro w
  have hw : ∀ z, (w.alloc (.cells z 185)).heap[w.heap.size]? = some (.cells z 185 (0, 0)) := fun z => (MapKept.heap_alloc w _).1
  have HW := Lib.hid hw
  clear hw
  go_enter Tryz.func87, Tryz.ntmps87
  go_wp2_with (refine wpList_store_row rfl 185 _ _ rfl w.heap.size turnsA rfl rfl 185 _ (HW.out _) (by kernel_rfl) (by kernel_rfl) (by kernel_rfl) ?_)
  rw [World.setRow_alloc_new]
  (try simp only [Exit.inBlock, Exit.then])
  refine bodyPost_ret (results_cell_row rfl _ _ w.heap.size _ turnsA _ _ rfl (HW.out _) Tryz.underlying185 rfl (by kernel_rfl)) rfl ?_
  exact ⟨rfl, (Below.refl _ _).alloc (Nat.le_refl _) _⟩
def openB (S : St) (l : Int) (v : Bool) : Bool :=
  if (l == 3) = true then (S.lev != 3) || (S.c 0).getLsbD 3 else if ((S.lev == 3) || (v && !S.v)) = true then false else if v = true then (S.lev == 0) || (S.c 22).getLsbD 1 else S.v || (S.lev == 0) || (S.c 0).getLsbD 1
set_option maxHeartbeats 4000000 in
theorem open_b (S : St) (b i : Int) (g : Bool) (l : Int) (v : Bool) : Gives Tryz.prog 89 #[.agg (stA S), .agg #[.int .i64 b, .int .i64 i, .bool g, .int .i64 l, .bool v]] (.bool (openB S l v)) := by
  intro w
  have sz := stA_size S
  have hs0 := HasSt.new w S
  have b0 : Below w.heap.size w (w.alloc (.cells (stA S) 37)) := (Below.refl _ _).alloc (Nat.le_refl _) _
  have b1 : ∀ o, Below w.heap.size w ((w.alloc (.cells (stA S) 37)).alloc o) := fun o => b0.alloc (by simp) _
  have hs : ∀ o, HasSt ((w.alloc (.cells (stA S) 37)).alloc o) w.heap.size S := fun o => hs0.below ((Below.refl _ _).alloc (Nat.le_refl _) _)
  have HS := Lib.hid hs
  have HB := Lib.hid b1
  have h1 : Gives Tryz.prog 88 #[.agg (stA S), .int .i64 0, .int .i64 3] (.bool ((S.c 0).getLsbD 3)) := cbit_b S 0 3 (by omega) (by omega)
  have h2 : Gives Tryz.prog 88 #[.agg (stA S), .int .i64 22, .int .i64 1] (.bool ((S.c 22).getLsbD 1)) := cbit_b S 22 1 (by omega) (by omega)
  have h3 : Gives Tryz.prog 88 #[.agg (stA S), .int .i64 0, .int .i64 1] (.bool ((S.c 0).getLsbD 1)) := cbit_b S 0 1 (by omega) (by omega)
  have H1 := Lib.hid h1
  have H2 := Lib.hid h2
  have H3 := Lib.hid h3
  have cl := fun o => (hs o).cell (stA_lev S)
  have cv := fun o => (hs o).cell (stA_v S)
  unfold openB
  clear h1 h2 h3 hs hs0 b0 b1
  generalize (S.c 0).getLsbD 3 = q1 at *
  generalize (S.c 22).getLsbD 1 = q2 at *
  generalize (S.c 0).getLsbD 1 = q3 at *
  generalize S.v = sv at *
  obtain ⟨lev, hlev⟩ : ∃ lev, lev = S.lev := ⟨_, rfl⟩
  rw [← hlev] at cl ⊢
  clear hlev
  have n3 : (lev != 3) = !(lev == 3) := rfl
  rw [n3]
  generalize e3 : (lev == 3) = d3 at *
  generalize e0 : (lev == 0) = d0 at *
  generalize el : (l == 3) = dl at *
  go_enter Tryz.func89, Tryz.ntmps89
  cases dl <;> cases d3 <;> cases d0 <;> cases v <;> cases sv
  all_goals (
    go_wp2_with (first | (refine wpList_load_st (HS.out _) rfl rfl rfl ?_) | (go_at_call 88; (first | (with_reducible refine (H1.out.run _).mono ?_) | (with_reducible refine (H2.out.run _).mono ?_) | (with_reducible refine (H3.out.run _).mono ?_)); rintro e' w' ⟨rfl, hb⟩))
    go_ret
    first
      | exact ⟨rfl, HB.out _⟩
      | exact ⟨rfl, HBstep (HB.out _) (by assumption)⟩)
end Go.Proofs.YtfehilinnalflaaGreat
