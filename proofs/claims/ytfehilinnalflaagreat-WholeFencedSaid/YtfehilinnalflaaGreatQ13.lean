/- Part 13 of the texts behind the law: contracts and lemmas, each proved; no condition but what each names. -/
import Derived.Laws.NewBlocks
import Derived.MapKept
import Derived.Lib.Hide
import Derived.Test.YtfehilinnalflaaGreatProg
import Derived.Test.YtfehilinnalflaaGreatQ01
import Derived.Test.YtfehilinnalflaaGreatQ03
import Derived.Test.YtfehilinnalflaaGreatQ05
import Derived.Test.YtfehilinnalflaaGreatQ07
import Derived.Test.YtfehilinnalflaaGreatQ12
namespace Go.Proofs.YtfehilinnalflaaGreat
open Go.RowKit
set_option linter.unusedSimpArgs false
set_option linter.unusedVariables false
set_option maxRecDepth 100000
theorem set_below' {w0 w : World} {b j : Nat} {v : Value} (h : Below w0.heap.size w0 w) (hb : w0.heap.size ≤ b) : Below w0.heap.size w0 (w.setCell ⟨b, j, none⟩ v) := Upd.below h (set_upd _ _ _ _) h.size hb
def rk1 : Array MapEntry := #[⟨.int .i64 29, .int .i64 30, 0⟩]
def rk2 : Array MapEntry := #[⟨.int .i64 29, .int .i64 30, 0⟩, ⟨.int .i64 33, .int .i64 34, 1⟩]
theorem six {w : World} {b : Nat} {c0 c1 c2 c3 c4 c5 : Value} {T : TypeId} (h : w.heap[b]? = some (.cells #[c0, c1, c2, c3, c4, c5] T (0, 0))) :
    w.cell? ⟨b, 0, none⟩ = some c0 ∧ w.cell? ⟨b, 1, none⟩ = some c1 ∧ w.cell? ⟨b, 2, none⟩ = some c2 ∧ w.cell? ⟨b, 3, none⟩ = some c3 ∧ w.cell? ⟨b, 4, none⟩ = some c4 ∧ w.cell? ⟨b, 5, none⟩ = some c5 ∧ ∀ j, w.frozen? ⟨b, j, none⟩ = false :=
  ⟨by simp [World.cell?, h], by simp [World.cell?, h], by simp [World.cell?, h], by simp [World.cell?, h], by simp [World.cell?, h], by simp [World.cell?, h], fun j => by simp [World.frozen?, h]⟩
theorem six_end {w0 w : World} {b : Nat} {z0 z1 z2 z3 z4 z5 c0 c1 c2 c3 c4 c5 : Value} {T : TypeId} (h : w.heap[b]? = some (.cells #[z0, z1, z2, z3, z4, z5] T (0, 0))) (hB : Below w0.heap.size w0 w) (hb : w0.heap.size ≤ b) :
    (((((((w.setCell ⟨b, 0, none⟩ c0).setCell ⟨b, 1, none⟩ c1).setCell ⟨b, 2, none⟩ c2).setCell ⟨b, 3, none⟩ c3).setCell ⟨b, 4, none⟩ c4).setCell ⟨b, 5, none⟩ c5).heap[b]? = some (.cells #[c0, c1, c2, c3, c4, c5] T (0, 0))) ∧
    Below w0.heap.size w0 ((((((w.setCell ⟨b, 0, none⟩ c0).setCell ⟨b, 1, none⟩ c1).setCell ⟨b, 2, none⟩ c2).setCell ⟨b, 3, none⟩ c3).setCell ⟨b, 4, none⟩ c4).setCell ⟨b, 5, none⟩ c5) := by
  have hb1 := set_block (v := c0) h (show 0 < 6 by decide)
  have hb2 := set_block (v := c1) hb1 (show 1 < 6 by decide)
  have hb3 := set_block (v := c2) hb2 (show 2 < 6 by decide)
  have hb4 := set_block (v := c3) hb3 (show 3 < 6 by decide)
  have hb5 := set_block (v := c4) hb4 (show 4 < 6 by decide)
  have hb6 := set_block (v := c5) hb5 (show 5 < 6 by decide)
  exact ⟨hb6, set_below' (set_below' (set_below' (set_below' (set_below' (set_below' hB hb) hb) hb) hb) hb) hb⟩
set_option maxHeartbeats 1000000 in
theorem reck_w0 (x d1 d3 d4 d5 im : Int) (q : Int) (hq : q = 19)
    (hop : Gives Tryz.prog 172 #[.int .u32 x] (.int .i64 q))
    (himm : Gives Tryz.prog 174 #[.agg #[.int .u32 x, .int .i64 d1, .int .i64 0, .int .i64 d3, .int .i64 d4, .int .i64 d5], .int .i64 22] (.agg #[.int .i64 22, .int .i64 d1, .int .i64 d3, .int .i64 0, .int .i64 im, .int .i64 0])) :
    Gives Tryz.prog 175 #[.agg #[.int .u32 x, .int .i64 d1, .int .i64 0, .int .i64 d3, .int .i64 d4, .int .i64 d5]] (.tuple #[.agg #[.int .i64 22, .int .i64 d1, .int .i64 d3, .int .i64 0, .int .i64 im, .int .i64 0], .bool true]) := by
  subst hq
  intro w
  obtain ⟨W1, hW1⟩ : ∃ W1, W1 = w.alloc (.cells #[.int .u32 x, .int .i64 d1, .int .i64 0, .int .i64 d3, .int .i64 d4, .int .i64 d5] 220) := ⟨_, rfl⟩
  have s1 : W1.heap.size = w.heap.size + 1 := by rw [hW1]; simp
  have g0 : W1.heap[w.heap.size]? = some (.cells #[.int .u32 x, .int .i64 d1, .int .i64 0, .int .i64 d3, .int .i64 d4, .int .i64 d5] 220 (0, 0)) := by rw [hW1]; exact (MapKept.heap_alloc _ _).1
  have b0 : Below w.heap.size w W1 := by rw [hW1]; exact (Below.refl w.heap.size w).alloc (Nat.le_refl _) _
  obtain ⟨W2, hW2⟩ : ∃ W2, W2 = W1.alloc (.cells #[.int .i64 0, .int .i64 0, .int .i64 0, .int .i64 0, .int .i64 0, .int .i64 0] 28) := ⟨_, rfl⟩
  have s2 : W2.heap.size = w.heap.size + 1 + 1 := by rw [hW2]; simp [s1]
  have b1 : Below W1.heap.size W1 W2 := by rw [hW2]; exact (Below.refl W1.heap.size W1).alloc (Nat.le_refl _) _
  have g1 : W2.heap[w.heap.size + 1]? = some (.cells #[.int .i64 0, .int .i64 0, .int .i64 0, .int .i64 0, .int .i64 0, .int .i64 0] 28 (0, 0)) := by rw [hW2, ← s1]; exact (MapKept.heap_alloc _ _).1
  have g0' : W2.heap[w.heap.size]? = some (.cells #[.int .u32 x, .int .i64 d1, .int .i64 0, .int .i64 d3, .int .i64 d4, .int .i64 d5] 220 (0, 0)) := by rw [b1.block _ (by omega)]; exact g0
  have B2 : Below w.heap.size w W2 := b0.trans (b1.mono (by omega))
  have ia : ∀ W : World, (Instr.index 289 (.agg #[.int .i64 22, .int .i64 28, .int .i64 23, .int .i64 24, .int .i64 25, .int .i64 29, .int .i64 26, .int .i64 27]) (.int .i64 0)).run Tryz.prog W = .ok (.int .i64 22) W := fun W => by kernel_rfl
  have ib : ∀ W : World, (Instr.index 289 (.agg #[.int .i64 31, .int .i64 32, .int .i64 0, .int .i64 0, .int .i64 0, .int .i64 33, .int .i64 0, .int .i64 0]) (.int .i64 0)).run Tryz.prog W = .ok (.int .i64 31) W := fun W => by kernel_rfl
  have HOP := Lib.hid hop
  have HIMM := Lib.hid himm
  have HS := Lib.hid s2
  have HB := Lib.hid B2
  have HG0 := Lib.hid g0'
  have HG1 := Lib.hid g1
  have HW := Lib.hid (hW2.trans (by rw [hW1]))
  clear hop himm s1 s2 g0 g0' g1 b0 b1 B2 hW1 hW2
  go_enter Tryz.func175, Tryz.ntmps175
  go_wp2_with fail
  rw [← HW.out]
  (with_reducible refine (HOP.out.run _).mono ?_)
  rintro e w1 ⟨rfl, k1⟩
  have h0 : w1.heap[w.heap.size]? = some (.cells #[.int .u32 x, .int .i64 d1, .int .i64 0, .int .i64 d3, .int .i64 d4, .int .i64 d5] 220 (0, 0)) := by rw [k1.block _ (by have := HS.out; omega)]; exact HG0.out
  have h1 : w1.heap[w.heap.size + 1]? = some (.cells #[.int .i64 0, .int .i64 0, .int .i64 0, .int .i64 0, .int .i64 0, .int .i64 0] 28 (0, 0)) := by rw [k1.block _ (by have := HS.out; omega)]; exact HG1.out
  have B3 := Lib.hid (HB.out.trans (k1.mono (by have := HS.out; omega)))
  have S3 := Lib.hid (show w.heap.size + 1 < w1.heap.size from blk_lt h1)
  obtain ⟨c0, c1, c2, c3, c4, c5, cf⟩ := six h0
  have H1 := Lib.hid h1
  clear h0 h1 k1
  go_wp2_with fail
  (with_reducible refine (HIMM.out.run _).mono ?_)
  rintro e w2 ⟨rfl, k2⟩
  have h2 : w2.heap[w.heap.size + 1]? = some (.cells #[.int .i64 0, .int .i64 0, .int .i64 0, .int .i64 0, .int .i64 0, .int .i64 0] 28 (0, 0)) := by rw [k2.block _ S3.out]; exact H1.out
  have B4 := B3.out.trans (k2.mono (by have := S3.out; omega))
  have FIN := Lib.hid (six_end (c0 := .int .i64 22) (c1 := .int .i64 d1) (c2 := .int .i64 d3) (c3 := .int .i64 0) (c4 := .int .i64 im) (c5 := .int .i64 0) h2 B4 (by omega))
  clear c0 c1 c2 c3 c4 c5 cf k2 B4
  obtain ⟨c0, c1, c2, c3, c4, c5, cf⟩ := six h2
  clear h2
  go_wp2
  obtain ⟨E1, E2⟩ := FIN.out
  clear c0 c1 c2 c3 c4 c5 cf
  generalize (((((w2.setCell ⟨w.heap.size + 1, 0, none⟩ (.int .i64 22)).setCell ⟨w.heap.size + 1, 1, none⟩ (.int .i64 d1)).setCell ⟨w.heap.size + 1, 2, none⟩ (.int .i64 d3)).setCell ⟨w.heap.size + 1, 3, none⟩ (.int .i64 0)).setCell ⟨w.heap.size + 1, 4, none⟩ (.int .i64 im)).setCell ⟨w.heap.size + 1, 5, none⟩ (.int .i64 0) = W9 at *
  obtain ⟨q0, q1, q2, q3, q4, q5, _⟩ := six E1
  refine bodyPost_ret (v := .tuple #[.agg #[.int .i64 22, .int .i64 d1, .int .i64 d3, .int .i64 0, .int .i64 im, .int .i64 0], .bool true]) (by simp [results, Tryz.results175, asAddr, loadVar, isAgg, loadCells, Tryz.underlying28, go_sem, q0, q1, q2, q3, q4, q5, Result.andThen]) rfl ?_
  exact ⟨rfl, E2⟩
set_option maxHeartbeats 1000000 in
theorem reck_w2 (x d1 d3 d4 d5 im : Int) (q : Int) (hq : q = 19)
    (hop : Gives Tryz.prog 172 #[.int .u32 x] (.int .i64 q))
    (himm : Gives Tryz.prog 174 #[.agg #[.int .u32 x, .int .i64 d1, .int .i64 2, .int .i64 d3, .int .i64 d4, .int .i64 d5], .int .i64 23] (.agg #[.int .i64 23, .int .i64 d1, .int .i64 d3, .int .i64 0, .int .i64 im, .int .i64 0])) :
    Gives Tryz.prog 175 #[.agg #[.int .u32 x, .int .i64 d1, .int .i64 2, .int .i64 d3, .int .i64 d4, .int .i64 d5]] (.tuple #[.agg #[.int .i64 23, .int .i64 d1, .int .i64 d3, .int .i64 0, .int .i64 im, .int .i64 0], .bool true]) := by
  subst hq
  intro w
  obtain ⟨W1, hW1⟩ : ∃ W1, W1 = w.alloc (.cells #[.int .u32 x, .int .i64 d1, .int .i64 2, .int .i64 d3, .int .i64 d4, .int .i64 d5] 220) := ⟨_, rfl⟩
  have s1 : W1.heap.size = w.heap.size + 1 := by rw [hW1]; simp
  have g0 : W1.heap[w.heap.size]? = some (.cells #[.int .u32 x, .int .i64 d1, .int .i64 2, .int .i64 d3, .int .i64 d4, .int .i64 d5] 220 (0, 0)) := by rw [hW1]; exact (MapKept.heap_alloc _ _).1
  have b0 : Below w.heap.size w W1 := by rw [hW1]; exact (Below.refl w.heap.size w).alloc (Nat.le_refl _) _
  obtain ⟨W2, hW2⟩ : ∃ W2, W2 = W1.alloc (.cells #[.int .i64 0, .int .i64 0, .int .i64 0, .int .i64 0, .int .i64 0, .int .i64 0] 28) := ⟨_, rfl⟩
  have s2 : W2.heap.size = w.heap.size + 1 + 1 := by rw [hW2]; simp [s1]
  have b1 : Below W1.heap.size W1 W2 := by rw [hW2]; exact (Below.refl W1.heap.size W1).alloc (Nat.le_refl _) _
  have g1 : W2.heap[w.heap.size + 1]? = some (.cells #[.int .i64 0, .int .i64 0, .int .i64 0, .int .i64 0, .int .i64 0, .int .i64 0] 28 (0, 0)) := by rw [hW2, ← s1]; exact (MapKept.heap_alloc _ _).1
  have g0' : W2.heap[w.heap.size]? = some (.cells #[.int .u32 x, .int .i64 d1, .int .i64 2, .int .i64 d3, .int .i64 d4, .int .i64 d5] 220 (0, 0)) := by rw [b1.block _ (by omega)]; exact g0
  have B2 : Below w.heap.size w W2 := b0.trans (b1.mono (by omega))
  have ia : ∀ W : World, (Instr.index 289 (.agg #[.int .i64 22, .int .i64 28, .int .i64 23, .int .i64 24, .int .i64 25, .int .i64 29, .int .i64 26, .int .i64 27]) (.int .i64 2)).run Tryz.prog W = .ok (.int .i64 23) W := fun W => by kernel_rfl
  have ib : ∀ W : World, (Instr.index 289 (.agg #[.int .i64 31, .int .i64 32, .int .i64 0, .int .i64 0, .int .i64 0, .int .i64 33, .int .i64 0, .int .i64 0]) (.int .i64 2)).run Tryz.prog W = .ok (.int .i64 0) W := fun W => by kernel_rfl
  have HOP := Lib.hid hop
  have HIMM := Lib.hid himm
  have HS := Lib.hid s2
  have HB := Lib.hid B2
  have HG0 := Lib.hid g0'
  have HG1 := Lib.hid g1
  have HW := Lib.hid (hW2.trans (by rw [hW1]))
  clear hop himm s1 s2 g0 g0' g1 b0 b1 B2 hW1 hW2
  go_enter Tryz.func175, Tryz.ntmps175
  go_wp2_with fail
  rw [← HW.out]
  (with_reducible refine (HOP.out.run _).mono ?_)
  rintro e w1 ⟨rfl, k1⟩
  have h0 : w1.heap[w.heap.size]? = some (.cells #[.int .u32 x, .int .i64 d1, .int .i64 2, .int .i64 d3, .int .i64 d4, .int .i64 d5] 220 (0, 0)) := by rw [k1.block _ (by have := HS.out; omega)]; exact HG0.out
  have h1 : w1.heap[w.heap.size + 1]? = some (.cells #[.int .i64 0, .int .i64 0, .int .i64 0, .int .i64 0, .int .i64 0, .int .i64 0] 28 (0, 0)) := by rw [k1.block _ (by have := HS.out; omega)]; exact HG1.out
  have B3 := Lib.hid (HB.out.trans (k1.mono (by have := HS.out; omega)))
  have S3 := Lib.hid (show w.heap.size + 1 < w1.heap.size from blk_lt h1)
  obtain ⟨c0, c1, c2, c3, c4, c5, cf⟩ := six h0
  have H1 := Lib.hid h1
  clear h0 h1 k1
  go_wp2_with fail
  (with_reducible refine (HIMM.out.run _).mono ?_)
  rintro e w2 ⟨rfl, k2⟩
  have h2 : w2.heap[w.heap.size + 1]? = some (.cells #[.int .i64 0, .int .i64 0, .int .i64 0, .int .i64 0, .int .i64 0, .int .i64 0] 28 (0, 0)) := by rw [k2.block _ S3.out]; exact H1.out
  have B4 := B3.out.trans (k2.mono (by have := S3.out; omega))
  have FIN := Lib.hid (six_end (c0 := .int .i64 23) (c1 := .int .i64 d1) (c2 := .int .i64 d3) (c3 := .int .i64 0) (c4 := .int .i64 im) (c5 := .int .i64 0) h2 B4 (by omega))
  clear c0 c1 c2 c3 c4 c5 cf k2 B4
  obtain ⟨c0, c1, c2, c3, c4, c5, cf⟩ := six h2
  clear h2
  go_wp2
  obtain ⟨E1, E2⟩ := FIN.out
  clear c0 c1 c2 c3 c4 c5 cf
  generalize (((((w2.setCell ⟨w.heap.size + 1, 0, none⟩ (.int .i64 23)).setCell ⟨w.heap.size + 1, 1, none⟩ (.int .i64 d1)).setCell ⟨w.heap.size + 1, 2, none⟩ (.int .i64 d3)).setCell ⟨w.heap.size + 1, 3, none⟩ (.int .i64 0)).setCell ⟨w.heap.size + 1, 4, none⟩ (.int .i64 im)).setCell ⟨w.heap.size + 1, 5, none⟩ (.int .i64 0) = W9 at *
  obtain ⟨q0, q1, q2, q3, q4, q5, _⟩ := six E1
  refine bodyPost_ret (v := .tuple #[.agg #[.int .i64 23, .int .i64 d1, .int .i64 d3, .int .i64 0, .int .i64 im, .int .i64 0], .bool true]) (by simp [results, Tryz.results175, asAddr, loadVar, isAgg, loadCells, Tryz.underlying28, go_sem, q0, q1, q2, q3, q4, q5, Result.andThen]) rfl ?_
  exact ⟨rfl, E2⟩
set_option maxHeartbeats 1000000 in
theorem reck_w3 (x d1 d3 d4 d5 im : Int) (q : Int) (hq : q = 19)
    (hop : Gives Tryz.prog 172 #[.int .u32 x] (.int .i64 q))
    (himm : Gives Tryz.prog 174 #[.agg #[.int .u32 x, .int .i64 d1, .int .i64 3, .int .i64 d3, .int .i64 d4, .int .i64 d5], .int .i64 24] (.agg #[.int .i64 24, .int .i64 d1, .int .i64 d3, .int .i64 0, .int .i64 im, .int .i64 0])) :
    Gives Tryz.prog 175 #[.agg #[.int .u32 x, .int .i64 d1, .int .i64 3, .int .i64 d3, .int .i64 d4, .int .i64 d5]] (.tuple #[.agg #[.int .i64 24, .int .i64 d1, .int .i64 d3, .int .i64 0, .int .i64 im, .int .i64 0], .bool true]) := by
  subst hq
  intro w
  obtain ⟨W1, hW1⟩ : ∃ W1, W1 = w.alloc (.cells #[.int .u32 x, .int .i64 d1, .int .i64 3, .int .i64 d3, .int .i64 d4, .int .i64 d5] 220) := ⟨_, rfl⟩
  have s1 : W1.heap.size = w.heap.size + 1 := by rw [hW1]; simp
  have g0 : W1.heap[w.heap.size]? = some (.cells #[.int .u32 x, .int .i64 d1, .int .i64 3, .int .i64 d3, .int .i64 d4, .int .i64 d5] 220 (0, 0)) := by rw [hW1]; exact (MapKept.heap_alloc _ _).1
  have b0 : Below w.heap.size w W1 := by rw [hW1]; exact (Below.refl w.heap.size w).alloc (Nat.le_refl _) _
  obtain ⟨W2, hW2⟩ : ∃ W2, W2 = W1.alloc (.cells #[.int .i64 0, .int .i64 0, .int .i64 0, .int .i64 0, .int .i64 0, .int .i64 0] 28) := ⟨_, rfl⟩
  have s2 : W2.heap.size = w.heap.size + 1 + 1 := by rw [hW2]; simp [s1]
  have b1 : Below W1.heap.size W1 W2 := by rw [hW2]; exact (Below.refl W1.heap.size W1).alloc (Nat.le_refl _) _
  have g1 : W2.heap[w.heap.size + 1]? = some (.cells #[.int .i64 0, .int .i64 0, .int .i64 0, .int .i64 0, .int .i64 0, .int .i64 0] 28 (0, 0)) := by rw [hW2, ← s1]; exact (MapKept.heap_alloc _ _).1
  have g0' : W2.heap[w.heap.size]? = some (.cells #[.int .u32 x, .int .i64 d1, .int .i64 3, .int .i64 d3, .int .i64 d4, .int .i64 d5] 220 (0, 0)) := by rw [b1.block _ (by omega)]; exact g0
  have B2 : Below w.heap.size w W2 := b0.trans (b1.mono (by omega))
  have ia : ∀ W : World, (Instr.index 289 (.agg #[.int .i64 22, .int .i64 28, .int .i64 23, .int .i64 24, .int .i64 25, .int .i64 29, .int .i64 26, .int .i64 27]) (.int .i64 3)).run Tryz.prog W = .ok (.int .i64 24) W := fun W => by kernel_rfl
  have ib : ∀ W : World, (Instr.index 289 (.agg #[.int .i64 31, .int .i64 32, .int .i64 0, .int .i64 0, .int .i64 0, .int .i64 33, .int .i64 0, .int .i64 0]) (.int .i64 3)).run Tryz.prog W = .ok (.int .i64 0) W := fun W => by kernel_rfl
  have HOP := Lib.hid hop
  have HIMM := Lib.hid himm
  have HS := Lib.hid s2
  have HB := Lib.hid B2
  have HG0 := Lib.hid g0'
  have HG1 := Lib.hid g1
  have HW := Lib.hid (hW2.trans (by rw [hW1]))
  clear hop himm s1 s2 g0 g0' g1 b0 b1 B2 hW1 hW2
  go_enter Tryz.func175, Tryz.ntmps175
  go_wp2_with fail
  rw [← HW.out]
  (with_reducible refine (HOP.out.run _).mono ?_)
  rintro e w1 ⟨rfl, k1⟩
  have h0 : w1.heap[w.heap.size]? = some (.cells #[.int .u32 x, .int .i64 d1, .int .i64 3, .int .i64 d3, .int .i64 d4, .int .i64 d5] 220 (0, 0)) := by rw [k1.block _ (by have := HS.out; omega)]; exact HG0.out
  have h1 : w1.heap[w.heap.size + 1]? = some (.cells #[.int .i64 0, .int .i64 0, .int .i64 0, .int .i64 0, .int .i64 0, .int .i64 0] 28 (0, 0)) := by rw [k1.block _ (by have := HS.out; omega)]; exact HG1.out
  have B3 := Lib.hid (HB.out.trans (k1.mono (by have := HS.out; omega)))
  have S3 := Lib.hid (show w.heap.size + 1 < w1.heap.size from blk_lt h1)
  obtain ⟨c0, c1, c2, c3, c4, c5, cf⟩ := six h0
  have H1 := Lib.hid h1
  clear h0 h1 k1
  go_wp2_with fail
  (with_reducible refine (HIMM.out.run _).mono ?_)
  rintro e w2 ⟨rfl, k2⟩
  have h2 : w2.heap[w.heap.size + 1]? = some (.cells #[.int .i64 0, .int .i64 0, .int .i64 0, .int .i64 0, .int .i64 0, .int .i64 0] 28 (0, 0)) := by rw [k2.block _ S3.out]; exact H1.out
  have B4 := B3.out.trans (k2.mono (by have := S3.out; omega))
  have FIN := Lib.hid (six_end (c0 := .int .i64 24) (c1 := .int .i64 d1) (c2 := .int .i64 d3) (c3 := .int .i64 0) (c4 := .int .i64 im) (c5 := .int .i64 0) h2 B4 (by omega))
  clear c0 c1 c2 c3 c4 c5 cf k2 B4
  obtain ⟨c0, c1, c2, c3, c4, c5, cf⟩ := six h2
  clear h2
  go_wp2
  obtain ⟨E1, E2⟩ := FIN.out
  clear c0 c1 c2 c3 c4 c5 cf
  generalize (((((w2.setCell ⟨w.heap.size + 1, 0, none⟩ (.int .i64 24)).setCell ⟨w.heap.size + 1, 1, none⟩ (.int .i64 d1)).setCell ⟨w.heap.size + 1, 2, none⟩ (.int .i64 d3)).setCell ⟨w.heap.size + 1, 3, none⟩ (.int .i64 0)).setCell ⟨w.heap.size + 1, 4, none⟩ (.int .i64 im)).setCell ⟨w.heap.size + 1, 5, none⟩ (.int .i64 0) = W9 at *
  obtain ⟨q0, q1, q2, q3, q4, q5, _⟩ := six E1
  refine bodyPost_ret (v := .tuple #[.agg #[.int .i64 24, .int .i64 d1, .int .i64 d3, .int .i64 0, .int .i64 im, .int .i64 0], .bool true]) (by simp [results, Tryz.results175, asAddr, loadVar, isAgg, loadCells, Tryz.underlying28, go_sem, q0, q1, q2, q3, q4, q5, Result.andThen]) rfl ?_
  exact ⟨rfl, E2⟩
set_option maxHeartbeats 1000000 in
theorem reck_w4 (x d1 d3 d4 d5 im : Int) (q : Int) (hq : q = 19)
    (hop : Gives Tryz.prog 172 #[.int .u32 x] (.int .i64 q))
    (himm : Gives Tryz.prog 174 #[.agg #[.int .u32 x, .int .i64 d1, .int .i64 4, .int .i64 d3, .int .i64 d4, .int .i64 d5], .int .i64 25] (.agg #[.int .i64 25, .int .i64 d1, .int .i64 d3, .int .i64 0, .int .i64 im, .int .i64 0])) :
    Gives Tryz.prog 175 #[.agg #[.int .u32 x, .int .i64 d1, .int .i64 4, .int .i64 d3, .int .i64 d4, .int .i64 d5]] (.tuple #[.agg #[.int .i64 25, .int .i64 d1, .int .i64 d3, .int .i64 0, .int .i64 im, .int .i64 0], .bool true]) := by
  subst hq
  intro w
  obtain ⟨W1, hW1⟩ : ∃ W1, W1 = w.alloc (.cells #[.int .u32 x, .int .i64 d1, .int .i64 4, .int .i64 d3, .int .i64 d4, .int .i64 d5] 220) := ⟨_, rfl⟩
  have s1 : W1.heap.size = w.heap.size + 1 := by rw [hW1]; simp
  have g0 : W1.heap[w.heap.size]? = some (.cells #[.int .u32 x, .int .i64 d1, .int .i64 4, .int .i64 d3, .int .i64 d4, .int .i64 d5] 220 (0, 0)) := by rw [hW1]; exact (MapKept.heap_alloc _ _).1
  have b0 : Below w.heap.size w W1 := by rw [hW1]; exact (Below.refl w.heap.size w).alloc (Nat.le_refl _) _
  obtain ⟨W2, hW2⟩ : ∃ W2, W2 = W1.alloc (.cells #[.int .i64 0, .int .i64 0, .int .i64 0, .int .i64 0, .int .i64 0, .int .i64 0] 28) := ⟨_, rfl⟩
  have s2 : W2.heap.size = w.heap.size + 1 + 1 := by rw [hW2]; simp [s1]
  have b1 : Below W1.heap.size W1 W2 := by rw [hW2]; exact (Below.refl W1.heap.size W1).alloc (Nat.le_refl _) _
  have g1 : W2.heap[w.heap.size + 1]? = some (.cells #[.int .i64 0, .int .i64 0, .int .i64 0, .int .i64 0, .int .i64 0, .int .i64 0] 28 (0, 0)) := by rw [hW2, ← s1]; exact (MapKept.heap_alloc _ _).1
  have g0' : W2.heap[w.heap.size]? = some (.cells #[.int .u32 x, .int .i64 d1, .int .i64 4, .int .i64 d3, .int .i64 d4, .int .i64 d5] 220 (0, 0)) := by rw [b1.block _ (by omega)]; exact g0
  have B2 : Below w.heap.size w W2 := b0.trans (b1.mono (by omega))
  have ia : ∀ W : World, (Instr.index 289 (.agg #[.int .i64 22, .int .i64 28, .int .i64 23, .int .i64 24, .int .i64 25, .int .i64 29, .int .i64 26, .int .i64 27]) (.int .i64 4)).run Tryz.prog W = .ok (.int .i64 25) W := fun W => by kernel_rfl
  have ib : ∀ W : World, (Instr.index 289 (.agg #[.int .i64 31, .int .i64 32, .int .i64 0, .int .i64 0, .int .i64 0, .int .i64 33, .int .i64 0, .int .i64 0]) (.int .i64 4)).run Tryz.prog W = .ok (.int .i64 0) W := fun W => by kernel_rfl
  have HOP := Lib.hid hop
  have HIMM := Lib.hid himm
  have HS := Lib.hid s2
  have HB := Lib.hid B2
  have HG0 := Lib.hid g0'
  have HG1 := Lib.hid g1
  have HW := Lib.hid (hW2.trans (by rw [hW1]))
  clear hop himm s1 s2 g0 g0' g1 b0 b1 B2 hW1 hW2
  go_enter Tryz.func175, Tryz.ntmps175
  go_wp2_with fail
  rw [← HW.out]
  (with_reducible refine (HOP.out.run _).mono ?_)
  rintro e w1 ⟨rfl, k1⟩
  have h0 : w1.heap[w.heap.size]? = some (.cells #[.int .u32 x, .int .i64 d1, .int .i64 4, .int .i64 d3, .int .i64 d4, .int .i64 d5] 220 (0, 0)) := by rw [k1.block _ (by have := HS.out; omega)]; exact HG0.out
  have h1 : w1.heap[w.heap.size + 1]? = some (.cells #[.int .i64 0, .int .i64 0, .int .i64 0, .int .i64 0, .int .i64 0, .int .i64 0] 28 (0, 0)) := by rw [k1.block _ (by have := HS.out; omega)]; exact HG1.out
  have B3 := Lib.hid (HB.out.trans (k1.mono (by have := HS.out; omega)))
  have S3 := Lib.hid (show w.heap.size + 1 < w1.heap.size from blk_lt h1)
  obtain ⟨c0, c1, c2, c3, c4, c5, cf⟩ := six h0
  have H1 := Lib.hid h1
  clear h0 h1 k1
  go_wp2_with fail
  (with_reducible refine (HIMM.out.run _).mono ?_)
  rintro e w2 ⟨rfl, k2⟩
  have h2 : w2.heap[w.heap.size + 1]? = some (.cells #[.int .i64 0, .int .i64 0, .int .i64 0, .int .i64 0, .int .i64 0, .int .i64 0] 28 (0, 0)) := by rw [k2.block _ S3.out]; exact H1.out
  have B4 := B3.out.trans (k2.mono (by have := S3.out; omega))
  have FIN := Lib.hid (six_end (c0 := .int .i64 25) (c1 := .int .i64 d1) (c2 := .int .i64 d3) (c3 := .int .i64 0) (c4 := .int .i64 im) (c5 := .int .i64 0) h2 B4 (by omega))
  clear c0 c1 c2 c3 c4 c5 cf k2 B4
  obtain ⟨c0, c1, c2, c3, c4, c5, cf⟩ := six h2
  clear h2
  go_wp2
  obtain ⟨E1, E2⟩ := FIN.out
  clear c0 c1 c2 c3 c4 c5 cf
  generalize (((((w2.setCell ⟨w.heap.size + 1, 0, none⟩ (.int .i64 25)).setCell ⟨w.heap.size + 1, 1, none⟩ (.int .i64 d1)).setCell ⟨w.heap.size + 1, 2, none⟩ (.int .i64 d3)).setCell ⟨w.heap.size + 1, 3, none⟩ (.int .i64 0)).setCell ⟨w.heap.size + 1, 4, none⟩ (.int .i64 im)).setCell ⟨w.heap.size + 1, 5, none⟩ (.int .i64 0) = W9 at *
  obtain ⟨q0, q1, q2, q3, q4, q5, _⟩ := six E1
  refine bodyPost_ret (v := .tuple #[.agg #[.int .i64 25, .int .i64 d1, .int .i64 d3, .int .i64 0, .int .i64 im, .int .i64 0], .bool true]) (by simp [results, Tryz.results175, asAddr, loadVar, isAgg, loadCells, Tryz.underlying28, go_sem, q0, q1, q2, q3, q4, q5, Result.andThen]) rfl ?_
  exact ⟨rfl, E2⟩
set_option maxHeartbeats 1000000 in
theorem reck_w6 (x d1 d3 d4 d5 im : Int) (q : Int) (hq : q = 19)
    (hop : Gives Tryz.prog 172 #[.int .u32 x] (.int .i64 q))
    (himm : Gives Tryz.prog 174 #[.agg #[.int .u32 x, .int .i64 d1, .int .i64 6, .int .i64 d3, .int .i64 d4, .int .i64 d5], .int .i64 26] (.agg #[.int .i64 26, .int .i64 d1, .int .i64 d3, .int .i64 0, .int .i64 im, .int .i64 0])) :
    Gives Tryz.prog 175 #[.agg #[.int .u32 x, .int .i64 d1, .int .i64 6, .int .i64 d3, .int .i64 d4, .int .i64 d5]] (.tuple #[.agg #[.int .i64 26, .int .i64 d1, .int .i64 d3, .int .i64 0, .int .i64 im, .int .i64 0], .bool true]) := by
  subst hq
  intro w
  obtain ⟨W1, hW1⟩ : ∃ W1, W1 = w.alloc (.cells #[.int .u32 x, .int .i64 d1, .int .i64 6, .int .i64 d3, .int .i64 d4, .int .i64 d5] 220) := ⟨_, rfl⟩
  have s1 : W1.heap.size = w.heap.size + 1 := by rw [hW1]; simp
  have g0 : W1.heap[w.heap.size]? = some (.cells #[.int .u32 x, .int .i64 d1, .int .i64 6, .int .i64 d3, .int .i64 d4, .int .i64 d5] 220 (0, 0)) := by rw [hW1]; exact (MapKept.heap_alloc _ _).1
  have b0 : Below w.heap.size w W1 := by rw [hW1]; exact (Below.refl w.heap.size w).alloc (Nat.le_refl _) _
  obtain ⟨W2, hW2⟩ : ∃ W2, W2 = W1.alloc (.cells #[.int .i64 0, .int .i64 0, .int .i64 0, .int .i64 0, .int .i64 0, .int .i64 0] 28) := ⟨_, rfl⟩
  have s2 : W2.heap.size = w.heap.size + 1 + 1 := by rw [hW2]; simp [s1]
  have b1 : Below W1.heap.size W1 W2 := by rw [hW2]; exact (Below.refl W1.heap.size W1).alloc (Nat.le_refl _) _
  have g1 : W2.heap[w.heap.size + 1]? = some (.cells #[.int .i64 0, .int .i64 0, .int .i64 0, .int .i64 0, .int .i64 0, .int .i64 0] 28 (0, 0)) := by rw [hW2, ← s1]; exact (MapKept.heap_alloc _ _).1
  have g0' : W2.heap[w.heap.size]? = some (.cells #[.int .u32 x, .int .i64 d1, .int .i64 6, .int .i64 d3, .int .i64 d4, .int .i64 d5] 220 (0, 0)) := by rw [b1.block _ (by omega)]; exact g0
  have B2 : Below w.heap.size w W2 := b0.trans (b1.mono (by omega))
  have ia : ∀ W : World, (Instr.index 289 (.agg #[.int .i64 22, .int .i64 28, .int .i64 23, .int .i64 24, .int .i64 25, .int .i64 29, .int .i64 26, .int .i64 27]) (.int .i64 6)).run Tryz.prog W = .ok (.int .i64 26) W := fun W => by kernel_rfl
  have ib : ∀ W : World, (Instr.index 289 (.agg #[.int .i64 31, .int .i64 32, .int .i64 0, .int .i64 0, .int .i64 0, .int .i64 33, .int .i64 0, .int .i64 0]) (.int .i64 6)).run Tryz.prog W = .ok (.int .i64 0) W := fun W => by kernel_rfl
  have HOP := Lib.hid hop
  have HIMM := Lib.hid himm
  have HS := Lib.hid s2
  have HB := Lib.hid B2
  have HG0 := Lib.hid g0'
  have HG1 := Lib.hid g1
  have HW := Lib.hid (hW2.trans (by rw [hW1]))
  clear hop himm s1 s2 g0 g0' g1 b0 b1 B2 hW1 hW2
  go_enter Tryz.func175, Tryz.ntmps175
  go_wp2_with fail
  rw [← HW.out]
  (with_reducible refine (HOP.out.run _).mono ?_)
  rintro e w1 ⟨rfl, k1⟩
  have h0 : w1.heap[w.heap.size]? = some (.cells #[.int .u32 x, .int .i64 d1, .int .i64 6, .int .i64 d3, .int .i64 d4, .int .i64 d5] 220 (0, 0)) := by rw [k1.block _ (by have := HS.out; omega)]; exact HG0.out
  have h1 : w1.heap[w.heap.size + 1]? = some (.cells #[.int .i64 0, .int .i64 0, .int .i64 0, .int .i64 0, .int .i64 0, .int .i64 0] 28 (0, 0)) := by rw [k1.block _ (by have := HS.out; omega)]; exact HG1.out
  have B3 := Lib.hid (HB.out.trans (k1.mono (by have := HS.out; omega)))
  have S3 := Lib.hid (show w.heap.size + 1 < w1.heap.size from blk_lt h1)
  obtain ⟨c0, c1, c2, c3, c4, c5, cf⟩ := six h0
  have H1 := Lib.hid h1
  clear h0 h1 k1
  go_wp2_with fail
  (with_reducible refine (HIMM.out.run _).mono ?_)
  rintro e w2 ⟨rfl, k2⟩
  have h2 : w2.heap[w.heap.size + 1]? = some (.cells #[.int .i64 0, .int .i64 0, .int .i64 0, .int .i64 0, .int .i64 0, .int .i64 0] 28 (0, 0)) := by rw [k2.block _ S3.out]; exact H1.out
  have B4 := B3.out.trans (k2.mono (by have := S3.out; omega))
  have FIN := Lib.hid (six_end (c0 := .int .i64 26) (c1 := .int .i64 d1) (c2 := .int .i64 d3) (c3 := .int .i64 0) (c4 := .int .i64 im) (c5 := .int .i64 0) h2 B4 (by omega))
  clear c0 c1 c2 c3 c4 c5 cf k2 B4
  obtain ⟨c0, c1, c2, c3, c4, c5, cf⟩ := six h2
  clear h2
  go_wp2
  obtain ⟨E1, E2⟩ := FIN.out
  clear c0 c1 c2 c3 c4 c5 cf
  generalize (((((w2.setCell ⟨w.heap.size + 1, 0, none⟩ (.int .i64 26)).setCell ⟨w.heap.size + 1, 1, none⟩ (.int .i64 d1)).setCell ⟨w.heap.size + 1, 2, none⟩ (.int .i64 d3)).setCell ⟨w.heap.size + 1, 3, none⟩ (.int .i64 0)).setCell ⟨w.heap.size + 1, 4, none⟩ (.int .i64 im)).setCell ⟨w.heap.size + 1, 5, none⟩ (.int .i64 0) = W9 at *
  obtain ⟨q0, q1, q2, q3, q4, q5, _⟩ := six E1
  refine bodyPost_ret (v := .tuple #[.agg #[.int .i64 26, .int .i64 d1, .int .i64 d3, .int .i64 0, .int .i64 im, .int .i64 0], .bool true]) (by simp [results, Tryz.results175, asAddr, loadVar, isAgg, loadCells, Tryz.underlying28, go_sem, q0, q1, q2, q3, q4, q5, Result.andThen]) rfl ?_
  exact ⟨rfl, E2⟩
set_option maxHeartbeats 1000000 in
theorem reck_w7 (x d1 d3 d4 d5 im : Int) (q : Int) (hq : q = 19)
    (hop : Gives Tryz.prog 172 #[.int .u32 x] (.int .i64 q))
    (himm : Gives Tryz.prog 174 #[.agg #[.int .u32 x, .int .i64 d1, .int .i64 7, .int .i64 d3, .int .i64 d4, .int .i64 d5], .int .i64 27] (.agg #[.int .i64 27, .int .i64 d1, .int .i64 d3, .int .i64 0, .int .i64 im, .int .i64 0])) :
    Gives Tryz.prog 175 #[.agg #[.int .u32 x, .int .i64 d1, .int .i64 7, .int .i64 d3, .int .i64 d4, .int .i64 d5]] (.tuple #[.agg #[.int .i64 27, .int .i64 d1, .int .i64 d3, .int .i64 0, .int .i64 im, .int .i64 0], .bool true]) := by
  subst hq
  intro w
  obtain ⟨W1, hW1⟩ : ∃ W1, W1 = w.alloc (.cells #[.int .u32 x, .int .i64 d1, .int .i64 7, .int .i64 d3, .int .i64 d4, .int .i64 d5] 220) := ⟨_, rfl⟩
  have s1 : W1.heap.size = w.heap.size + 1 := by rw [hW1]; simp
  have g0 : W1.heap[w.heap.size]? = some (.cells #[.int .u32 x, .int .i64 d1, .int .i64 7, .int .i64 d3, .int .i64 d4, .int .i64 d5] 220 (0, 0)) := by rw [hW1]; exact (MapKept.heap_alloc _ _).1
  have b0 : Below w.heap.size w W1 := by rw [hW1]; exact (Below.refl w.heap.size w).alloc (Nat.le_refl _) _
  obtain ⟨W2, hW2⟩ : ∃ W2, W2 = W1.alloc (.cells #[.int .i64 0, .int .i64 0, .int .i64 0, .int .i64 0, .int .i64 0, .int .i64 0] 28) := ⟨_, rfl⟩
  have s2 : W2.heap.size = w.heap.size + 1 + 1 := by rw [hW2]; simp [s1]
  have b1 : Below W1.heap.size W1 W2 := by rw [hW2]; exact (Below.refl W1.heap.size W1).alloc (Nat.le_refl _) _
  have g1 : W2.heap[w.heap.size + 1]? = some (.cells #[.int .i64 0, .int .i64 0, .int .i64 0, .int .i64 0, .int .i64 0, .int .i64 0] 28 (0, 0)) := by rw [hW2, ← s1]; exact (MapKept.heap_alloc _ _).1
  have g0' : W2.heap[w.heap.size]? = some (.cells #[.int .u32 x, .int .i64 d1, .int .i64 7, .int .i64 d3, .int .i64 d4, .int .i64 d5] 220 (0, 0)) := by rw [b1.block _ (by omega)]; exact g0
  have B2 : Below w.heap.size w W2 := b0.trans (b1.mono (by omega))
  have ia : ∀ W : World, (Instr.index 289 (.agg #[.int .i64 22, .int .i64 28, .int .i64 23, .int .i64 24, .int .i64 25, .int .i64 29, .int .i64 26, .int .i64 27]) (.int .i64 7)).run Tryz.prog W = .ok (.int .i64 27) W := fun W => by kernel_rfl
  have ib : ∀ W : World, (Instr.index 289 (.agg #[.int .i64 31, .int .i64 32, .int .i64 0, .int .i64 0, .int .i64 0, .int .i64 33, .int .i64 0, .int .i64 0]) (.int .i64 7)).run Tryz.prog W = .ok (.int .i64 0) W := fun W => by kernel_rfl
  have HOP := Lib.hid hop
  have HIMM := Lib.hid himm
  have HS := Lib.hid s2
  have HB := Lib.hid B2
  have HG0 := Lib.hid g0'
  have HG1 := Lib.hid g1
  have HW := Lib.hid (hW2.trans (by rw [hW1]))
  clear hop himm s1 s2 g0 g0' g1 b0 b1 B2 hW1 hW2
  go_enter Tryz.func175, Tryz.ntmps175
  go_wp2_with fail
  rw [← HW.out]
  (with_reducible refine (HOP.out.run _).mono ?_)
  rintro e w1 ⟨rfl, k1⟩
  have h0 : w1.heap[w.heap.size]? = some (.cells #[.int .u32 x, .int .i64 d1, .int .i64 7, .int .i64 d3, .int .i64 d4, .int .i64 d5] 220 (0, 0)) := by rw [k1.block _ (by have := HS.out; omega)]; exact HG0.out
  have h1 : w1.heap[w.heap.size + 1]? = some (.cells #[.int .i64 0, .int .i64 0, .int .i64 0, .int .i64 0, .int .i64 0, .int .i64 0] 28 (0, 0)) := by rw [k1.block _ (by have := HS.out; omega)]; exact HG1.out
  have B3 := Lib.hid (HB.out.trans (k1.mono (by have := HS.out; omega)))
  have S3 := Lib.hid (show w.heap.size + 1 < w1.heap.size from blk_lt h1)
  obtain ⟨c0, c1, c2, c3, c4, c5, cf⟩ := six h0
  have H1 := Lib.hid h1
  clear h0 h1 k1
  go_wp2_with fail
  (with_reducible refine (HIMM.out.run _).mono ?_)
  rintro e w2 ⟨rfl, k2⟩
  have h2 : w2.heap[w.heap.size + 1]? = some (.cells #[.int .i64 0, .int .i64 0, .int .i64 0, .int .i64 0, .int .i64 0, .int .i64 0] 28 (0, 0)) := by rw [k2.block _ S3.out]; exact H1.out
  have B4 := B3.out.trans (k2.mono (by have := S3.out; omega))
  have FIN := Lib.hid (six_end (c0 := .int .i64 27) (c1 := .int .i64 d1) (c2 := .int .i64 d3) (c3 := .int .i64 0) (c4 := .int .i64 im) (c5 := .int .i64 0) h2 B4 (by omega))
  clear c0 c1 c2 c3 c4 c5 cf k2 B4
  obtain ⟨c0, c1, c2, c3, c4, c5, cf⟩ := six h2
  clear h2
  go_wp2
  obtain ⟨E1, E2⟩ := FIN.out
  clear c0 c1 c2 c3 c4 c5 cf
  generalize (((((w2.setCell ⟨w.heap.size + 1, 0, none⟩ (.int .i64 27)).setCell ⟨w.heap.size + 1, 1, none⟩ (.int .i64 d1)).setCell ⟨w.heap.size + 1, 2, none⟩ (.int .i64 d3)).setCell ⟨w.heap.size + 1, 3, none⟩ (.int .i64 0)).setCell ⟨w.heap.size + 1, 4, none⟩ (.int .i64 im)).setCell ⟨w.heap.size + 1, 5, none⟩ (.int .i64 0) = W9 at *
  obtain ⟨q0, q1, q2, q3, q4, q5, _⟩ := six E1
  refine bodyPost_ret (v := .tuple #[.agg #[.int .i64 27, .int .i64 d1, .int .i64 d3, .int .i64 0, .int .i64 im, .int .i64 0], .bool true]) (by simp [results, Tryz.results175, asAddr, loadVar, isAgg, loadCells, Tryz.underlying28, go_sem, q0, q1, q2, q3, q4, q5, Result.andThen]) rfl ?_
  exact ⟨rfl, E2⟩
set_option maxHeartbeats 1000000 in
theorem reck_n0 (x d1 d3 d4 d5 im : Int) (q : Int) (hq : (q == 19) = false)
    (hop : Gives Tryz.prog 172 #[.int .u32 x] (.int .i64 q))
    (himm : Gives Tryz.prog 174 #[.agg #[.int .u32 x, .int .i64 d1, .int .i64 0, .int .i64 d3, .int .i64 d4, .int .i64 d5], .int .i64 31] (.agg #[.int .i64 31, .int .i64 d1, .int .i64 d3, .int .i64 0, .int .i64 im, .int .i64 0])) :
    Gives Tryz.prog 175 #[.agg #[.int .u32 x, .int .i64 d1, .int .i64 0, .int .i64 d3, .int .i64 d4, .int .i64 d5]] (.tuple #[.agg #[.int .i64 31, .int .i64 d1, .int .i64 d3, .int .i64 0, .int .i64 im, .int .i64 0], .bool true]) := by
  skip
  intro w
  obtain ⟨W1, hW1⟩ : ∃ W1, W1 = w.alloc (.cells #[.int .u32 x, .int .i64 d1, .int .i64 0, .int .i64 d3, .int .i64 d4, .int .i64 d5] 220) := ⟨_, rfl⟩
  have s1 : W1.heap.size = w.heap.size + 1 := by rw [hW1]; simp
  have g0 : W1.heap[w.heap.size]? = some (.cells #[.int .u32 x, .int .i64 d1, .int .i64 0, .int .i64 d3, .int .i64 d4, .int .i64 d5] 220 (0, 0)) := by rw [hW1]; exact (MapKept.heap_alloc _ _).1
  have b0 : Below w.heap.size w W1 := by rw [hW1]; exact (Below.refl w.heap.size w).alloc (Nat.le_refl _) _
  obtain ⟨W2, hW2⟩ : ∃ W2, W2 = W1.alloc (.cells #[.int .i64 0, .int .i64 0, .int .i64 0, .int .i64 0, .int .i64 0, .int .i64 0] 28) := ⟨_, rfl⟩
  have s2 : W2.heap.size = w.heap.size + 1 + 1 := by rw [hW2]; simp [s1]
  have b1 : Below W1.heap.size W1 W2 := by rw [hW2]; exact (Below.refl W1.heap.size W1).alloc (Nat.le_refl _) _
  have g1 : W2.heap[w.heap.size + 1]? = some (.cells #[.int .i64 0, .int .i64 0, .int .i64 0, .int .i64 0, .int .i64 0, .int .i64 0] 28 (0, 0)) := by rw [hW2, ← s1]; exact (MapKept.heap_alloc _ _).1
  have g0' : W2.heap[w.heap.size]? = some (.cells #[.int .u32 x, .int .i64 d1, .int .i64 0, .int .i64 d3, .int .i64 d4, .int .i64 d5] 220 (0, 0)) := by rw [b1.block _ (by omega)]; exact g0
  have B2 : Below w.heap.size w W2 := b0.trans (b1.mono (by omega))
  have ia : ∀ W : World, (Instr.index 289 (.agg #[.int .i64 22, .int .i64 28, .int .i64 23, .int .i64 24, .int .i64 25, .int .i64 29, .int .i64 26, .int .i64 27]) (.int .i64 0)).run Tryz.prog W = .ok (.int .i64 22) W := fun W => by kernel_rfl
  have ib : ∀ W : World, (Instr.index 289 (.agg #[.int .i64 31, .int .i64 32, .int .i64 0, .int .i64 0, .int .i64 0, .int .i64 33, .int .i64 0, .int .i64 0]) (.int .i64 0)).run Tryz.prog W = .ok (.int .i64 31) W := fun W => by kernel_rfl
  have HOP := Lib.hid hop
  have HIMM := Lib.hid himm
  have HS := Lib.hid s2
  have HB := Lib.hid B2
  have HG0 := Lib.hid g0'
  have HG1 := Lib.hid g1
  have HW := Lib.hid (hW2.trans (by rw [hW1]))
  clear hop himm s1 s2 g0 g0' g1 b0 b1 B2 hW1 hW2
  go_enter Tryz.func175, Tryz.ntmps175
  go_wp2_with fail
  rw [← HW.out]
  (with_reducible refine (HOP.out.run _).mono ?_)
  rintro e w1 ⟨rfl, k1⟩
  have h0 : w1.heap[w.heap.size]? = some (.cells #[.int .u32 x, .int .i64 d1, .int .i64 0, .int .i64 d3, .int .i64 d4, .int .i64 d5] 220 (0, 0)) := by rw [k1.block _ (by have := HS.out; omega)]; exact HG0.out
  have h1 : w1.heap[w.heap.size + 1]? = some (.cells #[.int .i64 0, .int .i64 0, .int .i64 0, .int .i64 0, .int .i64 0, .int .i64 0] 28 (0, 0)) := by rw [k1.block _ (by have := HS.out; omega)]; exact HG1.out
  have B3 := Lib.hid (HB.out.trans (k1.mono (by have := HS.out; omega)))
  have S3 := Lib.hid (show w.heap.size + 1 < w1.heap.size from blk_lt h1)
  obtain ⟨c0, c1, c2, c3, c4, c5, cf⟩ := six h0
  have H1 := Lib.hid h1
  clear h0 h1 k1
  go_wp2_with fail
  (with_reducible refine (HIMM.out.run _).mono ?_)
  rintro e w2 ⟨rfl, k2⟩
  have h2 : w2.heap[w.heap.size + 1]? = some (.cells #[.int .i64 0, .int .i64 0, .int .i64 0, .int .i64 0, .int .i64 0, .int .i64 0] 28 (0, 0)) := by rw [k2.block _ S3.out]; exact H1.out
  have B4 := B3.out.trans (k2.mono (by have := S3.out; omega))
  have FIN := Lib.hid (six_end (c0 := .int .i64 31) (c1 := .int .i64 d1) (c2 := .int .i64 d3) (c3 := .int .i64 0) (c4 := .int .i64 im) (c5 := .int .i64 0) h2 B4 (by omega))
  clear c0 c1 c2 c3 c4 c5 cf k2 B4
  obtain ⟨c0, c1, c2, c3, c4, c5, cf⟩ := six h2
  clear h2
  go_wp2
  obtain ⟨E1, E2⟩ := FIN.out
  clear c0 c1 c2 c3 c4 c5 cf
  generalize (((((w2.setCell ⟨w.heap.size + 1, 0, none⟩ (.int .i64 31)).setCell ⟨w.heap.size + 1, 1, none⟩ (.int .i64 d1)).setCell ⟨w.heap.size + 1, 2, none⟩ (.int .i64 d3)).setCell ⟨w.heap.size + 1, 3, none⟩ (.int .i64 0)).setCell ⟨w.heap.size + 1, 4, none⟩ (.int .i64 im)).setCell ⟨w.heap.size + 1, 5, none⟩ (.int .i64 0) = W9 at *
  obtain ⟨q0, q1, q2, q3, q4, q5, _⟩ := six E1
  refine bodyPost_ret (v := .tuple #[.agg #[.int .i64 31, .int .i64 d1, .int .i64 d3, .int .i64 0, .int .i64 im, .int .i64 0], .bool true]) (by simp [results, Tryz.results175, asAddr, loadVar, isAgg, loadCells, Tryz.underlying28, go_sem, q0, q1, q2, q3, q4, q5, Result.andThen]) rfl ?_
  exact ⟨rfl, E2⟩
set_option maxHeartbeats 1000000 in
theorem reck_n2 (x d1 d3 d4 d5 im : Int) (q : Int) (hq : (q == 19) = false)
    (hop : Gives Tryz.prog 172 #[.int .u32 x] (.int .i64 q))
    (himm : Gives Tryz.prog 174 #[.agg #[.int .u32 x, .int .i64 d1, .int .i64 2, .int .i64 d3, .int .i64 d4, .int .i64 d5], .int .i64 0] (.agg #[.int .i64 0, .int .i64 d1, .int .i64 d3, .int .i64 0, .int .i64 im, .int .i64 0])) :
    Gives Tryz.prog 175 #[.agg #[.int .u32 x, .int .i64 d1, .int .i64 2, .int .i64 d3, .int .i64 d4, .int .i64 d5]] (.tuple #[.agg #[.int .i64 0, .int .i64 d1, .int .i64 d3, .int .i64 0, .int .i64 im, .int .i64 0], .bool false]) := by
  skip
  intro w
  obtain ⟨W1, hW1⟩ : ∃ W1, W1 = w.alloc (.cells #[.int .u32 x, .int .i64 d1, .int .i64 2, .int .i64 d3, .int .i64 d4, .int .i64 d5] 220) := ⟨_, rfl⟩
  have s1 : W1.heap.size = w.heap.size + 1 := by rw [hW1]; simp
  have g0 : W1.heap[w.heap.size]? = some (.cells #[.int .u32 x, .int .i64 d1, .int .i64 2, .int .i64 d3, .int .i64 d4, .int .i64 d5] 220 (0, 0)) := by rw [hW1]; exact (MapKept.heap_alloc _ _).1
  have b0 : Below w.heap.size w W1 := by rw [hW1]; exact (Below.refl w.heap.size w).alloc (Nat.le_refl _) _
  obtain ⟨W2, hW2⟩ : ∃ W2, W2 = W1.alloc (.cells #[.int .i64 0, .int .i64 0, .int .i64 0, .int .i64 0, .int .i64 0, .int .i64 0] 28) := ⟨_, rfl⟩
  have s2 : W2.heap.size = w.heap.size + 1 + 1 := by rw [hW2]; simp [s1]
  have b1 : Below W1.heap.size W1 W2 := by rw [hW2]; exact (Below.refl W1.heap.size W1).alloc (Nat.le_refl _) _
  have g1 : W2.heap[w.heap.size + 1]? = some (.cells #[.int .i64 0, .int .i64 0, .int .i64 0, .int .i64 0, .int .i64 0, .int .i64 0] 28 (0, 0)) := by rw [hW2, ← s1]; exact (MapKept.heap_alloc _ _).1
  have g0' : W2.heap[w.heap.size]? = some (.cells #[.int .u32 x, .int .i64 d1, .int .i64 2, .int .i64 d3, .int .i64 d4, .int .i64 d5] 220 (0, 0)) := by rw [b1.block _ (by omega)]; exact g0
  have B2 : Below w.heap.size w W2 := b0.trans (b1.mono (by omega))
  have ia : ∀ W : World, (Instr.index 289 (.agg #[.int .i64 22, .int .i64 28, .int .i64 23, .int .i64 24, .int .i64 25, .int .i64 29, .int .i64 26, .int .i64 27]) (.int .i64 2)).run Tryz.prog W = .ok (.int .i64 23) W := fun W => by kernel_rfl
  have ib : ∀ W : World, (Instr.index 289 (.agg #[.int .i64 31, .int .i64 32, .int .i64 0, .int .i64 0, .int .i64 0, .int .i64 33, .int .i64 0, .int .i64 0]) (.int .i64 2)).run Tryz.prog W = .ok (.int .i64 0) W := fun W => by kernel_rfl
  have HOP := Lib.hid hop
  have HIMM := Lib.hid himm
  have HS := Lib.hid s2
  have HB := Lib.hid B2
  have HG0 := Lib.hid g0'
  have HG1 := Lib.hid g1
  have HW := Lib.hid (hW2.trans (by rw [hW1]))
  clear hop himm s1 s2 g0 g0' g1 b0 b1 B2 hW1 hW2
  go_enter Tryz.func175, Tryz.ntmps175
  go_wp2_with fail
  rw [← HW.out]
  (with_reducible refine (HOP.out.run _).mono ?_)
  rintro e w1 ⟨rfl, k1⟩
  have h0 : w1.heap[w.heap.size]? = some (.cells #[.int .u32 x, .int .i64 d1, .int .i64 2, .int .i64 d3, .int .i64 d4, .int .i64 d5] 220 (0, 0)) := by rw [k1.block _ (by have := HS.out; omega)]; exact HG0.out
  have h1 : w1.heap[w.heap.size + 1]? = some (.cells #[.int .i64 0, .int .i64 0, .int .i64 0, .int .i64 0, .int .i64 0, .int .i64 0] 28 (0, 0)) := by rw [k1.block _ (by have := HS.out; omega)]; exact HG1.out
  have B3 := Lib.hid (HB.out.trans (k1.mono (by have := HS.out; omega)))
  have S3 := Lib.hid (show w.heap.size + 1 < w1.heap.size from blk_lt h1)
  obtain ⟨c0, c1, c2, c3, c4, c5, cf⟩ := six h0
  have H1 := Lib.hid h1
  clear h0 h1 k1
  go_wp2_with fail
  (with_reducible refine (HIMM.out.run _).mono ?_)
  rintro e w2 ⟨rfl, k2⟩
  have h2 : w2.heap[w.heap.size + 1]? = some (.cells #[.int .i64 0, .int .i64 0, .int .i64 0, .int .i64 0, .int .i64 0, .int .i64 0] 28 (0, 0)) := by rw [k2.block _ S3.out]; exact H1.out
  have B4 := B3.out.trans (k2.mono (by have := S3.out; omega))
  have FIN := Lib.hid (six_end (c0 := .int .i64 0) (c1 := .int .i64 d1) (c2 := .int .i64 d3) (c3 := .int .i64 0) (c4 := .int .i64 im) (c5 := .int .i64 0) h2 B4 (by omega))
  clear c0 c1 c2 c3 c4 c5 cf k2 B4
  obtain ⟨c0, c1, c2, c3, c4, c5, cf⟩ := six h2
  clear h2
  go_wp2
  obtain ⟨E1, E2⟩ := FIN.out
  clear c0 c1 c2 c3 c4 c5 cf
  generalize (((((w2.setCell ⟨w.heap.size + 1, 0, none⟩ (.int .i64 0)).setCell ⟨w.heap.size + 1, 1, none⟩ (.int .i64 d1)).setCell ⟨w.heap.size + 1, 2, none⟩ (.int .i64 d3)).setCell ⟨w.heap.size + 1, 3, none⟩ (.int .i64 0)).setCell ⟨w.heap.size + 1, 4, none⟩ (.int .i64 im)).setCell ⟨w.heap.size + 1, 5, none⟩ (.int .i64 0) = W9 at *
  obtain ⟨q0, q1, q2, q3, q4, q5, _⟩ := six E1
  refine bodyPost_ret (v := .tuple #[.agg #[.int .i64 0, .int .i64 d1, .int .i64 d3, .int .i64 0, .int .i64 im, .int .i64 0], .bool false]) (by simp [results, Tryz.results175, asAddr, loadVar, isAgg, loadCells, Tryz.underlying28, go_sem, q0, q1, q2, q3, q4, q5, Result.andThen]) rfl ?_
  exact ⟨rfl, E2⟩
set_option maxHeartbeats 1000000 in
theorem reck_n3 (x d1 d3 d4 d5 im : Int) (q : Int) (hq : (q == 19) = false)
    (hop : Gives Tryz.prog 172 #[.int .u32 x] (.int .i64 q))
    (himm : Gives Tryz.prog 174 #[.agg #[.int .u32 x, .int .i64 d1, .int .i64 3, .int .i64 d3, .int .i64 d4, .int .i64 d5], .int .i64 0] (.agg #[.int .i64 0, .int .i64 d1, .int .i64 d3, .int .i64 0, .int .i64 im, .int .i64 0])) :
    Gives Tryz.prog 175 #[.agg #[.int .u32 x, .int .i64 d1, .int .i64 3, .int .i64 d3, .int .i64 d4, .int .i64 d5]] (.tuple #[.agg #[.int .i64 0, .int .i64 d1, .int .i64 d3, .int .i64 0, .int .i64 im, .int .i64 0], .bool false]) := by
  skip
  intro w
  obtain ⟨W1, hW1⟩ : ∃ W1, W1 = w.alloc (.cells #[.int .u32 x, .int .i64 d1, .int .i64 3, .int .i64 d3, .int .i64 d4, .int .i64 d5] 220) := ⟨_, rfl⟩
  have s1 : W1.heap.size = w.heap.size + 1 := by rw [hW1]; simp
  have g0 : W1.heap[w.heap.size]? = some (.cells #[.int .u32 x, .int .i64 d1, .int .i64 3, .int .i64 d3, .int .i64 d4, .int .i64 d5] 220 (0, 0)) := by rw [hW1]; exact (MapKept.heap_alloc _ _).1
  have b0 : Below w.heap.size w W1 := by rw [hW1]; exact (Below.refl w.heap.size w).alloc (Nat.le_refl _) _
  obtain ⟨W2, hW2⟩ : ∃ W2, W2 = W1.alloc (.cells #[.int .i64 0, .int .i64 0, .int .i64 0, .int .i64 0, .int .i64 0, .int .i64 0] 28) := ⟨_, rfl⟩
  have s2 : W2.heap.size = w.heap.size + 1 + 1 := by rw [hW2]; simp [s1]
  have b1 : Below W1.heap.size W1 W2 := by rw [hW2]; exact (Below.refl W1.heap.size W1).alloc (Nat.le_refl _) _
  have g1 : W2.heap[w.heap.size + 1]? = some (.cells #[.int .i64 0, .int .i64 0, .int .i64 0, .int .i64 0, .int .i64 0, .int .i64 0] 28 (0, 0)) := by rw [hW2, ← s1]; exact (MapKept.heap_alloc _ _).1
  have g0' : W2.heap[w.heap.size]? = some (.cells #[.int .u32 x, .int .i64 d1, .int .i64 3, .int .i64 d3, .int .i64 d4, .int .i64 d5] 220 (0, 0)) := by rw [b1.block _ (by omega)]; exact g0
  have B2 : Below w.heap.size w W2 := b0.trans (b1.mono (by omega))
  have ia : ∀ W : World, (Instr.index 289 (.agg #[.int .i64 22, .int .i64 28, .int .i64 23, .int .i64 24, .int .i64 25, .int .i64 29, .int .i64 26, .int .i64 27]) (.int .i64 3)).run Tryz.prog W = .ok (.int .i64 24) W := fun W => by kernel_rfl
  have ib : ∀ W : World, (Instr.index 289 (.agg #[.int .i64 31, .int .i64 32, .int .i64 0, .int .i64 0, .int .i64 0, .int .i64 33, .int .i64 0, .int .i64 0]) (.int .i64 3)).run Tryz.prog W = .ok (.int .i64 0) W := fun W => by kernel_rfl
  have HOP := Lib.hid hop
  have HIMM := Lib.hid himm
  have HS := Lib.hid s2
  have HB := Lib.hid B2
  have HG0 := Lib.hid g0'
  have HG1 := Lib.hid g1
  have HW := Lib.hid (hW2.trans (by rw [hW1]))
  clear hop himm s1 s2 g0 g0' g1 b0 b1 B2 hW1 hW2
  go_enter Tryz.func175, Tryz.ntmps175
  go_wp2_with fail
  rw [← HW.out]
  (with_reducible refine (HOP.out.run _).mono ?_)
  rintro e w1 ⟨rfl, k1⟩
  have h0 : w1.heap[w.heap.size]? = some (.cells #[.int .u32 x, .int .i64 d1, .int .i64 3, .int .i64 d3, .int .i64 d4, .int .i64 d5] 220 (0, 0)) := by rw [k1.block _ (by have := HS.out; omega)]; exact HG0.out
  have h1 : w1.heap[w.heap.size + 1]? = some (.cells #[.int .i64 0, .int .i64 0, .int .i64 0, .int .i64 0, .int .i64 0, .int .i64 0] 28 (0, 0)) := by rw [k1.block _ (by have := HS.out; omega)]; exact HG1.out
  have B3 := Lib.hid (HB.out.trans (k1.mono (by have := HS.out; omega)))
  have S3 := Lib.hid (show w.heap.size + 1 < w1.heap.size from blk_lt h1)
  obtain ⟨c0, c1, c2, c3, c4, c5, cf⟩ := six h0
  have H1 := Lib.hid h1
  clear h0 h1 k1
  go_wp2_with fail
  (with_reducible refine (HIMM.out.run _).mono ?_)
  rintro e w2 ⟨rfl, k2⟩
  have h2 : w2.heap[w.heap.size + 1]? = some (.cells #[.int .i64 0, .int .i64 0, .int .i64 0, .int .i64 0, .int .i64 0, .int .i64 0] 28 (0, 0)) := by rw [k2.block _ S3.out]; exact H1.out
  have B4 := B3.out.trans (k2.mono (by have := S3.out; omega))
  have FIN := Lib.hid (six_end (c0 := .int .i64 0) (c1 := .int .i64 d1) (c2 := .int .i64 d3) (c3 := .int .i64 0) (c4 := .int .i64 im) (c5 := .int .i64 0) h2 B4 (by omega))
  clear c0 c1 c2 c3 c4 c5 cf k2 B4
  obtain ⟨c0, c1, c2, c3, c4, c5, cf⟩ := six h2
  clear h2
  go_wp2
  obtain ⟨E1, E2⟩ := FIN.out
  clear c0 c1 c2 c3 c4 c5 cf
  generalize (((((w2.setCell ⟨w.heap.size + 1, 0, none⟩ (.int .i64 0)).setCell ⟨w.heap.size + 1, 1, none⟩ (.int .i64 d1)).setCell ⟨w.heap.size + 1, 2, none⟩ (.int .i64 d3)).setCell ⟨w.heap.size + 1, 3, none⟩ (.int .i64 0)).setCell ⟨w.heap.size + 1, 4, none⟩ (.int .i64 im)).setCell ⟨w.heap.size + 1, 5, none⟩ (.int .i64 0) = W9 at *
  obtain ⟨q0, q1, q2, q3, q4, q5, _⟩ := six E1
  refine bodyPost_ret (v := .tuple #[.agg #[.int .i64 0, .int .i64 d1, .int .i64 d3, .int .i64 0, .int .i64 im, .int .i64 0], .bool false]) (by simp [results, Tryz.results175, asAddr, loadVar, isAgg, loadCells, Tryz.underlying28, go_sem, q0, q1, q2, q3, q4, q5, Result.andThen]) rfl ?_
  exact ⟨rfl, E2⟩
set_option maxHeartbeats 1000000 in
theorem reck_n4 (x d1 d3 d4 d5 im : Int) (q : Int) (hq : (q == 19) = false)
    (hop : Gives Tryz.prog 172 #[.int .u32 x] (.int .i64 q))
    (himm : Gives Tryz.prog 174 #[.agg #[.int .u32 x, .int .i64 d1, .int .i64 4, .int .i64 d3, .int .i64 d4, .int .i64 d5], .int .i64 0] (.agg #[.int .i64 0, .int .i64 d1, .int .i64 d3, .int .i64 0, .int .i64 im, .int .i64 0])) :
    Gives Tryz.prog 175 #[.agg #[.int .u32 x, .int .i64 d1, .int .i64 4, .int .i64 d3, .int .i64 d4, .int .i64 d5]] (.tuple #[.agg #[.int .i64 0, .int .i64 d1, .int .i64 d3, .int .i64 0, .int .i64 im, .int .i64 0], .bool false]) := by
  skip
  intro w
  obtain ⟨W1, hW1⟩ : ∃ W1, W1 = w.alloc (.cells #[.int .u32 x, .int .i64 d1, .int .i64 4, .int .i64 d3, .int .i64 d4, .int .i64 d5] 220) := ⟨_, rfl⟩
  have s1 : W1.heap.size = w.heap.size + 1 := by rw [hW1]; simp
  have g0 : W1.heap[w.heap.size]? = some (.cells #[.int .u32 x, .int .i64 d1, .int .i64 4, .int .i64 d3, .int .i64 d4, .int .i64 d5] 220 (0, 0)) := by rw [hW1]; exact (MapKept.heap_alloc _ _).1
  have b0 : Below w.heap.size w W1 := by rw [hW1]; exact (Below.refl w.heap.size w).alloc (Nat.le_refl _) _
  obtain ⟨W2, hW2⟩ : ∃ W2, W2 = W1.alloc (.cells #[.int .i64 0, .int .i64 0, .int .i64 0, .int .i64 0, .int .i64 0, .int .i64 0] 28) := ⟨_, rfl⟩
  have s2 : W2.heap.size = w.heap.size + 1 + 1 := by rw [hW2]; simp [s1]
  have b1 : Below W1.heap.size W1 W2 := by rw [hW2]; exact (Below.refl W1.heap.size W1).alloc (Nat.le_refl _) _
  have g1 : W2.heap[w.heap.size + 1]? = some (.cells #[.int .i64 0, .int .i64 0, .int .i64 0, .int .i64 0, .int .i64 0, .int .i64 0] 28 (0, 0)) := by rw [hW2, ← s1]; exact (MapKept.heap_alloc _ _).1
  have g0' : W2.heap[w.heap.size]? = some (.cells #[.int .u32 x, .int .i64 d1, .int .i64 4, .int .i64 d3, .int .i64 d4, .int .i64 d5] 220 (0, 0)) := by rw [b1.block _ (by omega)]; exact g0
  have B2 : Below w.heap.size w W2 := b0.trans (b1.mono (by omega))
  have ia : ∀ W : World, (Instr.index 289 (.agg #[.int .i64 22, .int .i64 28, .int .i64 23, .int .i64 24, .int .i64 25, .int .i64 29, .int .i64 26, .int .i64 27]) (.int .i64 4)).run Tryz.prog W = .ok (.int .i64 25) W := fun W => by kernel_rfl
  have ib : ∀ W : World, (Instr.index 289 (.agg #[.int .i64 31, .int .i64 32, .int .i64 0, .int .i64 0, .int .i64 0, .int .i64 33, .int .i64 0, .int .i64 0]) (.int .i64 4)).run Tryz.prog W = .ok (.int .i64 0) W := fun W => by kernel_rfl
  have HOP := Lib.hid hop
  have HIMM := Lib.hid himm
  have HS := Lib.hid s2
  have HB := Lib.hid B2
  have HG0 := Lib.hid g0'
  have HG1 := Lib.hid g1
  have HW := Lib.hid (hW2.trans (by rw [hW1]))
  clear hop himm s1 s2 g0 g0' g1 b0 b1 B2 hW1 hW2
  go_enter Tryz.func175, Tryz.ntmps175
  go_wp2_with fail
  rw [← HW.out]
  (with_reducible refine (HOP.out.run _).mono ?_)
  rintro e w1 ⟨rfl, k1⟩
  have h0 : w1.heap[w.heap.size]? = some (.cells #[.int .u32 x, .int .i64 d1, .int .i64 4, .int .i64 d3, .int .i64 d4, .int .i64 d5] 220 (0, 0)) := by rw [k1.block _ (by have := HS.out; omega)]; exact HG0.out
  have h1 : w1.heap[w.heap.size + 1]? = some (.cells #[.int .i64 0, .int .i64 0, .int .i64 0, .int .i64 0, .int .i64 0, .int .i64 0] 28 (0, 0)) := by rw [k1.block _ (by have := HS.out; omega)]; exact HG1.out
  have B3 := Lib.hid (HB.out.trans (k1.mono (by have := HS.out; omega)))
  have S3 := Lib.hid (show w.heap.size + 1 < w1.heap.size from blk_lt h1)
  obtain ⟨c0, c1, c2, c3, c4, c5, cf⟩ := six h0
  have H1 := Lib.hid h1
  clear h0 h1 k1
  go_wp2_with fail
  (with_reducible refine (HIMM.out.run _).mono ?_)
  rintro e w2 ⟨rfl, k2⟩
  have h2 : w2.heap[w.heap.size + 1]? = some (.cells #[.int .i64 0, .int .i64 0, .int .i64 0, .int .i64 0, .int .i64 0, .int .i64 0] 28 (0, 0)) := by rw [k2.block _ S3.out]; exact H1.out
  have B4 := B3.out.trans (k2.mono (by have := S3.out; omega))
  have FIN := Lib.hid (six_end (c0 := .int .i64 0) (c1 := .int .i64 d1) (c2 := .int .i64 d3) (c3 := .int .i64 0) (c4 := .int .i64 im) (c5 := .int .i64 0) h2 B4 (by omega))
  clear c0 c1 c2 c3 c4 c5 cf k2 B4
  obtain ⟨c0, c1, c2, c3, c4, c5, cf⟩ := six h2
  clear h2
  go_wp2
  obtain ⟨E1, E2⟩ := FIN.out
  clear c0 c1 c2 c3 c4 c5 cf
  generalize (((((w2.setCell ⟨w.heap.size + 1, 0, none⟩ (.int .i64 0)).setCell ⟨w.heap.size + 1, 1, none⟩ (.int .i64 d1)).setCell ⟨w.heap.size + 1, 2, none⟩ (.int .i64 d3)).setCell ⟨w.heap.size + 1, 3, none⟩ (.int .i64 0)).setCell ⟨w.heap.size + 1, 4, none⟩ (.int .i64 im)).setCell ⟨w.heap.size + 1, 5, none⟩ (.int .i64 0) = W9 at *
  obtain ⟨q0, q1, q2, q3, q4, q5, _⟩ := six E1
  refine bodyPost_ret (v := .tuple #[.agg #[.int .i64 0, .int .i64 d1, .int .i64 d3, .int .i64 0, .int .i64 im, .int .i64 0], .bool false]) (by simp [results, Tryz.results175, asAddr, loadVar, isAgg, loadCells, Tryz.underlying28, go_sem, q0, q1, q2, q3, q4, q5, Result.andThen]) rfl ?_
  exact ⟨rfl, E2⟩
set_option maxHeartbeats 1000000 in
theorem reck_n6 (x d1 d3 d4 d5 im : Int) (q : Int) (hq : (q == 19) = false)
    (hop : Gives Tryz.prog 172 #[.int .u32 x] (.int .i64 q))
    (himm : Gives Tryz.prog 174 #[.agg #[.int .u32 x, .int .i64 d1, .int .i64 6, .int .i64 d3, .int .i64 d4, .int .i64 d5], .int .i64 0] (.agg #[.int .i64 0, .int .i64 d1, .int .i64 d3, .int .i64 0, .int .i64 im, .int .i64 0])) :
    Gives Tryz.prog 175 #[.agg #[.int .u32 x, .int .i64 d1, .int .i64 6, .int .i64 d3, .int .i64 d4, .int .i64 d5]] (.tuple #[.agg #[.int .i64 0, .int .i64 d1, .int .i64 d3, .int .i64 0, .int .i64 im, .int .i64 0], .bool false]) := by
  skip
  intro w
  obtain ⟨W1, hW1⟩ : ∃ W1, W1 = w.alloc (.cells #[.int .u32 x, .int .i64 d1, .int .i64 6, .int .i64 d3, .int .i64 d4, .int .i64 d5] 220) := ⟨_, rfl⟩
  have s1 : W1.heap.size = w.heap.size + 1 := by rw [hW1]; simp
  have g0 : W1.heap[w.heap.size]? = some (.cells #[.int .u32 x, .int .i64 d1, .int .i64 6, .int .i64 d3, .int .i64 d4, .int .i64 d5] 220 (0, 0)) := by rw [hW1]; exact (MapKept.heap_alloc _ _).1
  have b0 : Below w.heap.size w W1 := by rw [hW1]; exact (Below.refl w.heap.size w).alloc (Nat.le_refl _) _
  obtain ⟨W2, hW2⟩ : ∃ W2, W2 = W1.alloc (.cells #[.int .i64 0, .int .i64 0, .int .i64 0, .int .i64 0, .int .i64 0, .int .i64 0] 28) := ⟨_, rfl⟩
  have s2 : W2.heap.size = w.heap.size + 1 + 1 := by rw [hW2]; simp [s1]
  have b1 : Below W1.heap.size W1 W2 := by rw [hW2]; exact (Below.refl W1.heap.size W1).alloc (Nat.le_refl _) _
  have g1 : W2.heap[w.heap.size + 1]? = some (.cells #[.int .i64 0, .int .i64 0, .int .i64 0, .int .i64 0, .int .i64 0, .int .i64 0] 28 (0, 0)) := by rw [hW2, ← s1]; exact (MapKept.heap_alloc _ _).1
  have g0' : W2.heap[w.heap.size]? = some (.cells #[.int .u32 x, .int .i64 d1, .int .i64 6, .int .i64 d3, .int .i64 d4, .int .i64 d5] 220 (0, 0)) := by rw [b1.block _ (by omega)]; exact g0
  have B2 : Below w.heap.size w W2 := b0.trans (b1.mono (by omega))
  have ia : ∀ W : World, (Instr.index 289 (.agg #[.int .i64 22, .int .i64 28, .int .i64 23, .int .i64 24, .int .i64 25, .int .i64 29, .int .i64 26, .int .i64 27]) (.int .i64 6)).run Tryz.prog W = .ok (.int .i64 26) W := fun W => by kernel_rfl
  have ib : ∀ W : World, (Instr.index 289 (.agg #[.int .i64 31, .int .i64 32, .int .i64 0, .int .i64 0, .int .i64 0, .int .i64 33, .int .i64 0, .int .i64 0]) (.int .i64 6)).run Tryz.prog W = .ok (.int .i64 0) W := fun W => by kernel_rfl
  have HOP := Lib.hid hop
  have HIMM := Lib.hid himm
  have HS := Lib.hid s2
  have HB := Lib.hid B2
  have HG0 := Lib.hid g0'
  have HG1 := Lib.hid g1
  have HW := Lib.hid (hW2.trans (by rw [hW1]))
  clear hop himm s1 s2 g0 g0' g1 b0 b1 B2 hW1 hW2
  go_enter Tryz.func175, Tryz.ntmps175
  go_wp2_with fail
  rw [← HW.out]
  (with_reducible refine (HOP.out.run _).mono ?_)
  rintro e w1 ⟨rfl, k1⟩
  have h0 : w1.heap[w.heap.size]? = some (.cells #[.int .u32 x, .int .i64 d1, .int .i64 6, .int .i64 d3, .int .i64 d4, .int .i64 d5] 220 (0, 0)) := by rw [k1.block _ (by have := HS.out; omega)]; exact HG0.out
  have h1 : w1.heap[w.heap.size + 1]? = some (.cells #[.int .i64 0, .int .i64 0, .int .i64 0, .int .i64 0, .int .i64 0, .int .i64 0] 28 (0, 0)) := by rw [k1.block _ (by have := HS.out; omega)]; exact HG1.out
  have B3 := Lib.hid (HB.out.trans (k1.mono (by have := HS.out; omega)))
  have S3 := Lib.hid (show w.heap.size + 1 < w1.heap.size from blk_lt h1)
  obtain ⟨c0, c1, c2, c3, c4, c5, cf⟩ := six h0
  have H1 := Lib.hid h1
  clear h0 h1 k1
  go_wp2_with fail
  (with_reducible refine (HIMM.out.run _).mono ?_)
  rintro e w2 ⟨rfl, k2⟩
  have h2 : w2.heap[w.heap.size + 1]? = some (.cells #[.int .i64 0, .int .i64 0, .int .i64 0, .int .i64 0, .int .i64 0, .int .i64 0] 28 (0, 0)) := by rw [k2.block _ S3.out]; exact H1.out
  have B4 := B3.out.trans (k2.mono (by have := S3.out; omega))
  have FIN := Lib.hid (six_end (c0 := .int .i64 0) (c1 := .int .i64 d1) (c2 := .int .i64 d3) (c3 := .int .i64 0) (c4 := .int .i64 im) (c5 := .int .i64 0) h2 B4 (by omega))
  clear c0 c1 c2 c3 c4 c5 cf k2 B4
  obtain ⟨c0, c1, c2, c3, c4, c5, cf⟩ := six h2
  clear h2
  go_wp2
  obtain ⟨E1, E2⟩ := FIN.out
  clear c0 c1 c2 c3 c4 c5 cf
  generalize (((((w2.setCell ⟨w.heap.size + 1, 0, none⟩ (.int .i64 0)).setCell ⟨w.heap.size + 1, 1, none⟩ (.int .i64 d1)).setCell ⟨w.heap.size + 1, 2, none⟩ (.int .i64 d3)).setCell ⟨w.heap.size + 1, 3, none⟩ (.int .i64 0)).setCell ⟨w.heap.size + 1, 4, none⟩ (.int .i64 im)).setCell ⟨w.heap.size + 1, 5, none⟩ (.int .i64 0) = W9 at *
  obtain ⟨q0, q1, q2, q3, q4, q5, _⟩ := six E1
  refine bodyPost_ret (v := .tuple #[.agg #[.int .i64 0, .int .i64 d1, .int .i64 d3, .int .i64 0, .int .i64 im, .int .i64 0], .bool false]) (by simp [results, Tryz.results175, asAddr, loadVar, isAgg, loadCells, Tryz.underlying28, go_sem, q0, q1, q2, q3, q4, q5, Result.andThen]) rfl ?_
  exact ⟨rfl, E2⟩
set_option maxHeartbeats 1000000 in
theorem reck_n7 (x d1 d3 d4 d5 im : Int) (q : Int) (hq : (q == 19) = false)
    (hop : Gives Tryz.prog 172 #[.int .u32 x] (.int .i64 q))
    (himm : Gives Tryz.prog 174 #[.agg #[.int .u32 x, .int .i64 d1, .int .i64 7, .int .i64 d3, .int .i64 d4, .int .i64 d5], .int .i64 0] (.agg #[.int .i64 0, .int .i64 d1, .int .i64 d3, .int .i64 0, .int .i64 im, .int .i64 0])) :
    Gives Tryz.prog 175 #[.agg #[.int .u32 x, .int .i64 d1, .int .i64 7, .int .i64 d3, .int .i64 d4, .int .i64 d5]] (.tuple #[.agg #[.int .i64 0, .int .i64 d1, .int .i64 d3, .int .i64 0, .int .i64 im, .int .i64 0], .bool false]) := by
  skip
  intro w
  obtain ⟨W1, hW1⟩ : ∃ W1, W1 = w.alloc (.cells #[.int .u32 x, .int .i64 d1, .int .i64 7, .int .i64 d3, .int .i64 d4, .int .i64 d5] 220) := ⟨_, rfl⟩
  have s1 : W1.heap.size = w.heap.size + 1 := by rw [hW1]; simp
  have g0 : W1.heap[w.heap.size]? = some (.cells #[.int .u32 x, .int .i64 d1, .int .i64 7, .int .i64 d3, .int .i64 d4, .int .i64 d5] 220 (0, 0)) := by rw [hW1]; exact (MapKept.heap_alloc _ _).1
  have b0 : Below w.heap.size w W1 := by rw [hW1]; exact (Below.refl w.heap.size w).alloc (Nat.le_refl _) _
  obtain ⟨W2, hW2⟩ : ∃ W2, W2 = W1.alloc (.cells #[.int .i64 0, .int .i64 0, .int .i64 0, .int .i64 0, .int .i64 0, .int .i64 0] 28) := ⟨_, rfl⟩
  have s2 : W2.heap.size = w.heap.size + 1 + 1 := by rw [hW2]; simp [s1]
  have b1 : Below W1.heap.size W1 W2 := by rw [hW2]; exact (Below.refl W1.heap.size W1).alloc (Nat.le_refl _) _
  have g1 : W2.heap[w.heap.size + 1]? = some (.cells #[.int .i64 0, .int .i64 0, .int .i64 0, .int .i64 0, .int .i64 0, .int .i64 0] 28 (0, 0)) := by rw [hW2, ← s1]; exact (MapKept.heap_alloc _ _).1
  have g0' : W2.heap[w.heap.size]? = some (.cells #[.int .u32 x, .int .i64 d1, .int .i64 7, .int .i64 d3, .int .i64 d4, .int .i64 d5] 220 (0, 0)) := by rw [b1.block _ (by omega)]; exact g0
  have B2 : Below w.heap.size w W2 := b0.trans (b1.mono (by omega))
  have ia : ∀ W : World, (Instr.index 289 (.agg #[.int .i64 22, .int .i64 28, .int .i64 23, .int .i64 24, .int .i64 25, .int .i64 29, .int .i64 26, .int .i64 27]) (.int .i64 7)).run Tryz.prog W = .ok (.int .i64 27) W := fun W => by kernel_rfl
  have ib : ∀ W : World, (Instr.index 289 (.agg #[.int .i64 31, .int .i64 32, .int .i64 0, .int .i64 0, .int .i64 0, .int .i64 33, .int .i64 0, .int .i64 0]) (.int .i64 7)).run Tryz.prog W = .ok (.int .i64 0) W := fun W => by kernel_rfl
  have HOP := Lib.hid hop
  have HIMM := Lib.hid himm
  have HS := Lib.hid s2
  have HB := Lib.hid B2
  have HG0 := Lib.hid g0'
  have HG1 := Lib.hid g1
  have HW := Lib.hid (hW2.trans (by rw [hW1]))
  clear hop himm s1 s2 g0 g0' g1 b0 b1 B2 hW1 hW2
  go_enter Tryz.func175, Tryz.ntmps175
  go_wp2_with fail
  rw [← HW.out]
  (with_reducible refine (HOP.out.run _).mono ?_)
  rintro e w1 ⟨rfl, k1⟩
  have h0 : w1.heap[w.heap.size]? = some (.cells #[.int .u32 x, .int .i64 d1, .int .i64 7, .int .i64 d3, .int .i64 d4, .int .i64 d5] 220 (0, 0)) := by rw [k1.block _ (by have := HS.out; omega)]; exact HG0.out
  have h1 : w1.heap[w.heap.size + 1]? = some (.cells #[.int .i64 0, .int .i64 0, .int .i64 0, .int .i64 0, .int .i64 0, .int .i64 0] 28 (0, 0)) := by rw [k1.block _ (by have := HS.out; omega)]; exact HG1.out
  have B3 := Lib.hid (HB.out.trans (k1.mono (by have := HS.out; omega)))
  have S3 := Lib.hid (show w.heap.size + 1 < w1.heap.size from blk_lt h1)
  obtain ⟨c0, c1, c2, c3, c4, c5, cf⟩ := six h0
  have H1 := Lib.hid h1
  clear h0 h1 k1
  go_wp2_with fail
  (with_reducible refine (HIMM.out.run _).mono ?_)
  rintro e w2 ⟨rfl, k2⟩
  have h2 : w2.heap[w.heap.size + 1]? = some (.cells #[.int .i64 0, .int .i64 0, .int .i64 0, .int .i64 0, .int .i64 0, .int .i64 0] 28 (0, 0)) := by rw [k2.block _ S3.out]; exact H1.out
  have B4 := B3.out.trans (k2.mono (by have := S3.out; omega))
  have FIN := Lib.hid (six_end (c0 := .int .i64 0) (c1 := .int .i64 d1) (c2 := .int .i64 d3) (c3 := .int .i64 0) (c4 := .int .i64 im) (c5 := .int .i64 0) h2 B4 (by omega))
  clear c0 c1 c2 c3 c4 c5 cf k2 B4
  obtain ⟨c0, c1, c2, c3, c4, c5, cf⟩ := six h2
  clear h2
  go_wp2
  obtain ⟨E1, E2⟩ := FIN.out
  clear c0 c1 c2 c3 c4 c5 cf
  generalize (((((w2.setCell ⟨w.heap.size + 1, 0, none⟩ (.int .i64 0)).setCell ⟨w.heap.size + 1, 1, none⟩ (.int .i64 d1)).setCell ⟨w.heap.size + 1, 2, none⟩ (.int .i64 d3)).setCell ⟨w.heap.size + 1, 3, none⟩ (.int .i64 0)).setCell ⟨w.heap.size + 1, 4, none⟩ (.int .i64 im)).setCell ⟨w.heap.size + 1, 5, none⟩ (.int .i64 0) = W9 at *
  obtain ⟨q0, q1, q2, q3, q4, q5, _⟩ := six E1
  refine bodyPost_ret (v := .tuple #[.agg #[.int .i64 0, .int .i64 d1, .int .i64 d3, .int .i64 0, .int .i64 im, .int .i64 0], .bool false]) (by simp [results, Tryz.results175, asAddr, loadVar, isAgg, loadCells, Tryz.underlying28, go_sem, q0, q1, q2, q3, q4, q5, Result.andThen]) rfl ?_
  exact ⟨rfl, E2⟩
set_option maxHeartbeats 1000000 in
theorem reck_w1_01t (x d1 d3 d4 d5 : Int) (q : Int) (hq : q = 19) (v r1 r2 ab : BitVec 64) (hv : IntKind.u64.wrap x = (v.toNat : Int))
    (hop : Gives Tryz.prog 172 #[.int .u32 x] (.int .i64 q))
    (hB1 : Gives Tryz.prog 78 #[.int .u64 (v.toNat : Int), .int .i64 20, .int .i64 6] (.int .u64 (r1.toNat : Int)))
    (hB2 : Gives Tryz.prog 78 #[.int .u64 (v.toNat : Int), .int .i64 26, .int .i64 6] (.int .u64 (r2.toNat : Int)))
    (hab : IntKind.u64.wrap ((r2.toNat : Int) * 64) = (ab.toNat : Int)) (e1 : ((ab.toNat : Int) == 1024) = true) (e2 : ((ab.toNat : Int) != 0) = true) :
    Gives Tryz.prog 175 #[.agg #[.int .u32 x, .int .i64 d1, .int .i64 1, .int .i64 d3, .int .i64 d4, .int .i64 d5]] (.tuple #[.agg #[.int .i64 0, .int .i64 0, .int .i64 0, .int .i64 0, .int .i64 0, .int .i64 0], .bool false]) := by
  subst hq
  intro w
  obtain ⟨W1, hW1⟩ : ∃ W1, W1 = w.alloc (.cells #[.int .u32 x, .int .i64 d1, .int .i64 1, .int .i64 d3, .int .i64 d4, .int .i64 d5] 220) := ⟨_, rfl⟩
  have s1 : W1.heap.size = w.heap.size + 1 := by rw [hW1]; simp
  have g0 : W1.heap[w.heap.size]? = some (.cells #[.int .u32 x, .int .i64 d1, .int .i64 1, .int .i64 d3, .int .i64 d4, .int .i64 d5] 220 (0, 0)) := by rw [hW1]; exact (MapKept.heap_alloc _ _).1
  have b0 : Below w.heap.size w W1 := by rw [hW1]; exact (Below.refl w.heap.size w).alloc (Nat.le_refl _) _
  obtain ⟨W2, hW2⟩ : ∃ W2, W2 = W1.alloc (.cells #[.int .i64 0, .int .i64 0, .int .i64 0, .int .i64 0, .int .i64 0, .int .i64 0] 28) := ⟨_, rfl⟩
  have s2 : W2.heap.size = w.heap.size + 1 + 1 := by rw [hW2]; simp [s1]
  have b1 : Below W1.heap.size W1 W2 := by rw [hW2]; exact (Below.refl W1.heap.size W1).alloc (Nat.le_refl _) _
  have g1 : W2.heap[w.heap.size + 1]? = some (.cells #[.int .i64 0, .int .i64 0, .int .i64 0, .int .i64 0, .int .i64 0, .int .i64 0] 28 (0, 0)) := by rw [hW2, ← s1]; exact (MapKept.heap_alloc _ _).1
  have g0' : W2.heap[w.heap.size]? = some (.cells #[.int .u32 x, .int .i64 d1, .int .i64 1, .int .i64 d3, .int .i64 d4, .int .i64 d5] 220 (0, 0)) := by rw [b1.block _ (by omega)]; exact g0
  have B2 : Below w.heap.size w W2 := b0.trans (b1.mono (by omega))
  have ia : ∀ W : World, (Instr.index 289 (.agg #[.int .i64 22, .int .i64 28, .int .i64 23, .int .i64 24, .int .i64 25, .int .i64 29, .int .i64 26, .int .i64 27]) (.int .i64 1)).run Tryz.prog W = .ok (.int .i64 28) W := fun W => by kernel_rfl
  have ib : ∀ W : World, (Instr.index 289 (.agg #[.int .i64 31, .int .i64 32, .int .i64 0, .int .i64 0, .int .i64 0, .int .i64 33, .int .i64 0, .int .i64 0]) (.int .i64 1)).run Tryz.prog W = .ok (.int .i64 32) W := fun W => by kernel_rfl
  have HOP := Lib.hid hop
  have HB1 := Lib.hid hB1
  have HB2 := Lib.hid hB2
  have HS := Lib.hid s2
  have HB := Lib.hid B2
  have HG0 := Lib.hid g0'
  have HG1 := Lib.hid g1
  have HW := Lib.hid (hW2.trans (by rw [hW1]))
  clear hop hB1 hB2 s1 s2 g0 g0' g1 b0 b1 B2 hW1 hW2
  go_enter Tryz.func175, Tryz.ntmps175
  go_wp2_with fail
  rw [← HW.out]
  (with_reducible refine (HOP.out.run _).mono ?_)
  rintro e w1 ⟨rfl, k1⟩
  have h0 : w1.heap[w.heap.size]? = some (.cells #[.int .u32 x, .int .i64 d1, .int .i64 1, .int .i64 d3, .int .i64 d4, .int .i64 d5] 220 (0, 0)) := by rw [k1.block _ (by have := HS.out; omega)]; exact HG0.out
  have h1 : w1.heap[w.heap.size + 1]? = some (.cells #[.int .i64 0, .int .i64 0, .int .i64 0, .int .i64 0, .int .i64 0, .int .i64 0] 28 (0, 0)) := by rw [k1.block _ (by have := HS.out; omega)]; exact HG1.out
  have B3 := Lib.hid (HB.out.trans (k1.mono (by have := HS.out; omega)))
  have S3 := Lib.hid (show w.heap.size + 1 < w1.heap.size from blk_lt h1)
  obtain ⟨c0, c1, c2, c3, c4, c5, cf⟩ := six h0
  have H0 := Lib.hid h0
  have H1 := Lib.hid h1
  clear h0 h1 k1
  go_wp2_with fail
  (with_reducible refine (HB1.out.run _).mono ?_)
  rintro e w3 ⟨rfl, k3⟩
  have h0 : w3.heap[w.heap.size]? = some (.cells #[.int .u32 x, .int .i64 d1, .int .i64 1, .int .i64 d3, .int .i64 d4, .int .i64 d5] 220 (0, 0)) := by rw [k3.block _ (by have := S3.out; omega)]; exact H0.out
  have h1 : w3.heap[w.heap.size + 1]? = some (.cells #[.int .i64 0, .int .i64 0, .int .i64 0, .int .i64 0, .int .i64 0, .int .i64 0] 28 (0, 0)) := by rw [k3.block _ S3.out]; exact H1.out
  have B5 := Lib.hid (B3.out.trans (k3.mono (by have := S3.out; omega)))
  have S5 := Lib.hid (show w.heap.size + 1 < w3.heap.size from blk_lt h1)
  clear c0 c1 c2 c3 c4 c5 cf
  obtain ⟨c0, c1, c2, c3, c4, c5, cf⟩ := six h0
  have H05 := Lib.hid h0
  have H15 := Lib.hid h1
  clear h0 h1 k3
  go_wp2_with fail
  (with_reducible refine (HB2.out.run _).mono ?_)
  rintro e w4 ⟨rfl, k4⟩
  have h0 : w4.heap[w.heap.size]? = some (.cells #[.int .u32 x, .int .i64 d1, .int .i64 1, .int .i64 d3, .int .i64 d4, .int .i64 d5] 220 (0, 0)) := by rw [k4.block _ (by have := S5.out; omega)]; exact H05.out
  have h2 : w4.heap[w.heap.size + 1]? = some (.cells #[.int .i64 0, .int .i64 0, .int .i64 0, .int .i64 0, .int .i64 0, .int .i64 0] 28 (0, 0)) := by rw [k4.block _ S5.out]; exact H15.out
  have B4 := Lib.hid (B5.out.trans (k4.mono (by have := S5.out; omega)))
  clear c0 c1 c2 c3 c4 c5 cf
  obtain ⟨c0, c1, c2, c3, c4, c5, cf⟩ := six h0
  obtain ⟨z0, z1, z2, z3, z4, z5, zf⟩ := six h2
  have h2x := h2
  have h0x := h0
  clear h0 h2 k4
  skip
  skip
  clear h0x
  have FIN := Lib.hid (six_end (c0 := .int .i64 0) (c1 := .int .i64 0) (c2 := .int .i64 0) (c3 := .int .i64 0) (c4 := .int .i64 0) (c5 := .int .i64 0) h2x B4.out (by omega))
  clear h2x
  go_wp2
  obtain ⟨E1, E2⟩ := FIN.out
  clear c0 c1 c2 c3 c4 c5 cf z0 z1 z2 z3 z4 z5 zf
  skip
  generalize ((((((w4.setCell ⟨w.heap.size + 1, 0, none⟩ (.int .i64 0)).setCell ⟨w.heap.size + 1, 1, none⟩ (.int .i64 0)).setCell ⟨w.heap.size + 1, 2, none⟩ (.int .i64 0)).setCell ⟨w.heap.size + 1, 3, none⟩ (.int .i64 0)).setCell ⟨w.heap.size + 1, 4, none⟩ (.int .i64 0)).setCell ⟨w.heap.size + 1, 5, none⟩ (.int .i64 0)) = W9 at *
  obtain ⟨q0, q1, q2, q3, q4, q5, _⟩ := six E1
  refine bodyPost_ret (v := .tuple #[.agg #[.int .i64 0, .int .i64 0, .int .i64 0, .int .i64 0, .int .i64 0, .int .i64 0], .bool false]) (by simp [results, Tryz.results175, asAddr, loadVar, isAgg, loadCells, Tryz.underlying28, go_sem, q0, q1, q2, q3, q4, q5, Result.andThen]) rfl ?_
  exact ⟨rfl, E2⟩
set_option maxHeartbeats 1000000 in
theorem reck_w1_01 (x d1 d3 d4 d5 : Int) (q : Int) (hq : q = 19) (v r1 r2 ab : BitVec 64) (hv : IntKind.u64.wrap x = (v.toNat : Int))
    (hop : Gives Tryz.prog 172 #[.int .u32 x] (.int .i64 q))
    (hB1 : Gives Tryz.prog 78 #[.int .u64 (v.toNat : Int), .int .i64 20, .int .i64 6] (.int .u64 (r1.toNat : Int)))
    (hB2 : Gives Tryz.prog 78 #[.int .u64 (v.toNat : Int), .int .i64 26, .int .i64 6] (.int .u64 (r2.toNat : Int)))
    (hab : IntKind.u64.wrap ((r2.toNat : Int) * 64) = (ab.toNat : Int)) (e1 : ((ab.toNat : Int) == 1024) = false) (e2 : ((ab.toNat : Int) != 0) = true) :
    Gives Tryz.prog 175 #[.agg #[.int .u32 x, .int .i64 d1, .int .i64 1, .int .i64 d3, .int .i64 d4, .int .i64 d5]] (.tuple #[.agg #[.int .i64 0, .int .i64 0, .int .i64 0, .int .i64 0, .int .i64 0, .int .i64 0], .bool false]) := by
  subst hq
  intro w
  obtain ⟨W1, hW1⟩ : ∃ W1, W1 = w.alloc (.cells #[.int .u32 x, .int .i64 d1, .int .i64 1, .int .i64 d3, .int .i64 d4, .int .i64 d5] 220) := ⟨_, rfl⟩
  have s1 : W1.heap.size = w.heap.size + 1 := by rw [hW1]; simp
  have g0 : W1.heap[w.heap.size]? = some (.cells #[.int .u32 x, .int .i64 d1, .int .i64 1, .int .i64 d3, .int .i64 d4, .int .i64 d5] 220 (0, 0)) := by rw [hW1]; exact (MapKept.heap_alloc _ _).1
  have b0 : Below w.heap.size w W1 := by rw [hW1]; exact (Below.refl w.heap.size w).alloc (Nat.le_refl _) _
  obtain ⟨W2, hW2⟩ : ∃ W2, W2 = W1.alloc (.cells #[.int .i64 0, .int .i64 0, .int .i64 0, .int .i64 0, .int .i64 0, .int .i64 0] 28) := ⟨_, rfl⟩
  have s2 : W2.heap.size = w.heap.size + 1 + 1 := by rw [hW2]; simp [s1]
  have b1 : Below W1.heap.size W1 W2 := by rw [hW2]; exact (Below.refl W1.heap.size W1).alloc (Nat.le_refl _) _
  have g1 : W2.heap[w.heap.size + 1]? = some (.cells #[.int .i64 0, .int .i64 0, .int .i64 0, .int .i64 0, .int .i64 0, .int .i64 0] 28 (0, 0)) := by rw [hW2, ← s1]; exact (MapKept.heap_alloc _ _).1
  have g0' : W2.heap[w.heap.size]? = some (.cells #[.int .u32 x, .int .i64 d1, .int .i64 1, .int .i64 d3, .int .i64 d4, .int .i64 d5] 220 (0, 0)) := by rw [b1.block _ (by omega)]; exact g0
  have B2 : Below w.heap.size w W2 := b0.trans (b1.mono (by omega))
  have ia : ∀ W : World, (Instr.index 289 (.agg #[.int .i64 22, .int .i64 28, .int .i64 23, .int .i64 24, .int .i64 25, .int .i64 29, .int .i64 26, .int .i64 27]) (.int .i64 1)).run Tryz.prog W = .ok (.int .i64 28) W := fun W => by kernel_rfl
  have ib : ∀ W : World, (Instr.index 289 (.agg #[.int .i64 31, .int .i64 32, .int .i64 0, .int .i64 0, .int .i64 0, .int .i64 33, .int .i64 0, .int .i64 0]) (.int .i64 1)).run Tryz.prog W = .ok (.int .i64 32) W := fun W => by kernel_rfl
  have HOP := Lib.hid hop
  have HB1 := Lib.hid hB1
  have HB2 := Lib.hid hB2
  have HS := Lib.hid s2
  have HB := Lib.hid B2
  have HG0 := Lib.hid g0'
  have HG1 := Lib.hid g1
  have HW := Lib.hid (hW2.trans (by rw [hW1]))
  clear hop hB1 hB2 s1 s2 g0 g0' g1 b0 b1 B2 hW1 hW2
  go_enter Tryz.func175, Tryz.ntmps175
  go_wp2_with fail
  rw [← HW.out]
  (with_reducible refine (HOP.out.run _).mono ?_)
  rintro e w1 ⟨rfl, k1⟩
  have h0 : w1.heap[w.heap.size]? = some (.cells #[.int .u32 x, .int .i64 d1, .int .i64 1, .int .i64 d3, .int .i64 d4, .int .i64 d5] 220 (0, 0)) := by rw [k1.block _ (by have := HS.out; omega)]; exact HG0.out
  have h1 : w1.heap[w.heap.size + 1]? = some (.cells #[.int .i64 0, .int .i64 0, .int .i64 0, .int .i64 0, .int .i64 0, .int .i64 0] 28 (0, 0)) := by rw [k1.block _ (by have := HS.out; omega)]; exact HG1.out
  have B3 := Lib.hid (HB.out.trans (k1.mono (by have := HS.out; omega)))
  have S3 := Lib.hid (show w.heap.size + 1 < w1.heap.size from blk_lt h1)
  obtain ⟨c0, c1, c2, c3, c4, c5, cf⟩ := six h0
  have H0 := Lib.hid h0
  have H1 := Lib.hid h1
  clear h0 h1 k1
  go_wp2_with fail
  (with_reducible refine (HB1.out.run _).mono ?_)
  rintro e w3 ⟨rfl, k3⟩
  have h0 : w3.heap[w.heap.size]? = some (.cells #[.int .u32 x, .int .i64 d1, .int .i64 1, .int .i64 d3, .int .i64 d4, .int .i64 d5] 220 (0, 0)) := by rw [k3.block _ (by have := S3.out; omega)]; exact H0.out
  have h1 : w3.heap[w.heap.size + 1]? = some (.cells #[.int .i64 0, .int .i64 0, .int .i64 0, .int .i64 0, .int .i64 0, .int .i64 0] 28 (0, 0)) := by rw [k3.block _ S3.out]; exact H1.out
  have B5 := Lib.hid (B3.out.trans (k3.mono (by have := S3.out; omega)))
  have S5 := Lib.hid (show w.heap.size + 1 < w3.heap.size from blk_lt h1)
  clear c0 c1 c2 c3 c4 c5 cf
  obtain ⟨c0, c1, c2, c3, c4, c5, cf⟩ := six h0
  have H05 := Lib.hid h0
  have H15 := Lib.hid h1
  clear h0 h1 k3
  go_wp2_with fail
  (with_reducible refine (HB2.out.run _).mono ?_)
  rintro e w4 ⟨rfl, k4⟩
  have h0 : w4.heap[w.heap.size]? = some (.cells #[.int .u32 x, .int .i64 d1, .int .i64 1, .int .i64 d3, .int .i64 d4, .int .i64 d5] 220 (0, 0)) := by rw [k4.block _ (by have := S5.out; omega)]; exact H05.out
  have h2 : w4.heap[w.heap.size + 1]? = some (.cells #[.int .i64 0, .int .i64 0, .int .i64 0, .int .i64 0, .int .i64 0, .int .i64 0] 28 (0, 0)) := by rw [k4.block _ S5.out]; exact H15.out
  have B4 := Lib.hid (B5.out.trans (k4.mono (by have := S5.out; omega)))
  clear c0 c1 c2 c3 c4 c5 cf
  obtain ⟨c0, c1, c2, c3, c4, c5, cf⟩ := six h0
  obtain ⟨z0, z1, z2, z3, z4, z5, zf⟩ := six h2
  have h2x := h2
  have h0x := h0
  clear h0 h2 k4
  skip
  skip
  clear h0x
  have FIN := Lib.hid (six_end (c0 := .int .i64 0) (c1 := .int .i64 0) (c2 := .int .i64 0) (c3 := .int .i64 0) (c4 := .int .i64 0) (c5 := .int .i64 0) h2x B4.out (by omega))
  clear h2x
  go_wp2
  obtain ⟨E1, E2⟩ := FIN.out
  clear c0 c1 c2 c3 c4 c5 cf z0 z1 z2 z3 z4 z5 zf
  skip
  generalize ((((((w4.setCell ⟨w.heap.size + 1, 0, none⟩ (.int .i64 0)).setCell ⟨w.heap.size + 1, 1, none⟩ (.int .i64 0)).setCell ⟨w.heap.size + 1, 2, none⟩ (.int .i64 0)).setCell ⟨w.heap.size + 1, 3, none⟩ (.int .i64 0)).setCell ⟨w.heap.size + 1, 4, none⟩ (.int .i64 0)).setCell ⟨w.heap.size + 1, 5, none⟩ (.int .i64 0)) = W9 at *
  obtain ⟨q0, q1, q2, q3, q4, q5, _⟩ := six E1
  refine bodyPost_ret (v := .tuple #[.agg #[.int .i64 0, .int .i64 0, .int .i64 0, .int .i64 0, .int .i64 0, .int .i64 0], .bool false]) (by simp [results, Tryz.results175, asAddr, loadVar, isAgg, loadCells, Tryz.underlying28, go_sem, q0, q1, q2, q3, q4, q5, Result.andThen]) rfl ?_
  exact ⟨rfl, E2⟩
set_option maxHeartbeats 1000000 in
theorem reck_w1_00 (x d1 d3 d4 d5 : Int) (q : Int) (hq : q = 19) (v r1 r2 ab : BitVec 64) (hv : IntKind.u64.wrap x = (v.toNat : Int))
    (hop : Gives Tryz.prog 172 #[.int .u32 x] (.int .i64 q))
    (hB1 : Gives Tryz.prog 78 #[.int .u64 (v.toNat : Int), .int .i64 20, .int .i64 6] (.int .u64 (r1.toNat : Int)))
    (hB2 : Gives Tryz.prog 78 #[.int .u64 (v.toNat : Int), .int .i64 26, .int .i64 6] (.int .u64 (r2.toNat : Int)))
    (hab : IntKind.u64.wrap ((r2.toNat : Int) * 64) = (ab.toNat : Int)) (e1 : ((ab.toNat : Int) == 1024) = false) (e2 : ((ab.toNat : Int) != 0) = false) :
    Gives Tryz.prog 175 #[.agg #[.int .u32 x, .int .i64 d1, .int .i64 1, .int .i64 d3, .int .i64 d4, .int .i64 d5]] (.tuple #[.agg #[.int .i64 28, .int .i64 d1, .int .i64 d3, .int .i64 0, .int .i64 (wrap64 (r1.toNat : Int)), .int .i64 0], .bool true]) := by
  subst hq
  intro w
  obtain ⟨W1, hW1⟩ : ∃ W1, W1 = w.alloc (.cells #[.int .u32 x, .int .i64 d1, .int .i64 1, .int .i64 d3, .int .i64 d4, .int .i64 d5] 220) := ⟨_, rfl⟩
  have s1 : W1.heap.size = w.heap.size + 1 := by rw [hW1]; simp
  have g0 : W1.heap[w.heap.size]? = some (.cells #[.int .u32 x, .int .i64 d1, .int .i64 1, .int .i64 d3, .int .i64 d4, .int .i64 d5] 220 (0, 0)) := by rw [hW1]; exact (MapKept.heap_alloc _ _).1
  have b0 : Below w.heap.size w W1 := by rw [hW1]; exact (Below.refl w.heap.size w).alloc (Nat.le_refl _) _
  obtain ⟨W2, hW2⟩ : ∃ W2, W2 = W1.alloc (.cells #[.int .i64 0, .int .i64 0, .int .i64 0, .int .i64 0, .int .i64 0, .int .i64 0] 28) := ⟨_, rfl⟩
  have s2 : W2.heap.size = w.heap.size + 1 + 1 := by rw [hW2]; simp [s1]
  have b1 : Below W1.heap.size W1 W2 := by rw [hW2]; exact (Below.refl W1.heap.size W1).alloc (Nat.le_refl _) _
  have g1 : W2.heap[w.heap.size + 1]? = some (.cells #[.int .i64 0, .int .i64 0, .int .i64 0, .int .i64 0, .int .i64 0, .int .i64 0] 28 (0, 0)) := by rw [hW2, ← s1]; exact (MapKept.heap_alloc _ _).1
  have g0' : W2.heap[w.heap.size]? = some (.cells #[.int .u32 x, .int .i64 d1, .int .i64 1, .int .i64 d3, .int .i64 d4, .int .i64 d5] 220 (0, 0)) := by rw [b1.block _ (by omega)]; exact g0
  have B2 : Below w.heap.size w W2 := b0.trans (b1.mono (by omega))
  have ia : ∀ W : World, (Instr.index 289 (.agg #[.int .i64 22, .int .i64 28, .int .i64 23, .int .i64 24, .int .i64 25, .int .i64 29, .int .i64 26, .int .i64 27]) (.int .i64 1)).run Tryz.prog W = .ok (.int .i64 28) W := fun W => by kernel_rfl
  have ib : ∀ W : World, (Instr.index 289 (.agg #[.int .i64 31, .int .i64 32, .int .i64 0, .int .i64 0, .int .i64 0, .int .i64 33, .int .i64 0, .int .i64 0]) (.int .i64 1)).run Tryz.prog W = .ok (.int .i64 32) W := fun W => by kernel_rfl
  have HOP := Lib.hid hop
  have HB1 := Lib.hid hB1
  have HB2 := Lib.hid hB2
  have HS := Lib.hid s2
  have HB := Lib.hid B2
  have HG0 := Lib.hid g0'
  have HG1 := Lib.hid g1
  have HW := Lib.hid (hW2.trans (by rw [hW1]))
  clear hop hB1 hB2 s1 s2 g0 g0' g1 b0 b1 B2 hW1 hW2
  go_enter Tryz.func175, Tryz.ntmps175
  go_wp2_with fail
  rw [← HW.out]
  (with_reducible refine (HOP.out.run _).mono ?_)
  rintro e w1 ⟨rfl, k1⟩
  have h0 : w1.heap[w.heap.size]? = some (.cells #[.int .u32 x, .int .i64 d1, .int .i64 1, .int .i64 d3, .int .i64 d4, .int .i64 d5] 220 (0, 0)) := by rw [k1.block _ (by have := HS.out; omega)]; exact HG0.out
  have h1 : w1.heap[w.heap.size + 1]? = some (.cells #[.int .i64 0, .int .i64 0, .int .i64 0, .int .i64 0, .int .i64 0, .int .i64 0] 28 (0, 0)) := by rw [k1.block _ (by have := HS.out; omega)]; exact HG1.out
  have B3 := Lib.hid (HB.out.trans (k1.mono (by have := HS.out; omega)))
  have S3 := Lib.hid (show w.heap.size + 1 < w1.heap.size from blk_lt h1)
  obtain ⟨c0, c1, c2, c3, c4, c5, cf⟩ := six h0
  have H0 := Lib.hid h0
  have H1 := Lib.hid h1
  clear h0 h1 k1
  go_wp2_with fail
  (with_reducible refine (HB1.out.run _).mono ?_)
  rintro e w3 ⟨rfl, k3⟩
  have h0 : w3.heap[w.heap.size]? = some (.cells #[.int .u32 x, .int .i64 d1, .int .i64 1, .int .i64 d3, .int .i64 d4, .int .i64 d5] 220 (0, 0)) := by rw [k3.block _ (by have := S3.out; omega)]; exact H0.out
  have h1 : w3.heap[w.heap.size + 1]? = some (.cells #[.int .i64 0, .int .i64 0, .int .i64 0, .int .i64 0, .int .i64 0, .int .i64 0] 28 (0, 0)) := by rw [k3.block _ S3.out]; exact H1.out
  have B5 := Lib.hid (B3.out.trans (k3.mono (by have := S3.out; omega)))
  have S5 := Lib.hid (show w.heap.size + 1 < w3.heap.size from blk_lt h1)
  clear c0 c1 c2 c3 c4 c5 cf
  obtain ⟨c0, c1, c2, c3, c4, c5, cf⟩ := six h0
  have H05 := Lib.hid h0
  have H15 := Lib.hid h1
  clear h0 h1 k3
  go_wp2_with fail
  (with_reducible refine (HB2.out.run _).mono ?_)
  rintro e w4 ⟨rfl, k4⟩
  have h0 : w4.heap[w.heap.size]? = some (.cells #[.int .u32 x, .int .i64 d1, .int .i64 1, .int .i64 d3, .int .i64 d4, .int .i64 d5] 220 (0, 0)) := by rw [k4.block _ (by have := S5.out; omega)]; exact H05.out
  have h2 : w4.heap[w.heap.size + 1]? = some (.cells #[.int .i64 0, .int .i64 0, .int .i64 0, .int .i64 0, .int .i64 0, .int .i64 0] 28 (0, 0)) := by rw [k4.block _ S5.out]; exact H15.out
  have B4 := Lib.hid (B5.out.trans (k4.mono (by have := S5.out; omega)))
  clear c0 c1 c2 c3 c4 c5 cf
  obtain ⟨c0, c1, c2, c3, c4, c5, cf⟩ := six h0
  obtain ⟨z0, z1, z2, z3, z4, z5, zf⟩ := six h2
  have h2x := h2
  have h0x := h0
  clear h0 h2 k4
  skip
  skip
  clear h0x
  have FIN := Lib.hid (six_end (c0 := .int .i64 28) (c1 := .int .i64 d1) (c2 := .int .i64 d3) (c3 := .int .i64 0) (c4 := .int .i64 (wrap64 (r1.toNat : Int))) (c5 := .int .i64 0) h2x B4.out (by omega))
  clear h2x
  go_wp2
  obtain ⟨E1, E2⟩ := FIN.out
  clear c0 c1 c2 c3 c4 c5 cf z0 z1 z2 z3 z4 z5 zf
  skip
  generalize ((((((w4.setCell ⟨w.heap.size + 1, 0, none⟩ (.int .i64 28)).setCell ⟨w.heap.size + 1, 1, none⟩ (.int .i64 d1)).setCell ⟨w.heap.size + 1, 2, none⟩ (.int .i64 d3)).setCell ⟨w.heap.size + 1, 3, none⟩ (.int .i64 0)).setCell ⟨w.heap.size + 1, 4, none⟩ (.int .i64 (wrap64 (r1.toNat : Int)))).setCell ⟨w.heap.size + 1, 5, none⟩ (.int .i64 0)) = W9 at *
  obtain ⟨q0, q1, q2, q3, q4, q5, _⟩ := six E1
  refine bodyPost_ret (v := .tuple #[.agg #[.int .i64 28, .int .i64 d1, .int .i64 d3, .int .i64 0, .int .i64 (wrap64 (r1.toNat : Int)), .int .i64 0], .bool true]) (by simp [results, Tryz.results175, asAddr, loadVar, isAgg, loadCells, Tryz.underlying28, go_sem, q0, q1, q2, q3, q4, q5, Result.andThen]) rfl ?_
  exact ⟨rfl, E2⟩
set_option maxHeartbeats 1000000 in
theorem reck_w5_10 (x d1 d3 d4 d5 : Int) (q : Int) (hq : q = 19) (v r1 r2 ab : BitVec 64) (hv : IntKind.u64.wrap x = (v.toNat : Int))
    (hop : Gives Tryz.prog 172 #[.int .u32 x] (.int .i64 q))
    (hB1 : Gives Tryz.prog 78 #[.int .u64 (v.toNat : Int), .int .i64 20, .int .i64 6] (.int .u64 (r1.toNat : Int)))
    (hB2 : Gives Tryz.prog 78 #[.int .u64 (v.toNat : Int), .int .i64 26, .int .i64 6] (.int .u64 (r2.toNat : Int)))
    (hab : IntKind.u64.wrap ((r2.toNat : Int) * 64) = (ab.toNat : Int)) (e1 : ((ab.toNat : Int) == 1024) = true)  :
    Gives Tryz.prog 175 #[.agg #[.int .u32 x, .int .i64 d1, .int .i64 5, .int .i64 d3, .int .i64 d4, .int .i64 d5]] (.tuple #[.agg #[.int .i64 30, .int .i64 d1, .int .i64 d3, .int .i64 0, .int .i64 (wrap64 (r1.toNat : Int)), .int .i64 0], .bool true]) := by
  subst hq
  intro w
  obtain ⟨W1, hW1⟩ : ∃ W1, W1 = w.alloc (.cells #[.int .u32 x, .int .i64 d1, .int .i64 5, .int .i64 d3, .int .i64 d4, .int .i64 d5] 220) := ⟨_, rfl⟩
  have s1 : W1.heap.size = w.heap.size + 1 := by rw [hW1]; simp
  have g0 : W1.heap[w.heap.size]? = some (.cells #[.int .u32 x, .int .i64 d1, .int .i64 5, .int .i64 d3, .int .i64 d4, .int .i64 d5] 220 (0, 0)) := by rw [hW1]; exact (MapKept.heap_alloc _ _).1
  have b0 : Below w.heap.size w W1 := by rw [hW1]; exact (Below.refl w.heap.size w).alloc (Nat.le_refl _) _
  obtain ⟨W2, hW2⟩ : ∃ W2, W2 = W1.alloc (.cells #[.int .i64 0, .int .i64 0, .int .i64 0, .int .i64 0, .int .i64 0, .int .i64 0] 28) := ⟨_, rfl⟩
  have s2 : W2.heap.size = w.heap.size + 1 + 1 := by rw [hW2]; simp [s1]
  have b1 : Below W1.heap.size W1 W2 := by rw [hW2]; exact (Below.refl W1.heap.size W1).alloc (Nat.le_refl _) _
  have g1 : W2.heap[w.heap.size + 1]? = some (.cells #[.int .i64 0, .int .i64 0, .int .i64 0, .int .i64 0, .int .i64 0, .int .i64 0] 28 (0, 0)) := by rw [hW2, ← s1]; exact (MapKept.heap_alloc _ _).1
  have g0' : W2.heap[w.heap.size]? = some (.cells #[.int .u32 x, .int .i64 d1, .int .i64 5, .int .i64 d3, .int .i64 d4, .int .i64 d5] 220 (0, 0)) := by rw [b1.block _ (by omega)]; exact g0
  have B2 : Below w.heap.size w W2 := b0.trans (b1.mono (by omega))
  have ia : ∀ W : World, (Instr.index 289 (.agg #[.int .i64 22, .int .i64 28, .int .i64 23, .int .i64 24, .int .i64 25, .int .i64 29, .int .i64 26, .int .i64 27]) (.int .i64 5)).run Tryz.prog W = .ok (.int .i64 29) W := fun W => by kernel_rfl
  have ib : ∀ W : World, (Instr.index 289 (.agg #[.int .i64 31, .int .i64 32, .int .i64 0, .int .i64 0, .int .i64 0, .int .i64 33, .int .i64 0, .int .i64 0]) (.int .i64 5)).run Tryz.prog W = .ok (.int .i64 33) W := fun W => by kernel_rfl
  have hm : ∀ W : World, (Instr.makeMap 323 none).run Tryz.prog W = .ok (.map (some W.heap.size)) (W.alloc (.map #[] 0)) := fun _ => rfl
  have u0 : ∀ W : World, (Instr.mapUpdate 323 (.map (some W.heap.size)) (.int .i64 29) (.int .i64 30)).run Tryz.prog (W.alloc (.map #[] 0)) = .ok () (W.alloc (.map rk1 1)) := fun W => upd_new (kt := 3) (et := 3) (d := .int .i64) Tryz.underlying323 Tryz.underlying3 (by trivial) rfl W
  have u1 : ∀ W : World, (Instr.mapUpdate 323 (.map (some W.heap.size)) (.int .i64 33) (.int .i64 34)).run Tryz.prog (W.alloc (.map rk1 1)) = .ok () (W.alloc (.map rk2 2)) := fun W => upd_new (kt := 3) (et := 3) (d := .int .i64) Tryz.underlying323 Tryz.underlying3 (by trivial) rfl W
  have lk : ∀ W : World, (Instr.lookup 323 (.map (some W.heap.size)) (.int .i64 29) false).run Tryz.prog (W.alloc (.map rk2 2)) = .ok (.int .i64 30) (W.alloc (.map rk2 2)) := fun W => look_hit (i := 0) Tryz.underlying323 Tryz.underlying3 (by trivial) rfl (MapKept.heap_alloc _ _).1
  have HOP := Lib.hid hop
  have HB1 := Lib.hid hB1
  have HB2 := Lib.hid hB2
  have HS := Lib.hid s2
  have HB := Lib.hid B2
  have HG0 := Lib.hid g0'
  have HG1 := Lib.hid g1
  have HW := Lib.hid (hW2.trans (by rw [hW1]))
  clear hop hB1 hB2 s1 s2 g0 g0' g1 b0 b1 B2 hW1 hW2
  go_enter Tryz.func175, Tryz.ntmps175
  go_wp2_with fail
  rw [← HW.out]
  (with_reducible refine (HOP.out.run _).mono ?_)
  rintro e w1 ⟨rfl, k1⟩
  have h0 : w1.heap[w.heap.size]? = some (.cells #[.int .u32 x, .int .i64 d1, .int .i64 5, .int .i64 d3, .int .i64 d4, .int .i64 d5] 220 (0, 0)) := by rw [k1.block _ (by have := HS.out; omega)]; exact HG0.out
  have h1 : w1.heap[w.heap.size + 1]? = some (.cells #[.int .i64 0, .int .i64 0, .int .i64 0, .int .i64 0, .int .i64 0, .int .i64 0] 28 (0, 0)) := by rw [k1.block _ (by have := HS.out; omega)]; exact HG1.out
  have B3 := Lib.hid (HB.out.trans (k1.mono (by have := HS.out; omega)))
  have S3 := Lib.hid (show w.heap.size + 1 < w1.heap.size from blk_lt h1)
  obtain ⟨c0, c1, c2, c3, c4, c5, cf⟩ := six h0
  have H0 := Lib.hid h0
  have H1 := Lib.hid h1
  clear h0 h1 k1
  go_wp2_with fail
  (with_reducible refine (HB1.out.run _).mono ?_)
  rintro e w3 ⟨rfl, k3⟩
  have h0 : w3.heap[w.heap.size]? = some (.cells #[.int .u32 x, .int .i64 d1, .int .i64 5, .int .i64 d3, .int .i64 d4, .int .i64 d5] 220 (0, 0)) := by rw [k3.block _ (by have := S3.out; omega)]; exact H0.out
  have h1 : w3.heap[w.heap.size + 1]? = some (.cells #[.int .i64 0, .int .i64 0, .int .i64 0, .int .i64 0, .int .i64 0, .int .i64 0] 28 (0, 0)) := by rw [k3.block _ S3.out]; exact H1.out
  have B5 := Lib.hid (B3.out.trans (k3.mono (by have := S3.out; omega)))
  have S5 := Lib.hid (show w.heap.size + 1 < w3.heap.size from blk_lt h1)
  clear c0 c1 c2 c3 c4 c5 cf
  obtain ⟨c0, c1, c2, c3, c4, c5, cf⟩ := six h0
  have H05 := Lib.hid h0
  have H15 := Lib.hid h1
  clear h0 h1 k3
  go_wp2_with fail
  (with_reducible refine (HB2.out.run _).mono ?_)
  rintro e w4 ⟨rfl, k4⟩
  have h0 : w4.heap[w.heap.size]? = some (.cells #[.int .u32 x, .int .i64 d1, .int .i64 5, .int .i64 d3, .int .i64 d4, .int .i64 d5] 220 (0, 0)) := by rw [k4.block _ (by have := S5.out; omega)]; exact H05.out
  have h2 : w4.heap[w.heap.size + 1]? = some (.cells #[.int .i64 0, .int .i64 0, .int .i64 0, .int .i64 0, .int .i64 0, .int .i64 0] 28 (0, 0)) := by rw [k4.block _ S5.out]; exact H15.out
  have B4 := Lib.hid (B5.out.trans (k4.mono (by have := S5.out; omega)))
  clear c0 c1 c2 c3 c4 c5 cf
  obtain ⟨c0, c1, c2, c3, c4, c5, cf⟩ := six h0
  obtain ⟨z0, z1, z2, z3, z4, z5, zf⟩ := six h2
  have h2x := h2
  have h0x := h0
  clear h0 h2 k4
  obtain ⟨p0, p1, p2, p3, p4, p5, pf⟩ := six ((Below.heap_alloc w4 (.map rk2 2) _ (blk_lt h0x)).trans h0x)
  obtain ⟨y0, y1, y2, y3, y4, y5, yf⟩ := six ((Below.heap_alloc w4 (.map rk2 2) _ (blk_lt h2x)).trans h2x)
  clear h0x
  have FIN := Lib.hid (six_end (c0 := .int .i64 30) (c1 := .int .i64 d1) (c2 := .int .i64 d3) (c3 := .int .i64 0) (c4 := .int .i64 (wrap64 (r1.toNat : Int))) (c5 := .int .i64 0) ((Below.heap_alloc w4 (.map rk2 2) _ (blk_lt h2x)).trans h2x) (B4.out.alloc B4.out.size (.map rk2 2)) (by omega))
  clear h2x
  go_wp2
  obtain ⟨E1, E2⟩ := FIN.out
  clear c0 c1 c2 c3 c4 c5 cf z0 z1 z2 z3 z4 z5 zf
  clear p0 p1 p2 p3 p4 p5 pf y0 y1 y2 y3 y4 y5 yf u0 u1 lk hm
  generalize (((((((w4.alloc (.map rk2 2)).setCell ⟨w.heap.size + 1, 0, none⟩ (.int .i64 30)).setCell ⟨w.heap.size + 1, 1, none⟩ (.int .i64 d1)).setCell ⟨w.heap.size + 1, 2, none⟩ (.int .i64 d3)).setCell ⟨w.heap.size + 1, 3, none⟩ (.int .i64 0)).setCell ⟨w.heap.size + 1, 4, none⟩ (.int .i64 (wrap64 (r1.toNat : Int)))).setCell ⟨w.heap.size + 1, 5, none⟩ (.int .i64 0)) = W9 at *
  obtain ⟨q0, q1, q2, q3, q4, q5, _⟩ := six E1
  refine bodyPost_ret (v := .tuple #[.agg #[.int .i64 30, .int .i64 d1, .int .i64 d3, .int .i64 0, .int .i64 (wrap64 (r1.toNat : Int)), .int .i64 0], .bool true]) (by simp [results, Tryz.results175, asAddr, loadVar, isAgg, loadCells, Tryz.underlying28, go_sem, q0, q1, q2, q3, q4, q5, Result.andThen]) rfl ?_
  exact ⟨rfl, E2⟩
set_option maxHeartbeats 1000000 in
theorem reck_w5_01 (x d1 d3 d4 d5 : Int) (q : Int) (hq : q = 19) (v r1 r2 ab : BitVec 64) (hv : IntKind.u64.wrap x = (v.toNat : Int))
    (hop : Gives Tryz.prog 172 #[.int .u32 x] (.int .i64 q))
    (hB1 : Gives Tryz.prog 78 #[.int .u64 (v.toNat : Int), .int .i64 20, .int .i64 6] (.int .u64 (r1.toNat : Int)))
    (hB2 : Gives Tryz.prog 78 #[.int .u64 (v.toNat : Int), .int .i64 26, .int .i64 6] (.int .u64 (r2.toNat : Int)))
    (hab : IntKind.u64.wrap ((r2.toNat : Int) * 64) = (ab.toNat : Int)) (e1 : ((ab.toNat : Int) == 1024) = false) (e2 : ((ab.toNat : Int) != 0) = true) :
    Gives Tryz.prog 175 #[.agg #[.int .u32 x, .int .i64 d1, .int .i64 5, .int .i64 d3, .int .i64 d4, .int .i64 d5]] (.tuple #[.agg #[.int .i64 0, .int .i64 0, .int .i64 0, .int .i64 0, .int .i64 0, .int .i64 0], .bool false]) := by
  subst hq
  intro w
  obtain ⟨W1, hW1⟩ : ∃ W1, W1 = w.alloc (.cells #[.int .u32 x, .int .i64 d1, .int .i64 5, .int .i64 d3, .int .i64 d4, .int .i64 d5] 220) := ⟨_, rfl⟩
  have s1 : W1.heap.size = w.heap.size + 1 := by rw [hW1]; simp
  have g0 : W1.heap[w.heap.size]? = some (.cells #[.int .u32 x, .int .i64 d1, .int .i64 5, .int .i64 d3, .int .i64 d4, .int .i64 d5] 220 (0, 0)) := by rw [hW1]; exact (MapKept.heap_alloc _ _).1
  have b0 : Below w.heap.size w W1 := by rw [hW1]; exact (Below.refl w.heap.size w).alloc (Nat.le_refl _) _
  obtain ⟨W2, hW2⟩ : ∃ W2, W2 = W1.alloc (.cells #[.int .i64 0, .int .i64 0, .int .i64 0, .int .i64 0, .int .i64 0, .int .i64 0] 28) := ⟨_, rfl⟩
  have s2 : W2.heap.size = w.heap.size + 1 + 1 := by rw [hW2]; simp [s1]
  have b1 : Below W1.heap.size W1 W2 := by rw [hW2]; exact (Below.refl W1.heap.size W1).alloc (Nat.le_refl _) _
  have g1 : W2.heap[w.heap.size + 1]? = some (.cells #[.int .i64 0, .int .i64 0, .int .i64 0, .int .i64 0, .int .i64 0, .int .i64 0] 28 (0, 0)) := by rw [hW2, ← s1]; exact (MapKept.heap_alloc _ _).1
  have g0' : W2.heap[w.heap.size]? = some (.cells #[.int .u32 x, .int .i64 d1, .int .i64 5, .int .i64 d3, .int .i64 d4, .int .i64 d5] 220 (0, 0)) := by rw [b1.block _ (by omega)]; exact g0
  have B2 : Below w.heap.size w W2 := b0.trans (b1.mono (by omega))
  have ia : ∀ W : World, (Instr.index 289 (.agg #[.int .i64 22, .int .i64 28, .int .i64 23, .int .i64 24, .int .i64 25, .int .i64 29, .int .i64 26, .int .i64 27]) (.int .i64 5)).run Tryz.prog W = .ok (.int .i64 29) W := fun W => by kernel_rfl
  have ib : ∀ W : World, (Instr.index 289 (.agg #[.int .i64 31, .int .i64 32, .int .i64 0, .int .i64 0, .int .i64 0, .int .i64 33, .int .i64 0, .int .i64 0]) (.int .i64 5)).run Tryz.prog W = .ok (.int .i64 33) W := fun W => by kernel_rfl
  have HOP := Lib.hid hop
  have HB1 := Lib.hid hB1
  have HB2 := Lib.hid hB2
  have HS := Lib.hid s2
  have HB := Lib.hid B2
  have HG0 := Lib.hid g0'
  have HG1 := Lib.hid g1
  have HW := Lib.hid (hW2.trans (by rw [hW1]))
  clear hop hB1 hB2 s1 s2 g0 g0' g1 b0 b1 B2 hW1 hW2
  go_enter Tryz.func175, Tryz.ntmps175
  go_wp2_with fail
  rw [← HW.out]
  (with_reducible refine (HOP.out.run _).mono ?_)
  rintro e w1 ⟨rfl, k1⟩
  have h0 : w1.heap[w.heap.size]? = some (.cells #[.int .u32 x, .int .i64 d1, .int .i64 5, .int .i64 d3, .int .i64 d4, .int .i64 d5] 220 (0, 0)) := by rw [k1.block _ (by have := HS.out; omega)]; exact HG0.out
  have h1 : w1.heap[w.heap.size + 1]? = some (.cells #[.int .i64 0, .int .i64 0, .int .i64 0, .int .i64 0, .int .i64 0, .int .i64 0] 28 (0, 0)) := by rw [k1.block _ (by have := HS.out; omega)]; exact HG1.out
  have B3 := Lib.hid (HB.out.trans (k1.mono (by have := HS.out; omega)))
  have S3 := Lib.hid (show w.heap.size + 1 < w1.heap.size from blk_lt h1)
  obtain ⟨c0, c1, c2, c3, c4, c5, cf⟩ := six h0
  have H0 := Lib.hid h0
  have H1 := Lib.hid h1
  clear h0 h1 k1
  go_wp2_with fail
  (with_reducible refine (HB1.out.run _).mono ?_)
  rintro e w3 ⟨rfl, k3⟩
  have h0 : w3.heap[w.heap.size]? = some (.cells #[.int .u32 x, .int .i64 d1, .int .i64 5, .int .i64 d3, .int .i64 d4, .int .i64 d5] 220 (0, 0)) := by rw [k3.block _ (by have := S3.out; omega)]; exact H0.out
  have h1 : w3.heap[w.heap.size + 1]? = some (.cells #[.int .i64 0, .int .i64 0, .int .i64 0, .int .i64 0, .int .i64 0, .int .i64 0] 28 (0, 0)) := by rw [k3.block _ S3.out]; exact H1.out
  have B5 := Lib.hid (B3.out.trans (k3.mono (by have := S3.out; omega)))
  have S5 := Lib.hid (show w.heap.size + 1 < w3.heap.size from blk_lt h1)
  clear c0 c1 c2 c3 c4 c5 cf
  obtain ⟨c0, c1, c2, c3, c4, c5, cf⟩ := six h0
  have H05 := Lib.hid h0
  have H15 := Lib.hid h1
  clear h0 h1 k3
  go_wp2_with fail
  (with_reducible refine (HB2.out.run _).mono ?_)
  rintro e w4 ⟨rfl, k4⟩
  have h0 : w4.heap[w.heap.size]? = some (.cells #[.int .u32 x, .int .i64 d1, .int .i64 5, .int .i64 d3, .int .i64 d4, .int .i64 d5] 220 (0, 0)) := by rw [k4.block _ (by have := S5.out; omega)]; exact H05.out
  have h2 : w4.heap[w.heap.size + 1]? = some (.cells #[.int .i64 0, .int .i64 0, .int .i64 0, .int .i64 0, .int .i64 0, .int .i64 0] 28 (0, 0)) := by rw [k4.block _ S5.out]; exact H15.out
  have B4 := Lib.hid (B5.out.trans (k4.mono (by have := S5.out; omega)))
  clear c0 c1 c2 c3 c4 c5 cf
  obtain ⟨c0, c1, c2, c3, c4, c5, cf⟩ := six h0
  obtain ⟨z0, z1, z2, z3, z4, z5, zf⟩ := six h2
  have h2x := h2
  have h0x := h0
  clear h0 h2 k4
  skip
  skip
  clear h0x
  have FIN := Lib.hid (six_end (c0 := .int .i64 0) (c1 := .int .i64 0) (c2 := .int .i64 0) (c3 := .int .i64 0) (c4 := .int .i64 0) (c5 := .int .i64 0) h2x B4.out (by omega))
  clear h2x
  go_wp2
  obtain ⟨E1, E2⟩ := FIN.out
  clear c0 c1 c2 c3 c4 c5 cf z0 z1 z2 z3 z4 z5 zf
  skip
  generalize ((((((w4.setCell ⟨w.heap.size + 1, 0, none⟩ (.int .i64 0)).setCell ⟨w.heap.size + 1, 1, none⟩ (.int .i64 0)).setCell ⟨w.heap.size + 1, 2, none⟩ (.int .i64 0)).setCell ⟨w.heap.size + 1, 3, none⟩ (.int .i64 0)).setCell ⟨w.heap.size + 1, 4, none⟩ (.int .i64 0)).setCell ⟨w.heap.size + 1, 5, none⟩ (.int .i64 0)) = W9 at *
  obtain ⟨q0, q1, q2, q3, q4, q5, _⟩ := six E1
  refine bodyPost_ret (v := .tuple #[.agg #[.int .i64 0, .int .i64 0, .int .i64 0, .int .i64 0, .int .i64 0, .int .i64 0], .bool false]) (by simp [results, Tryz.results175, asAddr, loadVar, isAgg, loadCells, Tryz.underlying28, go_sem, q0, q1, q2, q3, q4, q5, Result.andThen]) rfl ?_
  exact ⟨rfl, E2⟩
set_option maxHeartbeats 1000000 in
theorem reck_w5_00 (x d1 d3 d4 d5 : Int) (q : Int) (hq : q = 19) (v r1 r2 ab : BitVec 64) (hv : IntKind.u64.wrap x = (v.toNat : Int))
    (hop : Gives Tryz.prog 172 #[.int .u32 x] (.int .i64 q))
    (hB1 : Gives Tryz.prog 78 #[.int .u64 (v.toNat : Int), .int .i64 20, .int .i64 6] (.int .u64 (r1.toNat : Int)))
    (hB2 : Gives Tryz.prog 78 #[.int .u64 (v.toNat : Int), .int .i64 26, .int .i64 6] (.int .u64 (r2.toNat : Int)))
    (hab : IntKind.u64.wrap ((r2.toNat : Int) * 64) = (ab.toNat : Int)) (e1 : ((ab.toNat : Int) == 1024) = false) (e2 : ((ab.toNat : Int) != 0) = false) :
    Gives Tryz.prog 175 #[.agg #[.int .u32 x, .int .i64 d1, .int .i64 5, .int .i64 d3, .int .i64 d4, .int .i64 d5]] (.tuple #[.agg #[.int .i64 29, .int .i64 d1, .int .i64 d3, .int .i64 0, .int .i64 (wrap64 (r1.toNat : Int)), .int .i64 0], .bool true]) := by
  subst hq
  intro w
  obtain ⟨W1, hW1⟩ : ∃ W1, W1 = w.alloc (.cells #[.int .u32 x, .int .i64 d1, .int .i64 5, .int .i64 d3, .int .i64 d4, .int .i64 d5] 220) := ⟨_, rfl⟩
  have s1 : W1.heap.size = w.heap.size + 1 := by rw [hW1]; simp
  have g0 : W1.heap[w.heap.size]? = some (.cells #[.int .u32 x, .int .i64 d1, .int .i64 5, .int .i64 d3, .int .i64 d4, .int .i64 d5] 220 (0, 0)) := by rw [hW1]; exact (MapKept.heap_alloc _ _).1
  have b0 : Below w.heap.size w W1 := by rw [hW1]; exact (Below.refl w.heap.size w).alloc (Nat.le_refl _) _
  obtain ⟨W2, hW2⟩ : ∃ W2, W2 = W1.alloc (.cells #[.int .i64 0, .int .i64 0, .int .i64 0, .int .i64 0, .int .i64 0, .int .i64 0] 28) := ⟨_, rfl⟩
  have s2 : W2.heap.size = w.heap.size + 1 + 1 := by rw [hW2]; simp [s1]
  have b1 : Below W1.heap.size W1 W2 := by rw [hW2]; exact (Below.refl W1.heap.size W1).alloc (Nat.le_refl _) _
  have g1 : W2.heap[w.heap.size + 1]? = some (.cells #[.int .i64 0, .int .i64 0, .int .i64 0, .int .i64 0, .int .i64 0, .int .i64 0] 28 (0, 0)) := by rw [hW2, ← s1]; exact (MapKept.heap_alloc _ _).1
  have g0' : W2.heap[w.heap.size]? = some (.cells #[.int .u32 x, .int .i64 d1, .int .i64 5, .int .i64 d3, .int .i64 d4, .int .i64 d5] 220 (0, 0)) := by rw [b1.block _ (by omega)]; exact g0
  have B2 : Below w.heap.size w W2 := b0.trans (b1.mono (by omega))
  have ia : ∀ W : World, (Instr.index 289 (.agg #[.int .i64 22, .int .i64 28, .int .i64 23, .int .i64 24, .int .i64 25, .int .i64 29, .int .i64 26, .int .i64 27]) (.int .i64 5)).run Tryz.prog W = .ok (.int .i64 29) W := fun W => by kernel_rfl
  have ib : ∀ W : World, (Instr.index 289 (.agg #[.int .i64 31, .int .i64 32, .int .i64 0, .int .i64 0, .int .i64 0, .int .i64 33, .int .i64 0, .int .i64 0]) (.int .i64 5)).run Tryz.prog W = .ok (.int .i64 33) W := fun W => by kernel_rfl
  have HOP := Lib.hid hop
  have HB1 := Lib.hid hB1
  have HB2 := Lib.hid hB2
  have HS := Lib.hid s2
  have HB := Lib.hid B2
  have HG0 := Lib.hid g0'
  have HG1 := Lib.hid g1
  have HW := Lib.hid (hW2.trans (by rw [hW1]))
  clear hop hB1 hB2 s1 s2 g0 g0' g1 b0 b1 B2 hW1 hW2
  go_enter Tryz.func175, Tryz.ntmps175
  go_wp2_with fail
  rw [← HW.out]
  (with_reducible refine (HOP.out.run _).mono ?_)
  rintro e w1 ⟨rfl, k1⟩
  have h0 : w1.heap[w.heap.size]? = some (.cells #[.int .u32 x, .int .i64 d1, .int .i64 5, .int .i64 d3, .int .i64 d4, .int .i64 d5] 220 (0, 0)) := by rw [k1.block _ (by have := HS.out; omega)]; exact HG0.out
  have h1 : w1.heap[w.heap.size + 1]? = some (.cells #[.int .i64 0, .int .i64 0, .int .i64 0, .int .i64 0, .int .i64 0, .int .i64 0] 28 (0, 0)) := by rw [k1.block _ (by have := HS.out; omega)]; exact HG1.out
  have B3 := Lib.hid (HB.out.trans (k1.mono (by have := HS.out; omega)))
  have S3 := Lib.hid (show w.heap.size + 1 < w1.heap.size from blk_lt h1)
  obtain ⟨c0, c1, c2, c3, c4, c5, cf⟩ := six h0
  have H0 := Lib.hid h0
  have H1 := Lib.hid h1
  clear h0 h1 k1
  go_wp2_with fail
  (with_reducible refine (HB1.out.run _).mono ?_)
  rintro e w3 ⟨rfl, k3⟩
  have h0 : w3.heap[w.heap.size]? = some (.cells #[.int .u32 x, .int .i64 d1, .int .i64 5, .int .i64 d3, .int .i64 d4, .int .i64 d5] 220 (0, 0)) := by rw [k3.block _ (by have := S3.out; omega)]; exact H0.out
  have h1 : w3.heap[w.heap.size + 1]? = some (.cells #[.int .i64 0, .int .i64 0, .int .i64 0, .int .i64 0, .int .i64 0, .int .i64 0] 28 (0, 0)) := by rw [k3.block _ S3.out]; exact H1.out
  have B5 := Lib.hid (B3.out.trans (k3.mono (by have := S3.out; omega)))
  have S5 := Lib.hid (show w.heap.size + 1 < w3.heap.size from blk_lt h1)
  clear c0 c1 c2 c3 c4 c5 cf
  obtain ⟨c0, c1, c2, c3, c4, c5, cf⟩ := six h0
  have H05 := Lib.hid h0
  have H15 := Lib.hid h1
  clear h0 h1 k3
  go_wp2_with fail
  (with_reducible refine (HB2.out.run _).mono ?_)
  rintro e w4 ⟨rfl, k4⟩
  have h0 : w4.heap[w.heap.size]? = some (.cells #[.int .u32 x, .int .i64 d1, .int .i64 5, .int .i64 d3, .int .i64 d4, .int .i64 d5] 220 (0, 0)) := by rw [k4.block _ (by have := S5.out; omega)]; exact H05.out
  have h2 : w4.heap[w.heap.size + 1]? = some (.cells #[.int .i64 0, .int .i64 0, .int .i64 0, .int .i64 0, .int .i64 0, .int .i64 0] 28 (0, 0)) := by rw [k4.block _ S5.out]; exact H15.out
  have B4 := Lib.hid (B5.out.trans (k4.mono (by have := S5.out; omega)))
  clear c0 c1 c2 c3 c4 c5 cf
  obtain ⟨c0, c1, c2, c3, c4, c5, cf⟩ := six h0
  obtain ⟨z0, z1, z2, z3, z4, z5, zf⟩ := six h2
  have h2x := h2
  have h0x := h0
  clear h0 h2 k4
  skip
  skip
  clear h0x
  have FIN := Lib.hid (six_end (c0 := .int .i64 29) (c1 := .int .i64 d1) (c2 := .int .i64 d3) (c3 := .int .i64 0) (c4 := .int .i64 (wrap64 (r1.toNat : Int))) (c5 := .int .i64 0) h2x B4.out (by omega))
  clear h2x
  go_wp2
  obtain ⟨E1, E2⟩ := FIN.out
  clear c0 c1 c2 c3 c4 c5 cf z0 z1 z2 z3 z4 z5 zf
  skip
  generalize ((((((w4.setCell ⟨w.heap.size + 1, 0, none⟩ (.int .i64 29)).setCell ⟨w.heap.size + 1, 1, none⟩ (.int .i64 d1)).setCell ⟨w.heap.size + 1, 2, none⟩ (.int .i64 d3)).setCell ⟨w.heap.size + 1, 3, none⟩ (.int .i64 0)).setCell ⟨w.heap.size + 1, 4, none⟩ (.int .i64 (wrap64 (r1.toNat : Int)))).setCell ⟨w.heap.size + 1, 5, none⟩ (.int .i64 0)) = W9 at *
  obtain ⟨q0, q1, q2, q3, q4, q5, _⟩ := six E1
  refine bodyPost_ret (v := .tuple #[.agg #[.int .i64 29, .int .i64 d1, .int .i64 d3, .int .i64 0, .int .i64 (wrap64 (r1.toNat : Int)), .int .i64 0], .bool true]) (by simp [results, Tryz.results175, asAddr, loadVar, isAgg, loadCells, Tryz.underlying28, go_sem, q0, q1, q2, q3, q4, q5, Result.andThen]) rfl ?_
  exact ⟨rfl, E2⟩
set_option maxHeartbeats 1000000 in
theorem reck_n1_01t (x d1 d3 d4 d5 : Int) (q : Int) (hq : (q == 19) = false) (v r1 r2 ab : BitVec 64) (hv : IntKind.u64.wrap x = (v.toNat : Int))
    (hop : Gives Tryz.prog 172 #[.int .u32 x] (.int .i64 q))
    (hB1 : Gives Tryz.prog 78 #[.int .u64 (v.toNat : Int), .int .i64 20, .int .i64 5] (.int .u64 (r1.toNat : Int)))
    (hB2 : Gives Tryz.prog 78 #[.int .u64 (v.toNat : Int), .int .i64 25, .int .i64 7] (.int .u64 (r2.toNat : Int)))
    (hab : IntKind.u64.wrap ((r2.toNat : Int) * 32) = (ab.toNat : Int)) (e1 : ((ab.toNat : Int) == 1024) = true) (e2 : ((ab.toNat : Int) != 0) = true) :
    Gives Tryz.prog 175 #[.agg #[.int .u32 x, .int .i64 d1, .int .i64 1, .int .i64 d3, .int .i64 d4, .int .i64 d5]] (.tuple #[.agg #[.int .i64 0, .int .i64 0, .int .i64 0, .int .i64 0, .int .i64 0, .int .i64 0], .bool false]) := by
  skip
  intro w
  obtain ⟨W1, hW1⟩ : ∃ W1, W1 = w.alloc (.cells #[.int .u32 x, .int .i64 d1, .int .i64 1, .int .i64 d3, .int .i64 d4, .int .i64 d5] 220) := ⟨_, rfl⟩
  have s1 : W1.heap.size = w.heap.size + 1 := by rw [hW1]; simp
  have g0 : W1.heap[w.heap.size]? = some (.cells #[.int .u32 x, .int .i64 d1, .int .i64 1, .int .i64 d3, .int .i64 d4, .int .i64 d5] 220 (0, 0)) := by rw [hW1]; exact (MapKept.heap_alloc _ _).1
  have b0 : Below w.heap.size w W1 := by rw [hW1]; exact (Below.refl w.heap.size w).alloc (Nat.le_refl _) _
  obtain ⟨W2, hW2⟩ : ∃ W2, W2 = W1.alloc (.cells #[.int .i64 0, .int .i64 0, .int .i64 0, .int .i64 0, .int .i64 0, .int .i64 0] 28) := ⟨_, rfl⟩
  have s2 : W2.heap.size = w.heap.size + 1 + 1 := by rw [hW2]; simp [s1]
  have b1 : Below W1.heap.size W1 W2 := by rw [hW2]; exact (Below.refl W1.heap.size W1).alloc (Nat.le_refl _) _
  have g1 : W2.heap[w.heap.size + 1]? = some (.cells #[.int .i64 0, .int .i64 0, .int .i64 0, .int .i64 0, .int .i64 0, .int .i64 0] 28 (0, 0)) := by rw [hW2, ← s1]; exact (MapKept.heap_alloc _ _).1
  have g0' : W2.heap[w.heap.size]? = some (.cells #[.int .u32 x, .int .i64 d1, .int .i64 1, .int .i64 d3, .int .i64 d4, .int .i64 d5] 220 (0, 0)) := by rw [b1.block _ (by omega)]; exact g0
  have B2 : Below w.heap.size w W2 := b0.trans (b1.mono (by omega))
  have ia : ∀ W : World, (Instr.index 289 (.agg #[.int .i64 22, .int .i64 28, .int .i64 23, .int .i64 24, .int .i64 25, .int .i64 29, .int .i64 26, .int .i64 27]) (.int .i64 1)).run Tryz.prog W = .ok (.int .i64 28) W := fun W => by kernel_rfl
  have ib : ∀ W : World, (Instr.index 289 (.agg #[.int .i64 31, .int .i64 32, .int .i64 0, .int .i64 0, .int .i64 0, .int .i64 33, .int .i64 0, .int .i64 0]) (.int .i64 1)).run Tryz.prog W = .ok (.int .i64 32) W := fun W => by kernel_rfl
  have HOP := Lib.hid hop
  have HB1 := Lib.hid hB1
  have HB2 := Lib.hid hB2
  have HS := Lib.hid s2
  have HB := Lib.hid B2
  have HG0 := Lib.hid g0'
  have HG1 := Lib.hid g1
  have HW := Lib.hid (hW2.trans (by rw [hW1]))
  clear hop hB1 hB2 s1 s2 g0 g0' g1 b0 b1 B2 hW1 hW2
  go_enter Tryz.func175, Tryz.ntmps175
  go_wp2_with fail
  rw [← HW.out]
  (with_reducible refine (HOP.out.run _).mono ?_)
  rintro e w1 ⟨rfl, k1⟩
  have h0 : w1.heap[w.heap.size]? = some (.cells #[.int .u32 x, .int .i64 d1, .int .i64 1, .int .i64 d3, .int .i64 d4, .int .i64 d5] 220 (0, 0)) := by rw [k1.block _ (by have := HS.out; omega)]; exact HG0.out
  have h1 : w1.heap[w.heap.size + 1]? = some (.cells #[.int .i64 0, .int .i64 0, .int .i64 0, .int .i64 0, .int .i64 0, .int .i64 0] 28 (0, 0)) := by rw [k1.block _ (by have := HS.out; omega)]; exact HG1.out
  have B3 := Lib.hid (HB.out.trans (k1.mono (by have := HS.out; omega)))
  have S3 := Lib.hid (show w.heap.size + 1 < w1.heap.size from blk_lt h1)
  obtain ⟨c0, c1, c2, c3, c4, c5, cf⟩ := six h0
  have H0 := Lib.hid h0
  have H1 := Lib.hid h1
  clear h0 h1 k1
  go_wp2_with fail
  (with_reducible refine (HB1.out.run _).mono ?_)
  rintro e w3 ⟨rfl, k3⟩
  have h0 : w3.heap[w.heap.size]? = some (.cells #[.int .u32 x, .int .i64 d1, .int .i64 1, .int .i64 d3, .int .i64 d4, .int .i64 d5] 220 (0, 0)) := by rw [k3.block _ (by have := S3.out; omega)]; exact H0.out
  have h1 : w3.heap[w.heap.size + 1]? = some (.cells #[.int .i64 0, .int .i64 0, .int .i64 0, .int .i64 0, .int .i64 0, .int .i64 0] 28 (0, 0)) := by rw [k3.block _ S3.out]; exact H1.out
  have B5 := Lib.hid (B3.out.trans (k3.mono (by have := S3.out; omega)))
  have S5 := Lib.hid (show w.heap.size + 1 < w3.heap.size from blk_lt h1)
  clear c0 c1 c2 c3 c4 c5 cf
  obtain ⟨c0, c1, c2, c3, c4, c5, cf⟩ := six h0
  have H05 := Lib.hid h0
  have H15 := Lib.hid h1
  clear h0 h1 k3
  go_wp2_with fail
  (with_reducible refine (HB2.out.run _).mono ?_)
  rintro e w4 ⟨rfl, k4⟩
  have h0 : w4.heap[w.heap.size]? = some (.cells #[.int .u32 x, .int .i64 d1, .int .i64 1, .int .i64 d3, .int .i64 d4, .int .i64 d5] 220 (0, 0)) := by rw [k4.block _ (by have := S5.out; omega)]; exact H05.out
  have h2 : w4.heap[w.heap.size + 1]? = some (.cells #[.int .i64 0, .int .i64 0, .int .i64 0, .int .i64 0, .int .i64 0, .int .i64 0] 28 (0, 0)) := by rw [k4.block _ S5.out]; exact H15.out
  have B4 := Lib.hid (B5.out.trans (k4.mono (by have := S5.out; omega)))
  clear c0 c1 c2 c3 c4 c5 cf
  obtain ⟨c0, c1, c2, c3, c4, c5, cf⟩ := six h0
  obtain ⟨z0, z1, z2, z3, z4, z5, zf⟩ := six h2
  have h2x := h2
  have h0x := h0
  clear h0 h2 k4
  skip
  skip
  clear h0x
  have FIN := Lib.hid (six_end (c0 := .int .i64 0) (c1 := .int .i64 0) (c2 := .int .i64 0) (c3 := .int .i64 0) (c4 := .int .i64 0) (c5 := .int .i64 0) h2x B4.out (by omega))
  clear h2x
  go_wp2
  obtain ⟨E1, E2⟩ := FIN.out
  clear c0 c1 c2 c3 c4 c5 cf z0 z1 z2 z3 z4 z5 zf
  skip
  generalize ((((((w4.setCell ⟨w.heap.size + 1, 0, none⟩ (.int .i64 0)).setCell ⟨w.heap.size + 1, 1, none⟩ (.int .i64 0)).setCell ⟨w.heap.size + 1, 2, none⟩ (.int .i64 0)).setCell ⟨w.heap.size + 1, 3, none⟩ (.int .i64 0)).setCell ⟨w.heap.size + 1, 4, none⟩ (.int .i64 0)).setCell ⟨w.heap.size + 1, 5, none⟩ (.int .i64 0)) = W9 at *
  obtain ⟨q0, q1, q2, q3, q4, q5, _⟩ := six E1
  refine bodyPost_ret (v := .tuple #[.agg #[.int .i64 0, .int .i64 0, .int .i64 0, .int .i64 0, .int .i64 0, .int .i64 0], .bool false]) (by simp [results, Tryz.results175, asAddr, loadVar, isAgg, loadCells, Tryz.underlying28, go_sem, q0, q1, q2, q3, q4, q5, Result.andThen]) rfl ?_
  exact ⟨rfl, E2⟩
set_option maxHeartbeats 1000000 in
theorem reck_n1_01 (x d1 d3 d4 d5 : Int) (q : Int) (hq : (q == 19) = false) (v r1 r2 ab : BitVec 64) (hv : IntKind.u64.wrap x = (v.toNat : Int))
    (hop : Gives Tryz.prog 172 #[.int .u32 x] (.int .i64 q))
    (hB1 : Gives Tryz.prog 78 #[.int .u64 (v.toNat : Int), .int .i64 20, .int .i64 5] (.int .u64 (r1.toNat : Int)))
    (hB2 : Gives Tryz.prog 78 #[.int .u64 (v.toNat : Int), .int .i64 25, .int .i64 7] (.int .u64 (r2.toNat : Int)))
    (hab : IntKind.u64.wrap ((r2.toNat : Int) * 32) = (ab.toNat : Int)) (e1 : ((ab.toNat : Int) == 1024) = false) (e2 : ((ab.toNat : Int) != 0) = true) :
    Gives Tryz.prog 175 #[.agg #[.int .u32 x, .int .i64 d1, .int .i64 1, .int .i64 d3, .int .i64 d4, .int .i64 d5]] (.tuple #[.agg #[.int .i64 0, .int .i64 0, .int .i64 0, .int .i64 0, .int .i64 0, .int .i64 0], .bool false]) := by
  skip
  intro w
  obtain ⟨W1, hW1⟩ : ∃ W1, W1 = w.alloc (.cells #[.int .u32 x, .int .i64 d1, .int .i64 1, .int .i64 d3, .int .i64 d4, .int .i64 d5] 220) := ⟨_, rfl⟩
  have s1 : W1.heap.size = w.heap.size + 1 := by rw [hW1]; simp
  have g0 : W1.heap[w.heap.size]? = some (.cells #[.int .u32 x, .int .i64 d1, .int .i64 1, .int .i64 d3, .int .i64 d4, .int .i64 d5] 220 (0, 0)) := by rw [hW1]; exact (MapKept.heap_alloc _ _).1
  have b0 : Below w.heap.size w W1 := by rw [hW1]; exact (Below.refl w.heap.size w).alloc (Nat.le_refl _) _
  obtain ⟨W2, hW2⟩ : ∃ W2, W2 = W1.alloc (.cells #[.int .i64 0, .int .i64 0, .int .i64 0, .int .i64 0, .int .i64 0, .int .i64 0] 28) := ⟨_, rfl⟩
  have s2 : W2.heap.size = w.heap.size + 1 + 1 := by rw [hW2]; simp [s1]
  have b1 : Below W1.heap.size W1 W2 := by rw [hW2]; exact (Below.refl W1.heap.size W1).alloc (Nat.le_refl _) _
  have g1 : W2.heap[w.heap.size + 1]? = some (.cells #[.int .i64 0, .int .i64 0, .int .i64 0, .int .i64 0, .int .i64 0, .int .i64 0] 28 (0, 0)) := by rw [hW2, ← s1]; exact (MapKept.heap_alloc _ _).1
  have g0' : W2.heap[w.heap.size]? = some (.cells #[.int .u32 x, .int .i64 d1, .int .i64 1, .int .i64 d3, .int .i64 d4, .int .i64 d5] 220 (0, 0)) := by rw [b1.block _ (by omega)]; exact g0
  have B2 : Below w.heap.size w W2 := b0.trans (b1.mono (by omega))
  have ia : ∀ W : World, (Instr.index 289 (.agg #[.int .i64 22, .int .i64 28, .int .i64 23, .int .i64 24, .int .i64 25, .int .i64 29, .int .i64 26, .int .i64 27]) (.int .i64 1)).run Tryz.prog W = .ok (.int .i64 28) W := fun W => by kernel_rfl
  have ib : ∀ W : World, (Instr.index 289 (.agg #[.int .i64 31, .int .i64 32, .int .i64 0, .int .i64 0, .int .i64 0, .int .i64 33, .int .i64 0, .int .i64 0]) (.int .i64 1)).run Tryz.prog W = .ok (.int .i64 32) W := fun W => by kernel_rfl
  have HOP := Lib.hid hop
  have HB1 := Lib.hid hB1
  have HB2 := Lib.hid hB2
  have HS := Lib.hid s2
  have HB := Lib.hid B2
  have HG0 := Lib.hid g0'
  have HG1 := Lib.hid g1
  have HW := Lib.hid (hW2.trans (by rw [hW1]))
  clear hop hB1 hB2 s1 s2 g0 g0' g1 b0 b1 B2 hW1 hW2
  go_enter Tryz.func175, Tryz.ntmps175
  go_wp2_with fail
  rw [← HW.out]
  (with_reducible refine (HOP.out.run _).mono ?_)
  rintro e w1 ⟨rfl, k1⟩
  have h0 : w1.heap[w.heap.size]? = some (.cells #[.int .u32 x, .int .i64 d1, .int .i64 1, .int .i64 d3, .int .i64 d4, .int .i64 d5] 220 (0, 0)) := by rw [k1.block _ (by have := HS.out; omega)]; exact HG0.out
  have h1 : w1.heap[w.heap.size + 1]? = some (.cells #[.int .i64 0, .int .i64 0, .int .i64 0, .int .i64 0, .int .i64 0, .int .i64 0] 28 (0, 0)) := by rw [k1.block _ (by have := HS.out; omega)]; exact HG1.out
  have B3 := Lib.hid (HB.out.trans (k1.mono (by have := HS.out; omega)))
  have S3 := Lib.hid (show w.heap.size + 1 < w1.heap.size from blk_lt h1)
  obtain ⟨c0, c1, c2, c3, c4, c5, cf⟩ := six h0
  have H0 := Lib.hid h0
  have H1 := Lib.hid h1
  clear h0 h1 k1
  go_wp2_with fail
  (with_reducible refine (HB1.out.run _).mono ?_)
  rintro e w3 ⟨rfl, k3⟩
  have h0 : w3.heap[w.heap.size]? = some (.cells #[.int .u32 x, .int .i64 d1, .int .i64 1, .int .i64 d3, .int .i64 d4, .int .i64 d5] 220 (0, 0)) := by rw [k3.block _ (by have := S3.out; omega)]; exact H0.out
  have h1 : w3.heap[w.heap.size + 1]? = some (.cells #[.int .i64 0, .int .i64 0, .int .i64 0, .int .i64 0, .int .i64 0, .int .i64 0] 28 (0, 0)) := by rw [k3.block _ S3.out]; exact H1.out
  have B5 := Lib.hid (B3.out.trans (k3.mono (by have := S3.out; omega)))
  have S5 := Lib.hid (show w.heap.size + 1 < w3.heap.size from blk_lt h1)
  clear c0 c1 c2 c3 c4 c5 cf
  obtain ⟨c0, c1, c2, c3, c4, c5, cf⟩ := six h0
  have H05 := Lib.hid h0
  have H15 := Lib.hid h1
  clear h0 h1 k3
  go_wp2_with fail
  (with_reducible refine (HB2.out.run _).mono ?_)
  rintro e w4 ⟨rfl, k4⟩
  have h0 : w4.heap[w.heap.size]? = some (.cells #[.int .u32 x, .int .i64 d1, .int .i64 1, .int .i64 d3, .int .i64 d4, .int .i64 d5] 220 (0, 0)) := by rw [k4.block _ (by have := S5.out; omega)]; exact H05.out
  have h2 : w4.heap[w.heap.size + 1]? = some (.cells #[.int .i64 0, .int .i64 0, .int .i64 0, .int .i64 0, .int .i64 0, .int .i64 0] 28 (0, 0)) := by rw [k4.block _ S5.out]; exact H15.out
  have B4 := Lib.hid (B5.out.trans (k4.mono (by have := S5.out; omega)))
  clear c0 c1 c2 c3 c4 c5 cf
  obtain ⟨c0, c1, c2, c3, c4, c5, cf⟩ := six h0
  obtain ⟨z0, z1, z2, z3, z4, z5, zf⟩ := six h2
  have h2x := h2
  have h0x := h0
  clear h0 h2 k4
  skip
  skip
  clear h0x
  have FIN := Lib.hid (six_end (c0 := .int .i64 0) (c1 := .int .i64 0) (c2 := .int .i64 0) (c3 := .int .i64 0) (c4 := .int .i64 0) (c5 := .int .i64 0) h2x B4.out (by omega))
  clear h2x
  go_wp2
  obtain ⟨E1, E2⟩ := FIN.out
  clear c0 c1 c2 c3 c4 c5 cf z0 z1 z2 z3 z4 z5 zf
  skip
  generalize ((((((w4.setCell ⟨w.heap.size + 1, 0, none⟩ (.int .i64 0)).setCell ⟨w.heap.size + 1, 1, none⟩ (.int .i64 0)).setCell ⟨w.heap.size + 1, 2, none⟩ (.int .i64 0)).setCell ⟨w.heap.size + 1, 3, none⟩ (.int .i64 0)).setCell ⟨w.heap.size + 1, 4, none⟩ (.int .i64 0)).setCell ⟨w.heap.size + 1, 5, none⟩ (.int .i64 0)) = W9 at *
  obtain ⟨q0, q1, q2, q3, q4, q5, _⟩ := six E1
  refine bodyPost_ret (v := .tuple #[.agg #[.int .i64 0, .int .i64 0, .int .i64 0, .int .i64 0, .int .i64 0, .int .i64 0], .bool false]) (by simp [results, Tryz.results175, asAddr, loadVar, isAgg, loadCells, Tryz.underlying28, go_sem, q0, q1, q2, q3, q4, q5, Result.andThen]) rfl ?_
  exact ⟨rfl, E2⟩
set_option maxHeartbeats 1000000 in
theorem reck_n1_00 (x d1 d3 d4 d5 : Int) (q : Int) (hq : (q == 19) = false) (v r1 r2 ab : BitVec 64) (hv : IntKind.u64.wrap x = (v.toNat : Int))
    (hop : Gives Tryz.prog 172 #[.int .u32 x] (.int .i64 q))
    (hB1 : Gives Tryz.prog 78 #[.int .u64 (v.toNat : Int), .int .i64 20, .int .i64 5] (.int .u64 (r1.toNat : Int)))
    (hB2 : Gives Tryz.prog 78 #[.int .u64 (v.toNat : Int), .int .i64 25, .int .i64 7] (.int .u64 (r2.toNat : Int)))
    (hab : IntKind.u64.wrap ((r2.toNat : Int) * 32) = (ab.toNat : Int)) (e1 : ((ab.toNat : Int) == 1024) = false) (e2 : ((ab.toNat : Int) != 0) = false) :
    Gives Tryz.prog 175 #[.agg #[.int .u32 x, .int .i64 d1, .int .i64 1, .int .i64 d3, .int .i64 d4, .int .i64 d5]] (.tuple #[.agg #[.int .i64 32, .int .i64 d1, .int .i64 d3, .int .i64 0, .int .i64 (wrap64 (r1.toNat : Int)), .int .i64 0], .bool true]) := by
  skip
  intro w
  obtain ⟨W1, hW1⟩ : ∃ W1, W1 = w.alloc (.cells #[.int .u32 x, .int .i64 d1, .int .i64 1, .int .i64 d3, .int .i64 d4, .int .i64 d5] 220) := ⟨_, rfl⟩
  have s1 : W1.heap.size = w.heap.size + 1 := by rw [hW1]; simp
  have g0 : W1.heap[w.heap.size]? = some (.cells #[.int .u32 x, .int .i64 d1, .int .i64 1, .int .i64 d3, .int .i64 d4, .int .i64 d5] 220 (0, 0)) := by rw [hW1]; exact (MapKept.heap_alloc _ _).1
  have b0 : Below w.heap.size w W1 := by rw [hW1]; exact (Below.refl w.heap.size w).alloc (Nat.le_refl _) _
  obtain ⟨W2, hW2⟩ : ∃ W2, W2 = W1.alloc (.cells #[.int .i64 0, .int .i64 0, .int .i64 0, .int .i64 0, .int .i64 0, .int .i64 0] 28) := ⟨_, rfl⟩
  have s2 : W2.heap.size = w.heap.size + 1 + 1 := by rw [hW2]; simp [s1]
  have b1 : Below W1.heap.size W1 W2 := by rw [hW2]; exact (Below.refl W1.heap.size W1).alloc (Nat.le_refl _) _
  have g1 : W2.heap[w.heap.size + 1]? = some (.cells #[.int .i64 0, .int .i64 0, .int .i64 0, .int .i64 0, .int .i64 0, .int .i64 0] 28 (0, 0)) := by rw [hW2, ← s1]; exact (MapKept.heap_alloc _ _).1
  have g0' : W2.heap[w.heap.size]? = some (.cells #[.int .u32 x, .int .i64 d1, .int .i64 1, .int .i64 d3, .int .i64 d4, .int .i64 d5] 220 (0, 0)) := by rw [b1.block _ (by omega)]; exact g0
  have B2 : Below w.heap.size w W2 := b0.trans (b1.mono (by omega))
  have ia : ∀ W : World, (Instr.index 289 (.agg #[.int .i64 22, .int .i64 28, .int .i64 23, .int .i64 24, .int .i64 25, .int .i64 29, .int .i64 26, .int .i64 27]) (.int .i64 1)).run Tryz.prog W = .ok (.int .i64 28) W := fun W => by kernel_rfl
  have ib : ∀ W : World, (Instr.index 289 (.agg #[.int .i64 31, .int .i64 32, .int .i64 0, .int .i64 0, .int .i64 0, .int .i64 33, .int .i64 0, .int .i64 0]) (.int .i64 1)).run Tryz.prog W = .ok (.int .i64 32) W := fun W => by kernel_rfl
  have HOP := Lib.hid hop
  have HB1 := Lib.hid hB1
  have HB2 := Lib.hid hB2
  have HS := Lib.hid s2
  have HB := Lib.hid B2
  have HG0 := Lib.hid g0'
  have HG1 := Lib.hid g1
  have HW := Lib.hid (hW2.trans (by rw [hW1]))
  clear hop hB1 hB2 s1 s2 g0 g0' g1 b0 b1 B2 hW1 hW2
  go_enter Tryz.func175, Tryz.ntmps175
  go_wp2_with fail
  rw [← HW.out]
  (with_reducible refine (HOP.out.run _).mono ?_)
  rintro e w1 ⟨rfl, k1⟩
  have h0 : w1.heap[w.heap.size]? = some (.cells #[.int .u32 x, .int .i64 d1, .int .i64 1, .int .i64 d3, .int .i64 d4, .int .i64 d5] 220 (0, 0)) := by rw [k1.block _ (by have := HS.out; omega)]; exact HG0.out
  have h1 : w1.heap[w.heap.size + 1]? = some (.cells #[.int .i64 0, .int .i64 0, .int .i64 0, .int .i64 0, .int .i64 0, .int .i64 0] 28 (0, 0)) := by rw [k1.block _ (by have := HS.out; omega)]; exact HG1.out
  have B3 := Lib.hid (HB.out.trans (k1.mono (by have := HS.out; omega)))
  have S3 := Lib.hid (show w.heap.size + 1 < w1.heap.size from blk_lt h1)
  obtain ⟨c0, c1, c2, c3, c4, c5, cf⟩ := six h0
  have H0 := Lib.hid h0
  have H1 := Lib.hid h1
  clear h0 h1 k1
  go_wp2_with fail
  (with_reducible refine (HB1.out.run _).mono ?_)
  rintro e w3 ⟨rfl, k3⟩
  have h0 : w3.heap[w.heap.size]? = some (.cells #[.int .u32 x, .int .i64 d1, .int .i64 1, .int .i64 d3, .int .i64 d4, .int .i64 d5] 220 (0, 0)) := by rw [k3.block _ (by have := S3.out; omega)]; exact H0.out
  have h1 : w3.heap[w.heap.size + 1]? = some (.cells #[.int .i64 0, .int .i64 0, .int .i64 0, .int .i64 0, .int .i64 0, .int .i64 0] 28 (0, 0)) := by rw [k3.block _ S3.out]; exact H1.out
  have B5 := Lib.hid (B3.out.trans (k3.mono (by have := S3.out; omega)))
  have S5 := Lib.hid (show w.heap.size + 1 < w3.heap.size from blk_lt h1)
  clear c0 c1 c2 c3 c4 c5 cf
  obtain ⟨c0, c1, c2, c3, c4, c5, cf⟩ := six h0
  have H05 := Lib.hid h0
  have H15 := Lib.hid h1
  clear h0 h1 k3
  go_wp2_with fail
  (with_reducible refine (HB2.out.run _).mono ?_)
  rintro e w4 ⟨rfl, k4⟩
  have h0 : w4.heap[w.heap.size]? = some (.cells #[.int .u32 x, .int .i64 d1, .int .i64 1, .int .i64 d3, .int .i64 d4, .int .i64 d5] 220 (0, 0)) := by rw [k4.block _ (by have := S5.out; omega)]; exact H05.out
  have h2 : w4.heap[w.heap.size + 1]? = some (.cells #[.int .i64 0, .int .i64 0, .int .i64 0, .int .i64 0, .int .i64 0, .int .i64 0] 28 (0, 0)) := by rw [k4.block _ S5.out]; exact H15.out
  have B4 := Lib.hid (B5.out.trans (k4.mono (by have := S5.out; omega)))
  clear c0 c1 c2 c3 c4 c5 cf
  obtain ⟨c0, c1, c2, c3, c4, c5, cf⟩ := six h0
  obtain ⟨z0, z1, z2, z3, z4, z5, zf⟩ := six h2
  have h2x := h2
  have h0x := h0
  clear h0 h2 k4
  skip
  skip
  clear h0x
  have FIN := Lib.hid (six_end (c0 := .int .i64 32) (c1 := .int .i64 d1) (c2 := .int .i64 d3) (c3 := .int .i64 0) (c4 := .int .i64 (wrap64 (r1.toNat : Int))) (c5 := .int .i64 0) h2x B4.out (by omega))
  clear h2x
  go_wp2
  obtain ⟨E1, E2⟩ := FIN.out
  clear c0 c1 c2 c3 c4 c5 cf z0 z1 z2 z3 z4 z5 zf
  skip
  generalize ((((((w4.setCell ⟨w.heap.size + 1, 0, none⟩ (.int .i64 32)).setCell ⟨w.heap.size + 1, 1, none⟩ (.int .i64 d1)).setCell ⟨w.heap.size + 1, 2, none⟩ (.int .i64 d3)).setCell ⟨w.heap.size + 1, 3, none⟩ (.int .i64 0)).setCell ⟨w.heap.size + 1, 4, none⟩ (.int .i64 (wrap64 (r1.toNat : Int)))).setCell ⟨w.heap.size + 1, 5, none⟩ (.int .i64 0)) = W9 at *
  obtain ⟨q0, q1, q2, q3, q4, q5, _⟩ := six E1
  refine bodyPost_ret (v := .tuple #[.agg #[.int .i64 32, .int .i64 d1, .int .i64 d3, .int .i64 0, .int .i64 (wrap64 (r1.toNat : Int)), .int .i64 0], .bool true]) (by simp [results, Tryz.results175, asAddr, loadVar, isAgg, loadCells, Tryz.underlying28, go_sem, q0, q1, q2, q3, q4, q5, Result.andThen]) rfl ?_
  exact ⟨rfl, E2⟩
set_option maxHeartbeats 1000000 in
theorem reck_n5_10 (x d1 d3 d4 d5 : Int) (q : Int) (hq : (q == 19) = false) (v r1 r2 ab : BitVec 64) (hv : IntKind.u64.wrap x = (v.toNat : Int))
    (hop : Gives Tryz.prog 172 #[.int .u32 x] (.int .i64 q))
    (hB1 : Gives Tryz.prog 78 #[.int .u64 (v.toNat : Int), .int .i64 20, .int .i64 5] (.int .u64 (r1.toNat : Int)))
    (hB2 : Gives Tryz.prog 78 #[.int .u64 (v.toNat : Int), .int .i64 25, .int .i64 7] (.int .u64 (r2.toNat : Int)))
    (hab : IntKind.u64.wrap ((r2.toNat : Int) * 32) = (ab.toNat : Int)) (e1 : ((ab.toNat : Int) == 1024) = true)  :
    Gives Tryz.prog 175 #[.agg #[.int .u32 x, .int .i64 d1, .int .i64 5, .int .i64 d3, .int .i64 d4, .int .i64 d5]] (.tuple #[.agg #[.int .i64 34, .int .i64 d1, .int .i64 d3, .int .i64 0, .int .i64 (wrap64 (r1.toNat : Int)), .int .i64 0], .bool true]) := by
  skip
  intro w
  obtain ⟨W1, hW1⟩ : ∃ W1, W1 = w.alloc (.cells #[.int .u32 x, .int .i64 d1, .int .i64 5, .int .i64 d3, .int .i64 d4, .int .i64 d5] 220) := ⟨_, rfl⟩
  have s1 : W1.heap.size = w.heap.size + 1 := by rw [hW1]; simp
  have g0 : W1.heap[w.heap.size]? = some (.cells #[.int .u32 x, .int .i64 d1, .int .i64 5, .int .i64 d3, .int .i64 d4, .int .i64 d5] 220 (0, 0)) := by rw [hW1]; exact (MapKept.heap_alloc _ _).1
  have b0 : Below w.heap.size w W1 := by rw [hW1]; exact (Below.refl w.heap.size w).alloc (Nat.le_refl _) _
  obtain ⟨W2, hW2⟩ : ∃ W2, W2 = W1.alloc (.cells #[.int .i64 0, .int .i64 0, .int .i64 0, .int .i64 0, .int .i64 0, .int .i64 0] 28) := ⟨_, rfl⟩
  have s2 : W2.heap.size = w.heap.size + 1 + 1 := by rw [hW2]; simp [s1]
  have b1 : Below W1.heap.size W1 W2 := by rw [hW2]; exact (Below.refl W1.heap.size W1).alloc (Nat.le_refl _) _
  have g1 : W2.heap[w.heap.size + 1]? = some (.cells #[.int .i64 0, .int .i64 0, .int .i64 0, .int .i64 0, .int .i64 0, .int .i64 0] 28 (0, 0)) := by rw [hW2, ← s1]; exact (MapKept.heap_alloc _ _).1
  have g0' : W2.heap[w.heap.size]? = some (.cells #[.int .u32 x, .int .i64 d1, .int .i64 5, .int .i64 d3, .int .i64 d4, .int .i64 d5] 220 (0, 0)) := by rw [b1.block _ (by omega)]; exact g0
  have B2 : Below w.heap.size w W2 := b0.trans (b1.mono (by omega))
  have ia : ∀ W : World, (Instr.index 289 (.agg #[.int .i64 22, .int .i64 28, .int .i64 23, .int .i64 24, .int .i64 25, .int .i64 29, .int .i64 26, .int .i64 27]) (.int .i64 5)).run Tryz.prog W = .ok (.int .i64 29) W := fun W => by kernel_rfl
  have ib : ∀ W : World, (Instr.index 289 (.agg #[.int .i64 31, .int .i64 32, .int .i64 0, .int .i64 0, .int .i64 0, .int .i64 33, .int .i64 0, .int .i64 0]) (.int .i64 5)).run Tryz.prog W = .ok (.int .i64 33) W := fun W => by kernel_rfl
  have hm : ∀ W : World, (Instr.makeMap 323 none).run Tryz.prog W = .ok (.map (some W.heap.size)) (W.alloc (.map #[] 0)) := fun _ => rfl
  have u0 : ∀ W : World, (Instr.mapUpdate 323 (.map (some W.heap.size)) (.int .i64 29) (.int .i64 30)).run Tryz.prog (W.alloc (.map #[] 0)) = .ok () (W.alloc (.map rk1 1)) := fun W => upd_new (kt := 3) (et := 3) (d := .int .i64) Tryz.underlying323 Tryz.underlying3 (by trivial) rfl W
  have u1 : ∀ W : World, (Instr.mapUpdate 323 (.map (some W.heap.size)) (.int .i64 33) (.int .i64 34)).run Tryz.prog (W.alloc (.map rk1 1)) = .ok () (W.alloc (.map rk2 2)) := fun W => upd_new (kt := 3) (et := 3) (d := .int .i64) Tryz.underlying323 Tryz.underlying3 (by trivial) rfl W
  have lk : ∀ W : World, (Instr.lookup 323 (.map (some W.heap.size)) (.int .i64 33) false).run Tryz.prog (W.alloc (.map rk2 2)) = .ok (.int .i64 34) (W.alloc (.map rk2 2)) := fun W => look_hit (i := 1) Tryz.underlying323 Tryz.underlying3 (by trivial) rfl (MapKept.heap_alloc _ _).1
  have HOP := Lib.hid hop
  have HB1 := Lib.hid hB1
  have HB2 := Lib.hid hB2
  have HS := Lib.hid s2
  have HB := Lib.hid B2
  have HG0 := Lib.hid g0'
  have HG1 := Lib.hid g1
  have HW := Lib.hid (hW2.trans (by rw [hW1]))
  clear hop hB1 hB2 s1 s2 g0 g0' g1 b0 b1 B2 hW1 hW2
  go_enter Tryz.func175, Tryz.ntmps175
  go_wp2_with fail
  rw [← HW.out]
  (with_reducible refine (HOP.out.run _).mono ?_)
  rintro e w1 ⟨rfl, k1⟩
  have h0 : w1.heap[w.heap.size]? = some (.cells #[.int .u32 x, .int .i64 d1, .int .i64 5, .int .i64 d3, .int .i64 d4, .int .i64 d5] 220 (0, 0)) := by rw [k1.block _ (by have := HS.out; omega)]; exact HG0.out
  have h1 : w1.heap[w.heap.size + 1]? = some (.cells #[.int .i64 0, .int .i64 0, .int .i64 0, .int .i64 0, .int .i64 0, .int .i64 0] 28 (0, 0)) := by rw [k1.block _ (by have := HS.out; omega)]; exact HG1.out
  have B3 := Lib.hid (HB.out.trans (k1.mono (by have := HS.out; omega)))
  have S3 := Lib.hid (show w.heap.size + 1 < w1.heap.size from blk_lt h1)
  obtain ⟨c0, c1, c2, c3, c4, c5, cf⟩ := six h0
  have H0 := Lib.hid h0
  have H1 := Lib.hid h1
  clear h0 h1 k1
  go_wp2_with fail
  (with_reducible refine (HB1.out.run _).mono ?_)
  rintro e w3 ⟨rfl, k3⟩
  have h0 : w3.heap[w.heap.size]? = some (.cells #[.int .u32 x, .int .i64 d1, .int .i64 5, .int .i64 d3, .int .i64 d4, .int .i64 d5] 220 (0, 0)) := by rw [k3.block _ (by have := S3.out; omega)]; exact H0.out
  have h1 : w3.heap[w.heap.size + 1]? = some (.cells #[.int .i64 0, .int .i64 0, .int .i64 0, .int .i64 0, .int .i64 0, .int .i64 0] 28 (0, 0)) := by rw [k3.block _ S3.out]; exact H1.out
  have B5 := Lib.hid (B3.out.trans (k3.mono (by have := S3.out; omega)))
  have S5 := Lib.hid (show w.heap.size + 1 < w3.heap.size from blk_lt h1)
  clear c0 c1 c2 c3 c4 c5 cf
  obtain ⟨c0, c1, c2, c3, c4, c5, cf⟩ := six h0
  have H05 := Lib.hid h0
  have H15 := Lib.hid h1
  clear h0 h1 k3
  go_wp2_with fail
  (with_reducible refine (HB2.out.run _).mono ?_)
  rintro e w4 ⟨rfl, k4⟩
  have h0 : w4.heap[w.heap.size]? = some (.cells #[.int .u32 x, .int .i64 d1, .int .i64 5, .int .i64 d3, .int .i64 d4, .int .i64 d5] 220 (0, 0)) := by rw [k4.block _ (by have := S5.out; omega)]; exact H05.out
  have h2 : w4.heap[w.heap.size + 1]? = some (.cells #[.int .i64 0, .int .i64 0, .int .i64 0, .int .i64 0, .int .i64 0, .int .i64 0] 28 (0, 0)) := by rw [k4.block _ S5.out]; exact H15.out
  have B4 := Lib.hid (B5.out.trans (k4.mono (by have := S5.out; omega)))
  clear c0 c1 c2 c3 c4 c5 cf
  obtain ⟨c0, c1, c2, c3, c4, c5, cf⟩ := six h0
  obtain ⟨z0, z1, z2, z3, z4, z5, zf⟩ := six h2
  have h2x := h2
  have h0x := h0
  clear h0 h2 k4
  obtain ⟨p0, p1, p2, p3, p4, p5, pf⟩ := six ((Below.heap_alloc w4 (.map rk2 2) _ (blk_lt h0x)).trans h0x)
  obtain ⟨y0, y1, y2, y3, y4, y5, yf⟩ := six ((Below.heap_alloc w4 (.map rk2 2) _ (blk_lt h2x)).trans h2x)
  clear h0x
  have FIN := Lib.hid (six_end (c0 := .int .i64 34) (c1 := .int .i64 d1) (c2 := .int .i64 d3) (c3 := .int .i64 0) (c4 := .int .i64 (wrap64 (r1.toNat : Int))) (c5 := .int .i64 0) ((Below.heap_alloc w4 (.map rk2 2) _ (blk_lt h2x)).trans h2x) (B4.out.alloc B4.out.size (.map rk2 2)) (by omega))
  clear h2x
  go_wp2
  obtain ⟨E1, E2⟩ := FIN.out
  clear c0 c1 c2 c3 c4 c5 cf z0 z1 z2 z3 z4 z5 zf
  clear p0 p1 p2 p3 p4 p5 pf y0 y1 y2 y3 y4 y5 yf u0 u1 lk hm
  generalize (((((((w4.alloc (.map rk2 2)).setCell ⟨w.heap.size + 1, 0, none⟩ (.int .i64 34)).setCell ⟨w.heap.size + 1, 1, none⟩ (.int .i64 d1)).setCell ⟨w.heap.size + 1, 2, none⟩ (.int .i64 d3)).setCell ⟨w.heap.size + 1, 3, none⟩ (.int .i64 0)).setCell ⟨w.heap.size + 1, 4, none⟩ (.int .i64 (wrap64 (r1.toNat : Int)))).setCell ⟨w.heap.size + 1, 5, none⟩ (.int .i64 0)) = W9 at *
  obtain ⟨q0, q1, q2, q3, q4, q5, _⟩ := six E1
  refine bodyPost_ret (v := .tuple #[.agg #[.int .i64 34, .int .i64 d1, .int .i64 d3, .int .i64 0, .int .i64 (wrap64 (r1.toNat : Int)), .int .i64 0], .bool true]) (by simp [results, Tryz.results175, asAddr, loadVar, isAgg, loadCells, Tryz.underlying28, go_sem, q0, q1, q2, q3, q4, q5, Result.andThen]) rfl ?_
  exact ⟨rfl, E2⟩
set_option maxHeartbeats 1000000 in
theorem reck_n5_01 (x d1 d3 d4 d5 : Int) (q : Int) (hq : (q == 19) = false) (v r1 r2 ab : BitVec 64) (hv : IntKind.u64.wrap x = (v.toNat : Int))
    (hop : Gives Tryz.prog 172 #[.int .u32 x] (.int .i64 q))
    (hB1 : Gives Tryz.prog 78 #[.int .u64 (v.toNat : Int), .int .i64 20, .int .i64 5] (.int .u64 (r1.toNat : Int)))
    (hB2 : Gives Tryz.prog 78 #[.int .u64 (v.toNat : Int), .int .i64 25, .int .i64 7] (.int .u64 (r2.toNat : Int)))
    (hab : IntKind.u64.wrap ((r2.toNat : Int) * 32) = (ab.toNat : Int)) (e1 : ((ab.toNat : Int) == 1024) = false) (e2 : ((ab.toNat : Int) != 0) = true) :
    Gives Tryz.prog 175 #[.agg #[.int .u32 x, .int .i64 d1, .int .i64 5, .int .i64 d3, .int .i64 d4, .int .i64 d5]] (.tuple #[.agg #[.int .i64 0, .int .i64 0, .int .i64 0, .int .i64 0, .int .i64 0, .int .i64 0], .bool false]) := by
  skip
  intro w
  obtain ⟨W1, hW1⟩ : ∃ W1, W1 = w.alloc (.cells #[.int .u32 x, .int .i64 d1, .int .i64 5, .int .i64 d3, .int .i64 d4, .int .i64 d5] 220) := ⟨_, rfl⟩
  have s1 : W1.heap.size = w.heap.size + 1 := by rw [hW1]; simp
  have g0 : W1.heap[w.heap.size]? = some (.cells #[.int .u32 x, .int .i64 d1, .int .i64 5, .int .i64 d3, .int .i64 d4, .int .i64 d5] 220 (0, 0)) := by rw [hW1]; exact (MapKept.heap_alloc _ _).1
  have b0 : Below w.heap.size w W1 := by rw [hW1]; exact (Below.refl w.heap.size w).alloc (Nat.le_refl _) _
  obtain ⟨W2, hW2⟩ : ∃ W2, W2 = W1.alloc (.cells #[.int .i64 0, .int .i64 0, .int .i64 0, .int .i64 0, .int .i64 0, .int .i64 0] 28) := ⟨_, rfl⟩
  have s2 : W2.heap.size = w.heap.size + 1 + 1 := by rw [hW2]; simp [s1]
  have b1 : Below W1.heap.size W1 W2 := by rw [hW2]; exact (Below.refl W1.heap.size W1).alloc (Nat.le_refl _) _
  have g1 : W2.heap[w.heap.size + 1]? = some (.cells #[.int .i64 0, .int .i64 0, .int .i64 0, .int .i64 0, .int .i64 0, .int .i64 0] 28 (0, 0)) := by rw [hW2, ← s1]; exact (MapKept.heap_alloc _ _).1
  have g0' : W2.heap[w.heap.size]? = some (.cells #[.int .u32 x, .int .i64 d1, .int .i64 5, .int .i64 d3, .int .i64 d4, .int .i64 d5] 220 (0, 0)) := by rw [b1.block _ (by omega)]; exact g0
  have B2 : Below w.heap.size w W2 := b0.trans (b1.mono (by omega))
  have ia : ∀ W : World, (Instr.index 289 (.agg #[.int .i64 22, .int .i64 28, .int .i64 23, .int .i64 24, .int .i64 25, .int .i64 29, .int .i64 26, .int .i64 27]) (.int .i64 5)).run Tryz.prog W = .ok (.int .i64 29) W := fun W => by kernel_rfl
  have ib : ∀ W : World, (Instr.index 289 (.agg #[.int .i64 31, .int .i64 32, .int .i64 0, .int .i64 0, .int .i64 0, .int .i64 33, .int .i64 0, .int .i64 0]) (.int .i64 5)).run Tryz.prog W = .ok (.int .i64 33) W := fun W => by kernel_rfl
  have HOP := Lib.hid hop
  have HB1 := Lib.hid hB1
  have HB2 := Lib.hid hB2
  have HS := Lib.hid s2
  have HB := Lib.hid B2
  have HG0 := Lib.hid g0'
  have HG1 := Lib.hid g1
  have HW := Lib.hid (hW2.trans (by rw [hW1]))
  clear hop hB1 hB2 s1 s2 g0 g0' g1 b0 b1 B2 hW1 hW2
  go_enter Tryz.func175, Tryz.ntmps175
  go_wp2_with fail
  rw [← HW.out]
  (with_reducible refine (HOP.out.run _).mono ?_)
  rintro e w1 ⟨rfl, k1⟩
  have h0 : w1.heap[w.heap.size]? = some (.cells #[.int .u32 x, .int .i64 d1, .int .i64 5, .int .i64 d3, .int .i64 d4, .int .i64 d5] 220 (0, 0)) := by rw [k1.block _ (by have := HS.out; omega)]; exact HG0.out
  have h1 : w1.heap[w.heap.size + 1]? = some (.cells #[.int .i64 0, .int .i64 0, .int .i64 0, .int .i64 0, .int .i64 0, .int .i64 0] 28 (0, 0)) := by rw [k1.block _ (by have := HS.out; omega)]; exact HG1.out
  have B3 := Lib.hid (HB.out.trans (k1.mono (by have := HS.out; omega)))
  have S3 := Lib.hid (show w.heap.size + 1 < w1.heap.size from blk_lt h1)
  obtain ⟨c0, c1, c2, c3, c4, c5, cf⟩ := six h0
  have H0 := Lib.hid h0
  have H1 := Lib.hid h1
  clear h0 h1 k1
  go_wp2_with fail
  (with_reducible refine (HB1.out.run _).mono ?_)
  rintro e w3 ⟨rfl, k3⟩
  have h0 : w3.heap[w.heap.size]? = some (.cells #[.int .u32 x, .int .i64 d1, .int .i64 5, .int .i64 d3, .int .i64 d4, .int .i64 d5] 220 (0, 0)) := by rw [k3.block _ (by have := S3.out; omega)]; exact H0.out
  have h1 : w3.heap[w.heap.size + 1]? = some (.cells #[.int .i64 0, .int .i64 0, .int .i64 0, .int .i64 0, .int .i64 0, .int .i64 0] 28 (0, 0)) := by rw [k3.block _ S3.out]; exact H1.out
  have B5 := Lib.hid (B3.out.trans (k3.mono (by have := S3.out; omega)))
  have S5 := Lib.hid (show w.heap.size + 1 < w3.heap.size from blk_lt h1)
  clear c0 c1 c2 c3 c4 c5 cf
  obtain ⟨c0, c1, c2, c3, c4, c5, cf⟩ := six h0
  have H05 := Lib.hid h0
  have H15 := Lib.hid h1
  clear h0 h1 k3
  go_wp2_with fail
  (with_reducible refine (HB2.out.run _).mono ?_)
  rintro e w4 ⟨rfl, k4⟩
  have h0 : w4.heap[w.heap.size]? = some (.cells #[.int .u32 x, .int .i64 d1, .int .i64 5, .int .i64 d3, .int .i64 d4, .int .i64 d5] 220 (0, 0)) := by rw [k4.block _ (by have := S5.out; omega)]; exact H05.out
  have h2 : w4.heap[w.heap.size + 1]? = some (.cells #[.int .i64 0, .int .i64 0, .int .i64 0, .int .i64 0, .int .i64 0, .int .i64 0] 28 (0, 0)) := by rw [k4.block _ S5.out]; exact H15.out
  have B4 := Lib.hid (B5.out.trans (k4.mono (by have := S5.out; omega)))
  clear c0 c1 c2 c3 c4 c5 cf
  obtain ⟨c0, c1, c2, c3, c4, c5, cf⟩ := six h0
  obtain ⟨z0, z1, z2, z3, z4, z5, zf⟩ := six h2
  have h2x := h2
  have h0x := h0
  clear h0 h2 k4
  skip
  skip
  clear h0x
  have FIN := Lib.hid (six_end (c0 := .int .i64 0) (c1 := .int .i64 0) (c2 := .int .i64 0) (c3 := .int .i64 0) (c4 := .int .i64 0) (c5 := .int .i64 0) h2x B4.out (by omega))
  clear h2x
  go_wp2
  obtain ⟨E1, E2⟩ := FIN.out
  clear c0 c1 c2 c3 c4 c5 cf z0 z1 z2 z3 z4 z5 zf
  skip
  generalize ((((((w4.setCell ⟨w.heap.size + 1, 0, none⟩ (.int .i64 0)).setCell ⟨w.heap.size + 1, 1, none⟩ (.int .i64 0)).setCell ⟨w.heap.size + 1, 2, none⟩ (.int .i64 0)).setCell ⟨w.heap.size + 1, 3, none⟩ (.int .i64 0)).setCell ⟨w.heap.size + 1, 4, none⟩ (.int .i64 0)).setCell ⟨w.heap.size + 1, 5, none⟩ (.int .i64 0)) = W9 at *
  obtain ⟨q0, q1, q2, q3, q4, q5, _⟩ := six E1
  refine bodyPost_ret (v := .tuple #[.agg #[.int .i64 0, .int .i64 0, .int .i64 0, .int .i64 0, .int .i64 0, .int .i64 0], .bool false]) (by simp [results, Tryz.results175, asAddr, loadVar, isAgg, loadCells, Tryz.underlying28, go_sem, q0, q1, q2, q3, q4, q5, Result.andThen]) rfl ?_
  exact ⟨rfl, E2⟩
set_option maxHeartbeats 1000000 in
theorem reck_n5_00 (x d1 d3 d4 d5 : Int) (q : Int) (hq : (q == 19) = false) (v r1 r2 ab : BitVec 64) (hv : IntKind.u64.wrap x = (v.toNat : Int))
    (hop : Gives Tryz.prog 172 #[.int .u32 x] (.int .i64 q))
    (hB1 : Gives Tryz.prog 78 #[.int .u64 (v.toNat : Int), .int .i64 20, .int .i64 5] (.int .u64 (r1.toNat : Int)))
    (hB2 : Gives Tryz.prog 78 #[.int .u64 (v.toNat : Int), .int .i64 25, .int .i64 7] (.int .u64 (r2.toNat : Int)))
    (hab : IntKind.u64.wrap ((r2.toNat : Int) * 32) = (ab.toNat : Int)) (e1 : ((ab.toNat : Int) == 1024) = false) (e2 : ((ab.toNat : Int) != 0) = false) :
    Gives Tryz.prog 175 #[.agg #[.int .u32 x, .int .i64 d1, .int .i64 5, .int .i64 d3, .int .i64 d4, .int .i64 d5]] (.tuple #[.agg #[.int .i64 33, .int .i64 d1, .int .i64 d3, .int .i64 0, .int .i64 (wrap64 (r1.toNat : Int)), .int .i64 0], .bool true]) := by
  skip
  intro w
  obtain ⟨W1, hW1⟩ : ∃ W1, W1 = w.alloc (.cells #[.int .u32 x, .int .i64 d1, .int .i64 5, .int .i64 d3, .int .i64 d4, .int .i64 d5] 220) := ⟨_, rfl⟩
  have s1 : W1.heap.size = w.heap.size + 1 := by rw [hW1]; simp
  have g0 : W1.heap[w.heap.size]? = some (.cells #[.int .u32 x, .int .i64 d1, .int .i64 5, .int .i64 d3, .int .i64 d4, .int .i64 d5] 220 (0, 0)) := by rw [hW1]; exact (MapKept.heap_alloc _ _).1
  have b0 : Below w.heap.size w W1 := by rw [hW1]; exact (Below.refl w.heap.size w).alloc (Nat.le_refl _) _
  obtain ⟨W2, hW2⟩ : ∃ W2, W2 = W1.alloc (.cells #[.int .i64 0, .int .i64 0, .int .i64 0, .int .i64 0, .int .i64 0, .int .i64 0] 28) := ⟨_, rfl⟩
  have s2 : W2.heap.size = w.heap.size + 1 + 1 := by rw [hW2]; simp [s1]
  have b1 : Below W1.heap.size W1 W2 := by rw [hW2]; exact (Below.refl W1.heap.size W1).alloc (Nat.le_refl _) _
  have g1 : W2.heap[w.heap.size + 1]? = some (.cells #[.int .i64 0, .int .i64 0, .int .i64 0, .int .i64 0, .int .i64 0, .int .i64 0] 28 (0, 0)) := by rw [hW2, ← s1]; exact (MapKept.heap_alloc _ _).1
  have g0' : W2.heap[w.heap.size]? = some (.cells #[.int .u32 x, .int .i64 d1, .int .i64 5, .int .i64 d3, .int .i64 d4, .int .i64 d5] 220 (0, 0)) := by rw [b1.block _ (by omega)]; exact g0
  have B2 : Below w.heap.size w W2 := b0.trans (b1.mono (by omega))
  have ia : ∀ W : World, (Instr.index 289 (.agg #[.int .i64 22, .int .i64 28, .int .i64 23, .int .i64 24, .int .i64 25, .int .i64 29, .int .i64 26, .int .i64 27]) (.int .i64 5)).run Tryz.prog W = .ok (.int .i64 29) W := fun W => by kernel_rfl
  have ib : ∀ W : World, (Instr.index 289 (.agg #[.int .i64 31, .int .i64 32, .int .i64 0, .int .i64 0, .int .i64 0, .int .i64 33, .int .i64 0, .int .i64 0]) (.int .i64 5)).run Tryz.prog W = .ok (.int .i64 33) W := fun W => by kernel_rfl
  have HOP := Lib.hid hop
  have HB1 := Lib.hid hB1
  have HB2 := Lib.hid hB2
  have HS := Lib.hid s2
  have HB := Lib.hid B2
  have HG0 := Lib.hid g0'
  have HG1 := Lib.hid g1
  have HW := Lib.hid (hW2.trans (by rw [hW1]))
  clear hop hB1 hB2 s1 s2 g0 g0' g1 b0 b1 B2 hW1 hW2
  go_enter Tryz.func175, Tryz.ntmps175
  go_wp2_with fail
  rw [← HW.out]
  (with_reducible refine (HOP.out.run _).mono ?_)
  rintro e w1 ⟨rfl, k1⟩
  have h0 : w1.heap[w.heap.size]? = some (.cells #[.int .u32 x, .int .i64 d1, .int .i64 5, .int .i64 d3, .int .i64 d4, .int .i64 d5] 220 (0, 0)) := by rw [k1.block _ (by have := HS.out; omega)]; exact HG0.out
  have h1 : w1.heap[w.heap.size + 1]? = some (.cells #[.int .i64 0, .int .i64 0, .int .i64 0, .int .i64 0, .int .i64 0, .int .i64 0] 28 (0, 0)) := by rw [k1.block _ (by have := HS.out; omega)]; exact HG1.out
  have B3 := Lib.hid (HB.out.trans (k1.mono (by have := HS.out; omega)))
  have S3 := Lib.hid (show w.heap.size + 1 < w1.heap.size from blk_lt h1)
  obtain ⟨c0, c1, c2, c3, c4, c5, cf⟩ := six h0
  have H0 := Lib.hid h0
  have H1 := Lib.hid h1
  clear h0 h1 k1
  go_wp2_with fail
  (with_reducible refine (HB1.out.run _).mono ?_)
  rintro e w3 ⟨rfl, k3⟩
  have h0 : w3.heap[w.heap.size]? = some (.cells #[.int .u32 x, .int .i64 d1, .int .i64 5, .int .i64 d3, .int .i64 d4, .int .i64 d5] 220 (0, 0)) := by rw [k3.block _ (by have := S3.out; omega)]; exact H0.out
  have h1 : w3.heap[w.heap.size + 1]? = some (.cells #[.int .i64 0, .int .i64 0, .int .i64 0, .int .i64 0, .int .i64 0, .int .i64 0] 28 (0, 0)) := by rw [k3.block _ S3.out]; exact H1.out
  have B5 := Lib.hid (B3.out.trans (k3.mono (by have := S3.out; omega)))
  have S5 := Lib.hid (show w.heap.size + 1 < w3.heap.size from blk_lt h1)
  clear c0 c1 c2 c3 c4 c5 cf
  obtain ⟨c0, c1, c2, c3, c4, c5, cf⟩ := six h0
  have H05 := Lib.hid h0
  have H15 := Lib.hid h1
  clear h0 h1 k3
  go_wp2_with fail
  (with_reducible refine (HB2.out.run _).mono ?_)
  rintro e w4 ⟨rfl, k4⟩
  have h0 : w4.heap[w.heap.size]? = some (.cells #[.int .u32 x, .int .i64 d1, .int .i64 5, .int .i64 d3, .int .i64 d4, .int .i64 d5] 220 (0, 0)) := by rw [k4.block _ (by have := S5.out; omega)]; exact H05.out
  have h2 : w4.heap[w.heap.size + 1]? = some (.cells #[.int .i64 0, .int .i64 0, .int .i64 0, .int .i64 0, .int .i64 0, .int .i64 0] 28 (0, 0)) := by rw [k4.block _ S5.out]; exact H15.out
  have B4 := Lib.hid (B5.out.trans (k4.mono (by have := S5.out; omega)))
  clear c0 c1 c2 c3 c4 c5 cf
  obtain ⟨c0, c1, c2, c3, c4, c5, cf⟩ := six h0
  obtain ⟨z0, z1, z2, z3, z4, z5, zf⟩ := six h2
  have h2x := h2
  have h0x := h0
  clear h0 h2 k4
  skip
  skip
  clear h0x
  have FIN := Lib.hid (six_end (c0 := .int .i64 33) (c1 := .int .i64 d1) (c2 := .int .i64 d3) (c3 := .int .i64 0) (c4 := .int .i64 (wrap64 (r1.toNat : Int))) (c5 := .int .i64 0) h2x B4.out (by omega))
  clear h2x
  go_wp2
  obtain ⟨E1, E2⟩ := FIN.out
  clear c0 c1 c2 c3 c4 c5 cf z0 z1 z2 z3 z4 z5 zf
  skip
  generalize ((((((w4.setCell ⟨w.heap.size + 1, 0, none⟩ (.int .i64 33)).setCell ⟨w.heap.size + 1, 1, none⟩ (.int .i64 d1)).setCell ⟨w.heap.size + 1, 2, none⟩ (.int .i64 d3)).setCell ⟨w.heap.size + 1, 3, none⟩ (.int .i64 0)).setCell ⟨w.heap.size + 1, 4, none⟩ (.int .i64 (wrap64 (r1.toNat : Int)))).setCell ⟨w.heap.size + 1, 5, none⟩ (.int .i64 0)) = W9 at *
  obtain ⟨q0, q1, q2, q3, q4, q5, _⟩ := six E1
  refine bodyPost_ret (v := .tuple #[.agg #[.int .i64 33, .int .i64 d1, .int .i64 d3, .int .i64 0, .int .i64 (wrap64 (r1.toNat : Int)), .int .i64 0], .bool true]) (by simp [results, Tryz.results175, asAddr, loadVar, isAgg, loadCells, Tryz.underlying28, go_sem, q0, q1, q2, q3, q4, q5, Result.andThen]) rfl ?_
  exact ⟨rfl, E2⟩
open Go.BigFrame
noncomputable def opcI (x : Int) : Int := (t_decode_Opcode x).sel 0 fun vs => (pickC vs 0 0).I
noncomputable def immI (x d1 f3 d3 d4 d5 op : Int) : Int := (t_decode_parts_immediate x d1 f3 d3 d4 d5 op).sel 0 fun vs => (pickC vs 0 4).I
theorem opc_b (x : Int) : Gives Tryz.prog 172 #[.int .u32 x] (.int .i64 (opcI x)) := by
  obtain ⟨_, v, hv, hg⟩ := FnNE_ok.spec 172 [.s (.x false (.int .u32 x))] (t_decode_Opcode x).needB (.d (selD (t_decode_Opcode x) 0 (.s (.i .i64)))) (by kernel_rfl) (by kernel_rfl)
  have e : v = (selD (t_decode_Opcode x) 0 (.s (.i .i64))).val := hv []
  rw [e] at hg
  exact hg
theorem imm_b (x d1 f3 d3 d4 d5 op : Int) : Gives Tryz.prog 174 #[.agg #[.int .u32 x, .int .i64 d1, .int .i64 f3, .int .i64 d3, .int .i64 d4, .int .i64 d5], .int .i64 op] (.agg #[.int .i64 op, .int .i64 d1, .int .i64 d3, .int .i64 0, .int .i64 (immI x d1 f3 d3 d4 d5 op), .int .i64 0]) := by
  obtain ⟨_, v, hv, hg⟩ := FnNE_ok.spec 174 [.g [.x false (.int .u32 x), .x false (.int .i64 d1), .x false (.int .i64 f3), .x false (.int .i64 d3), .x false (.int .i64 d4), .x false (.int .i64 d5)], .s (.x false (.int .i64 op))] (t_decode_parts_immediate x d1 f3 d3 d4 d5 op).needB (.d (selD (t_decode_parts_immediate x d1 f3 d3 d4 d5 op) 0 (.g [.i .i64, .i .i64, .i .i64, .i .i64, .i .i64, .i .i64]))) (by kernel_rfl) (by kernel_rfl)
  have e : v = (selD (t_decode_parts_immediate x d1 f3 d3 d4 d5 op) 0 (.g [.i .i64, .i .i64, .i .i64, .i .i64, .i .i64, .i .i64])).val := hv []
  have e2 : (selD (t_decode_parts_immediate x d1 f3 d3 d4 d5 op) 0 (.g [.i .i64, .i .i64, .i .i64, .i .i64, .i .i64, .i .i64])).val = .agg #[.int .i64 op, .int .i64 d1, .int .i64 d3, .int .i64 0, .int .i64 (immI x d1 f3 d3 d4 d5 op), .int .i64 0] := by kernel_rfl
  rw [e, e2] at hg
  exact hg
end Go.Proofs.YtfehilinnalflaaGreat
