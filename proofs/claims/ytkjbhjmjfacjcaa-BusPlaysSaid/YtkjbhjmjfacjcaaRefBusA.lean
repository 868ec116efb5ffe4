/- The document's bus in memory: a struct of 16 cells; NewBus, port, Timer, IsDevice; no condition but the state. -/
import Derived.Test.YtkjbhjmjfacjcaaBusG
namespace Go.Proofs.Ytkjbhjmjfacjcaa
open Go.RowKit Go.BigFrame
set_option linter.unusedSimpArgs false
set_option linter.unusedVariables false
set_option maxRecDepth 100000

structure RbV where
  f : Nat → UInt8
  t : BitVec 64
  al : BitVec 64
  ins : Nat → ByteArray
  ns : Nat → Int
  outs : Nat → ByteArray
def rbA (q : Nat) (R : RbV) : Array Value :=
  #[.pointer (some ⟨q, 0, none⟩), U R.t, U R.al, .string (R.ins 0), .string (R.ins 1), .string (R.ins 2), .string (R.ins 3), .int .i64 (R.ns 0), .int .i64 (R.ns 1), .int .i64 (R.ns 2), .int .i64 (R.ns 3), .string (R.outs 0), .string (R.outs 1), .string (R.outs 2), .string (R.outs 3), .bool false]
structure IsRb (w : World) (b q h : Nat) (R : RbV) : Prop where
  blk : w.heap[b]? = some (.cells (rbA q R) 75 (0, 0))
  mem : IsMem w q h 85 R.f
  bq : b ≠ q
  bh : b ≠ h
theorem IsRb.cell {w : World} {b q h : Nat} {R : RbV} (H : IsRb w b q h R) (j : Nat) : w.cell? ⟨b, j, none⟩ = (rbA q R)[j]? := by simp [World.cell?, H.blk]
theorem IsRb.free {w : World} {b q h : Nat} {R : RbV} (H : IsRb w b q h R) (j : Nat) : w.frozen? ⟨b, j, none⟩ = false := by simp [World.frozen?, H.blk]
theorem IsRb.below {w w' : World} {b q h : Nat} {R : RbV} (H : IsRb w b q h R) (u : Below w.heap.size w w') : IsRb w' b q h R :=
  ⟨(u.block b (blk_lt H.blk)).trans H.blk, H.mem.below u, H.bq, H.bh⟩
theorem IsRb.keep {w w' : World} {b q h k : Nat} {R : RbV} (H : IsRb w b q h R) (u : Upd w w' k) (h1 : b ≠ k) (h2 : q ≠ k) (h3 : h ≠ k) : IsRb w' b q h R :=
  ⟨(u.block b (blk_lt H.blk) h1).trans H.blk, H.mem.upd u h2 h3, H.bq, H.bh⟩
theorem IsRb.set {w : World} {b q h : Nat} {R R' : RbV} (H : IsRb w b q h R) (j : Nat) (v : Value) (hj : j < 16) (hf : R'.f = R.f) (hs : (rbA q R).set! j v = rbA q R') : IsRb (w.setCell ⟨b, j, none⟩ v) b q h R' :=
  ⟨by rw [set_block H.blk (by show j < 16; exact hj), hs], by rw [hf]; exact H.mem.upd (set_upd w b j v) (Ne.symm H.bq) (Ne.symm H.bh), H.bq, H.bh⟩
theorem rb_in (q : Nat) (R : RbV) (k : Nat) (hk : k < 4) (s : ByteArray) : (rbA q R).set! (3 + k) (.string s) = rbA q { R with ins := updN R.ins k s } := by
  have h : k = 0 ∨ k = 1 ∨ k = 2 ∨ k = 3 := by omega
  rcases h with rfl | rfl | rfl | rfl <;> rfl
theorem rb_ns (q : Nat) (R : RbV) (k : Nat) (hk : k < 4) (n : Int) : (rbA q R).set! (7 + k) (.int .i64 n) = rbA q { R with ns := updN R.ns k n } := by
  have h : k = 0 ∨ k = 1 ∨ k = 2 ∨ k = 3 := by omega
  rcases h with rfl | rfl | rfl | rfl <;> rfl
theorem rb_out (q : Nat) (R : RbV) (k : Nat) (hk : k < 4) (s : ByteArray) : (rbA q R).set! (11 + k) (.string s) = rbA q { R with outs := updN R.outs k s } := by
  have h : k = 0 ∨ k = 1 ∨ k = 2 ∨ k = 3 := by omega
  rcases h with rfl | rfl | rfl | rfl <;> rfl
theorem rb_t (q : Nat) (R : RbV) (x : BitVec 64) : (rbA q R).set! 1 (U x) = rbA q { R with t := x } := rfl
theorem rb_al (q : Nat) (R : RbV) (x : BitVec 64) : (rbA q R).set! 2 (U x) = rbA q { R with al := x } := rfl
theorem IsRb.cin {w : World} {b q h : Nat} {R : RbV} (H : IsRb w b q h R) (k : Nat) (hk : k < 4) : w.cell? ⟨b, 3 + k, none⟩ = some (.string (R.ins k)) := by
  rw [H.cell]
  have h : k = 0 ∨ k = 1 ∨ k = 2 ∨ k = 3 := by omega
  rcases h with rfl | rfl | rfl | rfl <;> rfl
theorem IsRb.cns {w : World} {b q h : Nat} {R : RbV} (H : IsRb w b q h R) (k : Nat) (hk : k < 4) : w.cell? ⟨b, 7 + k, none⟩ = some (.int .i64 (R.ns k)) := by
  rw [H.cell]
  have h : k = 0 ∨ k = 1 ∨ k = 2 ∨ k = 3 := by omega
  rcases h with rfl | rfl | rfl | rfl <;> rfl
theorem IsRb.cout {w : World} {b q h : Nat} {R : RbV} (H : IsRb w b q h R) (k : Nat) (hk : k < 4) : w.cell? ⟨b, 11 + k, none⟩ = some (.string (R.outs k)) := by
  rw [H.cell]
  have h : k = 0 ∨ k = 1 ∨ k = 2 ∨ k = 3 := by omega
  rcases h with rfl | rfl | rfl | rfl <;> rfl
def rb0 (f : Nat → UInt8) : RbV := { f := f, t := 0#64, al := 18446744073709551615#64, ins := fun _ => .empty, ns := fun _ => 0, outs := fun _ => .empty }
theorem rnewbus {q h : Nat} {f : Nat → UInt8} (w : World) (M : IsMem w q h 85 f) :
    Calls Try.prog 36 #[.pointer (some ⟨q, 0, none⟩)] w fun e w' => e = .returned (.pointer (some ⟨w.heap.size, 0, none⟩)) ∧ IsRb w' w.heap.size q h (rb0 f) ∧ Below w.heap.size w w' := by
  have hq := M.p_lt
  have hh := M.g_lt
  have FIN := Lib.hid (show IsRb (w.alloc (.cells (rbA q (rb0 f)) 75)) w.heap.size q h (rb0 f) ∧ Below w.heap.size w (w.alloc (.cells (rbA q (rb0 f)) 75)) from
    ⟨⟨(MapKept.heap_alloc w _).1, M.below ((Below.refl _ _).alloc (Nat.le_refl _) _), by omega, by omega⟩, (Below.refl _ _).alloc (Nat.le_refl _) _⟩)
  clear M hq hh
  go_enter Try.func36, Try.ntmps36
  go_wp2
  go_ret
  exact ⟨rfl, FIN.out⟩
theorem rdevice {q h : Nat} {R : RbV} (b : Nat) (a : BitVec 64) (w : World) (H : IsRb w b q h R) :
    Calls Try.prog 42 #[.pointer (some ⟨b, 0, none⟩), U a] w fun e w' => e = .returned (.bool (decide (61440 ≤ a.toNat) && decide (a.toNat < 62720))) ∧ w = w' := by
  have c15 : w.cell? ⟨b, 15, none⟩ = some (.bool false) := H.cell 15
  have d1 : decide ((61440 : Int) ≤ (a.toNat : Int)) = decide (61440 ≤ a.toNat) := by simp only [decide_eq_decide]; omega
  have d2 : decide ((a.toNat : Int) < 62720) = decide (a.toNat < 62720) := by simp only [decide_eq_decide]; omega
  generalize decide (61440 ≤ a.toNat) = x1 at *
  generalize decide (a.toNat < 62720) = x2 at *
  clear H
  go_enter Try.func42, Try.ntmps42
  cases x1 <;> cases x2 <;> (go_wp2; go_ret; exact ⟨rfl, rfl⟩)
theorem rtimer {q h : Nat} {R : RbV} (b : Nat) (w : World) (H : IsRb w b q h R) :
    Calls Try.prog 41 #[.pointer (some ⟨b, 0, none⟩)] w fun e w' => e = .returned (.bool (decide (R.al.toNat ≤ R.t.toNat))) ∧ ∃ k, w' = w.drewN k := by
  have c1 : w.cell? ⟨b, 1, none⟩ = some (U R.t) := H.cell 1
  have c2 : w.cell? ⟨b, 2, none⟩ = some (U R.al) := H.cell 2
  have d1 : decide ((R.al.toNat : Int) ≤ (R.t.toNat : Int)) = decide (R.al.toNat ≤ R.t.toNat) := by simp only [decide_eq_decide]; omega
  clear H
  go_enter Try.func41, Try.ntmps41
  go_wp2
  go_region
  all_goals (try go_wp2)
  all_goals go_ret
  all_goals (first | exact ⟨rfl, 1, rfl⟩ | exact ⟨ret_b d1, 1, rfl⟩)
end Go.Proofs.Ytkjbhjmjfacjcaa
