/- The bus: its state in memory; the contracts of New, port, console, Timer, SetTime, IsDevice; no condition but the state. -/
import Derived.Test.YtkjbhjmjfacjcaaMemE
import Derived.Laws.LoneSync
namespace Go.Proofs.Ytkjbhjmjfacjcaa
open Go.RowKit Go.BigFrame
set_option linter.unusedSimpArgs false
set_option linter.unusedVariables false
set_option maxRecDepth 100000

/-- A slice of bytes that is held by nobody else: block k (none: nil), the bytes l. -/
def RowAt (w : World) (B : Nat) (k : Option Nat) (v : Value) (l : List UInt8) : Prop :=
  match k with
  | none => v = .slice none 0 0 ∧ l = []
  | some g => ∃ o cap pre rest, v = .slice (some ⟨g, o, none⟩) l.length cap ∧ w.heap[g]? = some (.cells (bytesV (pre ++ l ++ rest)) 5 (0, 0)) ∧ pre.length = o ∧ cap ≤ l.length + rest.length ∧ l.length ≤ cap ∧ B ≤ g ∧ cap ≤ maxLen
def busA (p : Nat) (t al : BitVec 64) (vs : Nat → Value) (ns : Nat → Int) : Array Value :=
  #[.pointer (some ⟨p, 0, none⟩), U t, U al, vs 0, vs 1, .int .i64 (ns 0), vs 2, vs 3, .int .i64 (ns 1), vs 4, vs 5, .int .i64 (ns 2), vs 6, vs 7, .int .i64 (ns 3)]
structure BusV where
  f : Nat → UInt8
  t : BitVec 64
  al : BitVec 64
  ls : Nat → List UInt8
  ns : Nat → Int
  nil : Nat → Bool
structure IsBus (w : World) (B b p g : Nat) (ks : Nat → Option Nat) (vs : Nat → Value) (S : BusV) : Prop where
  blk : w.heap[b]? = some (.cells (busA p S.t S.al vs S.ns) 100 (0, 0))
  mem : IsMem w p g 88 S.f
  row : ∀ i, i < 8 → RowAt w B (ks i) (vs i) (S.ls i)
  dis : ∀ i j k, i < 8 → j < 8 → ks i = some k → ks j = some k → i = j
  far : ∀ i, i < 8 → ks i ≠ some g ∧ ks i ≠ some b ∧ ks i ≠ some p
  lb : B ≤ b
  lp : B ≤ p
  lg : B ≤ g
  bp : b ≠ p
  bg : b ≠ g
  nl : ∀ i, i < 8 → S.nil i = true → ks i = none
def Bus (w : World) (B b : Nat) (S : BusV) : Prop := ∃ p g ks vs, IsBus w B b p g ks vs S
theorem RowAt.lt {w : World} {B g : Nat} {v : Value} {l : List UInt8} (h : RowAt w B (some g) v l) : g < w.heap.size := by obtain ⟨o, cap, pre, rest, _, h, _⟩ := h; exact blk_lt h
theorem RowAt.same {w w' : World} {B : Nat} {k : Option Nat} {v : Value} {l : List UInt8} (h : RowAt w B k v l) (hb : ∀ g, k = some g → g < w.heap.size → w'.heap[g]? = w.heap[g]?) : RowAt w' B k v l := by
  cases k with
  | none => exact h
  | some g =>
    have hl := h.lt
    obtain ⟨o, cap, pre, rest, h1, h2, h3⟩ := h
    exact ⟨o, cap, pre, rest, h1, by rw [hb g rfl hl]; exact h2, h3⟩
theorem IsBus.below {w w' : World} {B b p g : Nat} {ks : Nat → Option Nat} {vs : Nat → Value} {S : BusV} (h : IsBus w B b p g ks vs S) (u : Below w.heap.size w w') : IsBus w' B b p g ks vs S :=
  { h with
    blk := by rw [u.block b (blk_lt h.blk)]; exact h.blk
    mem := h.mem.below u
    row := fun i hi => (h.row i hi).same fun g _ hg => u.block g hg }
theorem Bus.below {w w' : World} {B b : Nat} {S : BusV} (h : Bus w B b S) (u : Below w.heap.size w w') : Bus w' B b S := by
  obtain ⟨p, g, ks, vs, h⟩ := h; exact ⟨p, g, ks, vs, h.below u⟩
/-- One cell of the bus is turned. -/
theorem set_block {w : World} {b j : Nat} {cs : Array Value} {T : TypeId} {v : Value} (h : w.heap[b]? = some (.cells cs T (0, 0))) (hj : j < cs.size) :
    (w.setCell ⟨b, j, none⟩ v).heap[b]? = some (.cells (cs.set! j v) T (0, 0)) := by
  have hlt := blk_lt h
  have h' : w.heap[b] = .cells cs T (0, 0) := by simpa [Array.getElem?_eq_getElem hlt] using h
  show (w.heap.modify b _)[b]? = _
  rw [Array.getElem?_eq_getElem (by simpa using hlt), Array.getElem_modify_self, h']
  simp
theorem set_other (w : World) (b j k : Nat) (v : Value) (h : k ≠ b) : (w.setCell ⟨b, j, none⟩ v).heap[k]? = w.heap[k]? := by
  show (w.heap.modify b _)[k]? = _
  rw [Array.getElem?_modify, if_neg (fun e => h e.symm)]
theorem set_upd (w : World) (b j : Nat) (v : Value) : Upd w (w.setCell ⟨b, j, none⟩ v) b :=
  ⟨rfl, rfl, rfl, by show _ ≤ (w.heap.modify b _).size; simp, fun k _ h => set_other w b j k v h⟩
/-- The bus's own block is turned, nothing else. -/
theorem IsBus.turn {w w' : World} {B b p g : Nat} {ks : Nat → Option Nat} {vs : Nat → Value} {S : BusV} (h : IsBus w B b p g ks vs S) (u : Upd w w' b) (t al : BitVec 64) (ns : Nat → Int)
    (hb : w'.heap[b]? = some (.cells (busA p t al vs ns) 100 (0, 0))) : IsBus w' B b p g ks vs { S with t := t, al := al, ns := ns } :=
  { h with
    blk := hb
    mem := h.mem.upd u (fun e => h.bp e.symm) (fun e => h.bg e.symm)
    row := fun i hi => (h.row i hi).same fun k hk hl => u.block k hl (fun e => (h.far i hi).2.1 (by rw [hk, e])) }
theorem IsBus.cell {w : World} {B b p g : Nat} {ks : Nat → Option Nat} {vs : Nat → Value} {S : BusV} (h : IsBus w B b p g ks vs S) (j : Nat) : w.cell? ⟨b, j, none⟩ = (busA p S.t S.al vs S.ns)[j]? := by
  simp [World.cell?, h.blk]
theorem IsBus.free {w : World} {B b p g : Nat} {ks : Nat → Option Nat} {vs : Nat → Value} {S : BusV} (h : IsBus w B b p g ks vs S) (j : Nat) : w.frozen? ⟨b, j, none⟩ = false := by
  simp [World.frozen?, h.blk]

theorem aload (b j : Nat) (x : BitVec 64) (w : World) (hc : w.cell? ⟨b, j, none⟩ = some (U x)) :
    Calls Try.prog 58 #[.pointer (some ⟨b, j, none⟩)] w fun e w' => e = .returned (U x) ∧ w = w' := by
  have hl := run_call_load (P := Try.prog) Try.func71 (by kernel_rfl) (by kernel_rfl) (by kernel_rfl) .u64 (by kernel_rfl) hc
  go_enter Try.func58, Try.ntmps58
  go_wp2
  go_ret
  exact ⟨rfl, rfl⟩
theorem astore (b j : Nat) (x y : BitVec 64) (w : World) (hc : w.cell? ⟨b, j, none⟩ = some (U x)) (hz : w.frozen? ⟨b, j, none⟩ = false) :
    Calls Try.prog 60 #[.pointer (some ⟨b, j, none⟩), U y] w fun e w' => e = .returned (.tuple #[]) ∧ w' = w.setCell ⟨b, j, none⟩ (U y) := by
  have hl := run_call_store (P := Try.prog) Try.func72 (by kernel_rfl) (by kernel_rfl) (by kernel_rfl) (by kernel_rfl) (k := .u64) (y := (y.toNat : Int)) hc hz
  go_enter Try.func60, Try.ntmps60
  go_wp2
  go_end0
  exact ⟨rfl, rfl⟩
theorem bport (b k : Nat) (w : World) (hk : k < 4) :
    Calls Try.prog 56 #[.pointer (some ⟨b, 0, none⟩), .int .u64 (k : Int)] w fun e w' => e = .returned (.pointer (some ⟨b, 3 + 3 * k, none⟩)) ∧ w = w' := by
  have h : k = 0 ∨ k = 1 ∨ k = 2 ∨ k = 3 := by omega
  rcases h with rfl | rfl | rfl | rfl <;>
  (go_enter Try.func56, Try.ntmps56
   go_wp2
   go_ret
   exact ⟨rfl, rfl⟩)
theorem bport_no (b : Nat) (k : Int) (w : World) (hk : 4 ≤ k) :
    Calls Try.prog 56 #[.pointer (some ⟨b, 0, none⟩), .int .u64 k] w fun e w' => e = .returned (.pointer none) ∧ w = w' := by
  go_enter Try.func56, Try.ntmps56
  go_wp2
  go_ret
  exact ⟨rfl, rfl⟩
end Go.Proofs.Ytkjbhjmjfacjcaa
