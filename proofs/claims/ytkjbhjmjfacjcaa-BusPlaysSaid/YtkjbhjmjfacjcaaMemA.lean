/- Memory as the program has it (a struct's block and a row of bytes), and the contracts of mem.check and mem.New. -/
import Derived.Laws.MakeOwn
import Derived.Test.YtkjbhjmjfacjcaaBeyond
import Derived.Test.YtkjbhjmjfacjcaaTail
namespace Go.Proofs.Ytkjbhjmjfacjcaa
open Go.RowKit
set_option linter.unusedSimpArgs false
set_option linter.unusedVariables false
set_option maxRecDepth 100000

/-- The bytes of a memory, as a list. -/
def memL (f : Nat → UInt8) : List UInt8 := (List.range 32768).map f
theorem memL_length (f : Nat → UInt8) : (memL f).length = 32768 := by unfold memL; rw [List.length_map, List.length_range]
theorem memL_get (f : Nat → UInt8) (i : Nat) (h : i < 32768) : (memL f)[i]? = some (f i) := by
  unfold memL; rw [List.getElem?_map, List.getElem?_range h]; rfl
theorem memL_congr {f g : Nat → UInt8} (h : ∀ i, i < 32768 → f i = g i) : memL f = memL g := by
  unfold memL; exact List.map_congr_left fun i hi => h i (List.mem_range.1 hi)
/-- In the world w a struct of type T at block p holds a slice of 32768 bytes, the first of block g: they are f. -/
def IsMem (w : World) (p g : Nat) (T : TypeId) (f : Nat → UInt8) : Prop :=
  ∃ rest : List UInt8, w.heap[p]? = some (.cells #[.slice (some ⟨g, 0, none⟩) 32768 (32768 + rest.length)] T (0, 0)) ∧ w.heap[g]? = some (.cells (bytesV (memL f ++ rest)) 5 (0, 0))
/-- Of what was there at most block g has turned. -/
structure Upd (w w' : World) (g : Nat) : Prop where
  os : w'.os = w.os
  tape : w'.tape = w.tape
  output : w'.output = w.output
  size : w.heap.size ≤ w'.heap.size
  block : ∀ k, k < w.heap.size → k ≠ g → w'.heap[k]? = w.heap[k]?
theorem Upd.of_below {w w' : World} (h : Below w.heap.size w w') (g : Nat) : Upd w w' g := ⟨h.os, h.tape, h.output, h.size, fun k hk _ => h.block k hk⟩
theorem Upd.trans {a b c : World} {g : Nat} (h : Upd a b g) (k : Upd b c g) : Upd a c g :=
  ⟨k.os.trans h.os, k.tape.trans h.tape, k.output.trans h.output, Nat.le_trans h.size k.size, fun i hi hg => (k.block i (Nat.lt_of_lt_of_le hi h.size) hg).trans (h.block i hi hg)⟩
theorem Upd.row (w : World) (g : Nat) (arr : Array Value) : Upd w (w.setRow g arr) g :=
  ⟨rfl, rfl, rfl, by simp, fun k _ hg => setRow_other w g k arr hg⟩
theorem blk_lt {w : World} {g : Nat} {o : Obj} (h : w.heap[g]? = some o) : g < w.heap.size := (Array.getElem?_eq_some_iff.1 h).1
theorem IsMem.p_lt {w : World} {p g : Nat} {T : TypeId} {f : Nat → UInt8} (h : IsMem w p g T f) : p < w.heap.size := by obtain ⟨r, h1, h2⟩ := h; exact blk_lt h1
theorem IsMem.g_lt {w : World} {p g : Nat} {T : TypeId} {f : Nat → UInt8} (h : IsMem w p g T f) : g < w.heap.size := by obtain ⟨r, h1, h2⟩ := h; exact blk_lt h2
theorem IsMem.ne {w : World} {p g : Nat} {T : TypeId} {f : Nat → UInt8} (h : IsMem w p g T f) : p ≠ g := by
  rintro rfl
  obtain ⟨r, h1, h2⟩ := h
  rw [h1] at h2
  have e := congrArg (fun o : Option Obj => match o with | some (.cells c _ _) => c.size | _ => 0) h2
  simp only [bytesV_size, List.length_append, memL_length] at e
  simp at e
  omega
theorem IsMem.upd {w w' : World} {p g k : Nat} {T : TypeId} {f : Nat → UInt8} (h : IsMem w p g T f) (u : Upd w w' k) (h1 : p ≠ k) (h2 : g ≠ k) : IsMem w' p g T f := by
  have hp := h.p_lt
  have hg := h.g_lt
  obtain ⟨r, a, b⟩ := h
  exact ⟨r, by rw [u.block p hp h1]; exact a, by rw [u.block g hg h2]; exact b⟩
theorem IsMem.below {w w' : World} {p g : Nat} {T : TypeId} {f : Nat → UInt8} (h : IsMem w p g T f) (u : Below w.heap.size w w') : IsMem w' p g T f := by
  have hp := h.p_lt
  have hg := h.g_lt
  obtain ⟨r, a, b⟩ := h
  exact ⟨r, by rw [u.block p hp]; exact a, by rw [u.block g hg]; exact b⟩
theorem Upd.below {B : Nat} {w0 w w' : World} {g : Nat} (h : Below B w0 w) (u : Upd w w' g) (hB : B ≤ w.heap.size) (hg : B ≤ g) : Below B w0 w' :=
  ⟨u.os.trans h.os, u.tape.trans h.tape, u.output.trans h.output, Nat.le_trans h.size u.size, fun k hk => (u.block k (by omega) (by omega)).trans (h.block k hk)⟩

/-- What is wrong with an access. -/
def codeOf (a : BitVec 64) (n : Int) : Int :=
  if n ≠ 1 ∧ n ≠ 2 ∧ n ≠ 4 ∧ n ≠ 8 ∨ (a.toNat : Int) % n ≠ 0 then 61 else if 32768 ≤ a.toNat then 60 else 0
theorem codeOf_zero {a : BitVec 64} {n : Int} (h : codeOf a n = 0) : (n = 1 ∨ n = 2 ∨ n = 4 ∨ n = 8) ∧ (a.toNat : Int) % n = 0 ∧ a.toNat < 32768 ∧ (a.toNat : Int) + n ≤ 32768 := by
  unfold codeOf at h
  split at h
  · cases h
  · rename_i c
    split at h
    · cases h
    · rename_i c2
      have h1 : n = 1 ∨ n = 2 ∨ n = 4 ∨ n = 8 := by omega
      have h2 : (a.toNat : Int) % n = 0 := by omega
      refine ⟨h1, h2, by omega, ?_⟩
      rcases h1 with rfl | rfl | rfl | rfl <;> omega
theorem codeOf_cases (a : BitVec 64) (n : Int) : codeOf a n = 0 ∨ codeOf a n = 60 ∨ codeOf a n = 61 := by
  unfold codeOf; (repeat' split) <;> simp

set_option maxHeartbeats 4000000 in
set_option maxRecDepth 100000 in
theorem check_any (a : BitVec 64) (n : Int) (w : World) :
    Calls Try.prog 54 #[U a, .int .i64 n] w fun e w' => e = .returned (.int .i64 (codeOf a n)) ∧ w = w' := by
  by_cases hn : n = 1 ∨ n = 2 ∨ n = 4 ∨ n = 8
  · by_cases hm : (a.toNat : Int) % n = 0
    · by_cases hr : 32768 ≤ (a.toNat : Int)
      · have e : codeOf a n = 60 := by unfold codeOf; rw [if_neg (by omega), if_pos (by omega)]
        rw [e]
        clear e
        rcases hn with rfl | rfl | rfl | rfl <;> (go_enter Try.func54, Try.ntmps54; go_wp2; all_goals go_ret; all_goals exact ⟨rfl, rfl⟩)
      · have e : codeOf a n = 0 := by unfold codeOf; rw [if_neg (by omega), if_neg (by omega)]
        rw [e]
        clear e
        rcases hn with rfl | rfl | rfl | rfl <;> (go_enter Try.func54, Try.ntmps54; go_wp2; all_goals go_ret; all_goals exact ⟨rfl, rfl⟩)
    · have e : codeOf a n = 61 := by unfold codeOf; rw [if_pos (Or.inr hm)]
      rw [e]
      clear e
      rcases hn with rfl | rfl | rfl | rfl
      · omega
      all_goals (go_enter Try.func54, Try.ntmps54; go_wp2; all_goals go_ret; all_goals exact ⟨rfl, rfl⟩)
  · have e : codeOf a n = 61 := by unfold codeOf; rw [if_pos (Or.inl (by omega))]
    rw [e]
    have h1 : (n != 1) = true := bne_iff_ne.2 (by omega)
    have h2 : (n != 2) = true := bne_iff_ne.2 (by omega)
    have h4 : (n != 4) = true := bne_iff_ne.2 (by omega)
    have h8 : (n != 8) = true := bne_iff_ne.2 (by omega)
    clear e hn
    go_enter Try.func54, Try.ntmps54
    go_wp2
    go_ret
    exact ⟨rfl, rfl⟩

theorem made_n (n : Nat) : madeCells #[Value.int .u8 0] n = ((List.range n).map fun _ => Value.int .u8 0).toArray := by
  apply Array.ext_getElem?
  intro i
  unfold madeCells
  by_cases h : i < n
  · simp [h, Nat.mod_one]
  · rw [Array.getElem?_eq_none (by rw [Array.size_map, Array.size_range]; omega), Array.getElem?_eq_none (by rw [List.size_toArray, List.length_map, List.length_range]; omega)]
theorem made_bytes : madeCells #[Value.int .u8 0] (32768 * 1) = bytesV (memL fun _ => 0) := by
  rw [made_n, Nat.mul_one]
  unfold bytesV memL
  rw [List.map_map]
  rfl
theorem run_make_mem (w : World) : (Instr.makeSlice 40 (.int .i64 32768) (.int .i64 32768)).run Try.prog w = .ok (.slice (some ⟨w.heap.size, 0, none⟩) 32768 32768) (w.alloc (.cells (bytesV (memL fun _ => 0)) 5)) := by
  obtain ⟨i0, hi, hz0, hz1, hz2⟩ := info_parts infoB
  have h := run_make (P := Try.prog) w 40 5 i0 (.int .u8 0) Try.underlying40 hi hz0 .i64 .i64 32768 32768 (by omega) (by omega) (by rw [hz2]; omega) (by omega)
  rw [h, hz1]
  have e : (32768 : Int).toNat = 32768 := rfl
  have e2 : (Value.int .u8 0).cells = #[Value.int .u8 0] := rfl
  rw [e, e2, made_bytes]
set_option maxRecDepth 100000 in
theorem new_any (w : World) :
    Calls Try.prog 20 #[] w fun e w' => e = .returned (.pointer (some ⟨w.heap.size + 1, 0, none⟩)) ∧
      w' = (w.alloc (.cells (bytesV (memL fun _ => 0)) 5)).alloc (.cells #[.slice (some ⟨w.heap.size, 0, none⟩) 32768 32768] 88) := by
  have hm := run_make_mem
  go_enter Try.func20, Try.ntmps20
  go_wp2
  go_ret
  exact ⟨rfl, rfl⟩
end Go.Proofs.Ytkjbhjmjfacjcaa
