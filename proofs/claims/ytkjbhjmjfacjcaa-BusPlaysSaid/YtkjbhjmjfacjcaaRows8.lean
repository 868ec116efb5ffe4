/- Rows of bytes that nobody else holds: what append, a slicing, a conversion do to them; no condition but the row's own. -/
import Derived.Test.YtkjbhjmjfacjcaaBusA
import Derived.Test.YtkjbhjmjfacjcaaMemC
import Derived.Deep.AppendSrc
import Derived.Deep.Upon
namespace Go.Proofs.Ytkjbhjmjfacjcaa
open Go.RowKit Go.BigFrame
set_option linter.unusedSimpArgs false
set_option linter.unusedVariables false
set_option maxRecDepth 100000

/-- Of what was there at most the row's own block has turned. -/
structure UpdK (w w' : World) (k : Option Nat) : Prop where
  os : w'.os = w.os
  tape : w'.tape = w.tape
  output : w'.output = w.output
  size : w.heap.size ≤ w'.heap.size
  block : ∀ j, j < w.heap.size → k ≠ some j → w'.heap[j]? = w.heap[j]?
theorem set_cells (g : Nat) (T : TypeId) : ∀ (l : List UInt8) (w : World) (pre post : List UInt8), l.length ≤ post.length → w.heap[g]? = some (.cells (bytesV (pre ++ post)) T (0, 0)) →
    (w.setCells g pre.length (l.map fun b => Value.int .u8 (b.toNat : Int))).heap[g]? = some (.cells (bytesV (pre ++ l ++ post.drop l.length)) T (0, 0)) ∧
    (w.setCells g pre.length (l.map fun b => Value.int .u8 (b.toNat : Int))).os = w.os ∧ (w.setCells g pre.length (l.map fun b => Value.int .u8 (b.toNat : Int))).tape = w.tape ∧
    (w.setCells g pre.length (l.map fun b => Value.int .u8 (b.toNat : Int))).output = w.output ∧ (w.setCells g pre.length (l.map fun b => Value.int .u8 (b.toNat : Int))).heap.size = w.heap.size ∧
    ∀ j, j ≠ g → (w.setCells g pre.length (l.map fun b => Value.int .u8 (b.toNat : Int))).heap[j]? = w.heap[j]?
  | [], w, pre, post, _, hg => ⟨by simpa [World.setCells] using hg, rfl, rfl, rfl, rfl, fun _ _ => rfl⟩
  | b :: l, w, pre, post, hl, hg => by
    obtain ⟨q, qs, rfl⟩ : ∃ q qs, post = q :: qs := by cases post with | nil => simp at hl | cons q qs => exact ⟨q, qs, rfl⟩
    have h1 := set_block (v := .int .u8 (b.toNat : Int)) (j := pre.length) hg (by rw [bytesV_size]; simp)
    have e1 : (bytesV (pre ++ q :: qs)).set! pre.length (.int .u8 (b.toNat : Int)) = bytesV ((pre ++ [b]) ++ qs) := by
      unfold bytesV
      rw [← Array.toList_inj]
      simp
    rw [e1] at h1
    have ih := set_cells g T l (w.setCell ⟨g, pre.length, none⟩ (.int .u8 (b.toNat : Int))) (pre ++ [b]) qs (by simpa using hl) h1
    rw [show (pre ++ [b]).length = pre.length + 1 by simp] at ih
    obtain ⟨i1, i2, i3, i4, i5, i6⟩ := ih
    refine ⟨?_, i2, i3, i4, ?_, fun j hj => (i6 j hj).trans (set_other _ _ _ _ _ hj)⟩
    · rw [show (b :: l).map (fun b => Value.int .u8 (b.toNat : Int)) = .int .u8 (b.toNat : Int) :: l.map fun b => Value.int .u8 (b.toNat : Int) from rfl, World.setCells, i1]
      congr 4
      simp
    · rw [show (b :: l).map (fun b => Value.int .u8 (b.toNat : Int)) = .int .u8 (b.toNat : Int) :: l.map fun b => Value.int .u8 (b.toNat : Int) from rfl, World.setCells, i5]
      show (w.heap.modify g _).size = _
      simp
theorem row_cell {w : World} {g o : Nat} {pre l rest : List UInt8} {T : TypeId} (hg : w.heap[g]? = some (.cells (bytesV (pre ++ l ++ rest)) T (0, 0))) (ho : pre.length = o) :
    ∀ j v, (l.map fun b => Value.int .u8 (b.toNat : Int))[j]? = some v → w.cell? ((⟨g, o, none⟩ : Addr).add j) = some v := by
  intro j v hj
  have hadd : (⟨g, o, none⟩ : Addr).add j = ⟨g, o + j, none⟩ := by unfold Addr.add; split <;> simp_all
  rw [hadd]
  rw [List.getElem?_map, Option.map_eq_some_iff] at hj
  obtain ⟨b, hb, rfl⟩ := hj
  have hj2 : j < l.length := (List.getElem?_eq_some_iff.1 hb).1
  simp only [World.cell?, hg]
  simp only [bytesV, List.getElem?_toArray]
  rw [List.getElem?_map, List.append_assoc, List.getElem?_append_right (by omega), ← ho, Nat.add_sub_cancel_left, List.getElem?_append_left hj2, hb]; rfl
/-- append of bytes to a row. -/
theorem append_row {w : World} {B : Nat} {k : Option Nat} {v : Value} {l : List UInt8} (h : RowAt w B k v l) (hB : B ≤ w.heap.size) (tx : TypeId) (x : Value) (l2 : List UInt8)
    (hs : Src Try.prog 1 tx x l2.length (l2.map fun b => Value.int .u8 (b.toNat : Int)) w) (hl : l.length + l2.length ≤ 1000000) :
    ∃ v' k' w', (Builtin.append_ #[40, tx] 40 #[v, x]).run Try.prog w = .ok v' w' ∧ RowAt w' B k' v' (l ++ l2) ∧ UpdK w w' k ∧ (k' = k ∨ k' = some w.heap.size) := by
  obtain ⟨i0, hi, hz0, hz1, hz2⟩ := info_parts infoB
  have grow : ∀ (bs : Option Addr) (cap : Nat), v = .slice bs l.length cap → cap < l.length + l2.length →
      (Builtin.firstCells i0.size l.length (.slice bs l.length cap)).run Try.prog w.drew = .ok (l.map fun b => Value.int .u8 (b.toNat : Int)).toArray w.drew →
      ∃ v' k' w', (Builtin.append_ #[40, tx] 40 #[v, x]).run Try.prog w = .ok v' w' ∧ RowAt w' B k' v' (l ++ l2) ∧ UpdK w w' k ∧ (k' = k ∨ k' = some w.heap.size) := by
    rintro bs cap rfl hc hold
    have hrun := run_append_grow_src (P := Try.prog) w 40 tx 40 5 i0 (.int .u8 0) Try.underlying40 hi hz0 bs l.length cap _ hold x l2.length _ (by rw [hz1]; exact hs) hc (by omega)
      (growslice_fits hc (by rw [hz2]; omega))
    have hge := grownCap_ge w (l.length + l2.length) cap 5
    have hmx := grownCap_le_maxLen w (l.length + l2.length) cap 5 (by simp only [maxLen]; omega)
    generalize grownCap w (l.length + l2.length) cap 5 = G at *
    refine ⟨_, some w.heap.size, _, hrun, ⟨0, G, [], List.replicate (G - (l.length + l2.length)) 0, by rw [List.length_append], ?_, rfl, by rw [List.length_append, List.length_replicate]; omega, by rw [List.length_append]; omega, hB, hmx⟩, ?_, .inr rfl⟩
    · have e := (MapKept.heap_alloc w.drew (.cells ((l.map (fun b => Value.int .u8 (b.toNat : Int)) ++ l2.map (fun b => Value.int .u8 (b.toNat : Int))).toArray ++ Builtin.zeroCells (Value.int .u8 0).cells (G - (l.length + l2.length))) 5)).1
      rw [show w.drew.heap.size = w.heap.size from rfl] at e
      rw [e]
      have e2 : (Value.int IntKind.u8 0).cells = #[Value.int .u8 0] := rfl
      rw [e2, zero_cells]
      congr 2
      rw [← List.map_append]
      show bytesV (l ++ l2) ++ _ = _
      rw [bytesV_append, List.nil_append]
    · exact ⟨rfl, rfl, rfl, by simp, fun j hj _ => Below.heap_alloc w.drew _ j hj⟩
  cases k with
  | none =>
    obtain ⟨rfl, rfl⟩ := h
    rcases Nat.eq_zero_or_pos l2.length with h0 | h0
    · have e : l2 = [] := List.length_eq_zero_iff.1 h0
      subst e
      refine ⟨.slice none 0 0, none, w, ?_, ⟨rfl, rfl⟩, ⟨rfl, rfl, rfl, Nat.le_refl _, fun _ _ _ => rfl⟩, .inl rfl⟩
      exact run_append_nothing (P := Try.prog) w 40 tx 40 5 i0 Try.underlying40 hi none 0 0 (Nat.le_refl _) x (by rw [hz1]; exact hs)
    · exact grow none 0 rfl (by simpa using h0) (run_firstCells_none _ _ _ _ _)
  | some g =>
    have hgl := h.lt
    obtain ⟨o, cap, pre, rest, rfl, hg, ho, hc1, hc2, hBg, hmx⟩ := h
    by_cases hr : l.length + l2.length ≤ cap
    · have hpost : l2.length ≤ rest.length := by omega
      have hg' : w.heap[g]? = some (.cells (bytesV ((pre ++ l) ++ rest)) 5 (0, 0)) := hg
      have hset := set_cells g 5 l2 w (pre ++ l) rest hpost hg'
      have hofs : (pre ++ l).length = o + l.length * i0.size := by rw [hz1, List.length_append, ho]; omega
      have hrun := run_append_room_src (P := Try.prog) w 40 tx 40 5 i0 Try.underlying40 hi g o l.length cap x l2.length _ (by rw [hz1]; exact hs) hr
        (by intro j hj; rw [← hofs]; rw [List.length_map] at hj; simp [World.cell?, hg, bytesV]; omega)
        (by intro j hj; simp [World.frozen?, hg])
      rw [← hofs] at hrun
      obtain ⟨s1, s2, s3, s4, s5, s6⟩ := hset
      refine ⟨_, some g, _, hrun, ⟨o, cap, pre, rest.drop l2.length, by rw [List.length_append], ?_, ho, by rw [List.length_append, List.length_drop]; omega, by rw [List.length_append]; omega, hBg, hmx⟩, ⟨s2, s3, s4, by omega, fun j _ hj => s6 j (fun e => hj (by rw [e]))⟩, .inl rfl⟩
      rw [s1]
      congr 3
      simp [List.append_assoc]
    · exact grow _ cap rfl (by omega) (run_firstCells_some _ _ _ _ _ _ _ (by rw [hz1, List.length_map]; omega) (by intro j u hj; exact row_cell (w := w.drew) hg ho j u hj))
end Go.Proofs.Ytkjbhjmjfacjcaa
