/- bytes.Clone of any row; no condition but the row's. -/
import Derived.Test.YtkjbhjmjfacjcaaBusF
import Derived.Test.YtkjbhjmjfacjcaaBusG
namespace Go.Proofs.Ytkjbhjmjfacjcaa
open Go.RowKit Go.BigFrame
set_option linter.unusedSimpArgs false
set_option linter.unusedVariables false
set_option maxRecDepth 100000

/-- What a clone is: a row with the same bytes, nil or new. -/
def CloneAt (w : World) (l : List UInt8) (e : Ending) (w' : World) : Prop :=
  ∃ a n c k, e = .returned (.slice a n c) ∧ RowAt w' w.heap.size k (.slice a n c) l ∧ Below w.heap.size w w'
theorem clone_row {w : World} {B : Nat} {k : Option Nat} {v : Value} {l : List UInt8} (h : RowAt w B k v l) (hl : l.length ≤ 1000000) :
    Calls Try.prog 57 #[v] w (CloneAt w l) := by
  cases k with
  | none =>
    obtain ⟨rfl, rfl⟩ := h
    refine (clone_nil w).mono ?_
    rintro e w' ⟨rfl, rfl⟩
    exact ⟨none, 0, 0, none, rfl, ⟨rfl, rfl⟩, Below.refl _ _⟩
  | some g =>
    have hgl := h.lt
    obtain ⟨o, cap, pre, rest, rfl, hg, ho, hc1, hc2, hBg, hmx⟩ := h
    have hg2 : (w.alloc (.cells #[] 5)).heap[g]? = some (.cells (bytesV (pre ++ l ++ rest)) 5 (0, 0)) := by rw [Below.heap_alloc _ _ _ hgl]; exact hg
    have hr0 : RowAt (w.alloc (.cells #[] 5)) w.heap.size (some w.heap.size) (.slice (some ⟨w.heap.size, 0, none⟩) 0 0) [] :=
      ⟨0, 0, [], [], rfl, (MapKept.heap_alloc w _).1, rfl, by simp, by simp, Nat.le_refl _, by simp only [maxLen]; omega⟩
    obtain ⟨v', k', w', hap, hr', hu, hk⟩ := append_row hr0 (by simp) 40 (.slice (some ⟨g, o, none⟩) l.length cap) l
      (Src.ofSlice (P := Try.prog) (w := w.alloc (.cells #[] 5)) Try.underlying40 ⟨g, o, none⟩ l.length cap _ (by rw [List.length_map]; omega) (row_cell hg2 ho) (by
        intro u hu
        obtain ⟨b, _, rfl⟩ := List.mem_map.1 hu
        rfl)) (by simpa using hl)
    rw [List.nil_append] at hr'
    obtain ⟨a', c', rfl⟩ := hr'.shape
    have hB : Below w.heap.size w w' := (((Below.refl _ _).alloc (Nat.le_refl _) _)).trans ⟨hu.os, hu.tape, hu.output, hu.size, fun j hj => hu.block j (by simp; omega) (fun e => by cases e; omega)⟩
    have hnil := fun W => Lib.run_eql_slice_nil (P := Try.prog) W 40 5 (some ⟨g, o, none⟩) l.length cap 0 0 Try.underlying40
    have FIN := Lib.hid (show CloneAt w l (.returned (.slice a' l.length c')) w' from ⟨_, _, _, _, rfl, hr', hB⟩)
    obtain ⟨n, hn⟩ : ∃ n, n = l.length := ⟨_, rfl⟩
    rw [← hn] at hap hnil FIN ⊢
    clear hr' hu hk hB hr0 hg2 hg ho hc1 hc2 hBg hmx hl hn
    go_enter Try.func57, Try.ntmps57
    go_wp2_with (at_builtin; refine wpList_append_run rfl _ _ _ _ rfl _ _ rfl rfl _ _ hap ?_)
    go_ret
    exact FIN.out
end Go.Proofs.Ytkjbhjmjfacjcaa
