/- Slices of structs as arguments: their cells. Over any program; no condition but the reading. -/
import Derived.OpenShut
import Derived.Deep.Slices
import Derived.Carry
import Derived.Test.YtkjbhjmjfacjcaaProg
namespace Go.Proofs.Ytkjbhjmjfacjcaa
open Go.ChangeShapes Go.WideShapes Go.RowKit
set_option linter.unusedVariables false
set_option maxRecDepth 100000
section
variable {H : Type} {enc : TypeId × Value → H} {P : Program} {w : World} {base : Nat} {spare : Nat → Bool} {held : Bool}

theorem slice_structs {t e : TypeId} {fs : Array Field} {a : Option Addr} {n c : Nat} {d : DataW H} {p : List MemPlace} (ht : P.underlying t = some (.slice e)) (he : P.underlying e = some (.struct fs)) (hce : 0 < P.cellsOf e)
    (h : DataW.Trod enc P w base spare held t (.slice a n c) d p) (hn : 0 < n) :
    ∃ b o, a = some ⟨b, o, none⟩ ∧ b < w.heap.size ∧ ∀ i, i < n → ∃ cs : List Value, (∀ j v, cs[j]? = some v → w.cell? ⟨b, o + i * P.cellsOf e + j, none⟩ = some v) ∧
      ∀ (k : Nat) (f : Field), fs[k]? = some f → ∃ m y, DataW.trod enc P w base spare held m f.type ((cs.drop f.offset).take (P.cellsOf f.type)) = some y := by
  obtain ⟨fuel, hf⟩ := h
  rcases Go.Deep.open_slice ht hf with ⟨hcs, _⟩ | ⟨a', len, cap, m, k, D, Pl, hcs, hb, hl, hm, hmm, _, hx⟩
  · simp [Value.cells] at hcs
    omega
  · simp [Value.cells] at hcs
    obtain ⟨rfl, rfl, rfl⟩ := hcs
    have hnm : n ≤ m := by rw [hmm]; split <;> omega
    obtain ⟨b, o, spot⟩ := a'
    have hspot : spot = none := by
      obtain ⟨cs, h1, _⟩ := hx 0 (by omega)
      obtain ⟨_, hlen, hcell⟩ := World.cells?_some h1
      have e0 := hcell 0 hce
      obtain ⟨v, hv⟩ : ∃ v, cs[0]? = some v := ⟨cs[0]'(by omega), by simp⟩
      rw [hv] at e0
      simpa [Addr.add] using World.cell?_spot e0
    subst hspot
    have each : ∀ i, i < n → ∃ cs : List Value, cs.length = P.cellsOf e ∧ (∀ j v, cs[j]? = some v → w.cell? ⟨b, o + i * P.cellsOf e + j, none⟩ = some v) ∧
      ∀ (k : Nat) (f : Field), fs[k]? = some f → ∃ m y, DataW.trod enc P w base spare held m f.type ((cs.drop f.offset).take (P.cellsOf f.type)) = some y := by
      intro i hi
      obtain ⟨cs, h1, h2⟩ := hx i (by omega)
      obtain ⟨_, hlen, hcell⟩ := World.cells?_some h1
      refine ⟨cs, hlen, ?_, ?_⟩
      · intro j v hv
        have hj : j < P.cellsOf e := by rw [← hlen]; exact (List.getElem?_eq_some_iff.1 hv).1
        have := hcell j hj
        rw [hv, add_plain, add_plain] at this
        exact this
      · intro q f hq
        obtain ⟨xs, k2, _, _, _, hxl, hff⟩ := DataW.trod_struct he h2
        have := hff q f hq
        have hql : q < xs.length := by rw [hxl]; exact (Array.getElem?_eq_some_iff.1 hq).1
        exact ⟨k2, xs[q], by rw [this, List.getElem?_eq_getElem hql]⟩
    refine ⟨b, o, rfl, ?_, fun i hi => ?_⟩
    · obtain ⟨cs, hlen, hc, _⟩ := each 0 (by omega)
      have : cs[0]? = some (cs[0]'(by omega)) := by simp
      exact World.block_lt_of_cell? _ _ (hc 0 _ this)
    · obtain ⟨cs, _, h1, h2⟩ := each i hi
      exact ⟨cs, h1, h2⟩
theorem take_one {cs : List Value} {k : Nat} {v : Value} (h : (cs.drop k).take 1 = [v]) : cs[k]? = some v := by
  have := congrArg (fun l => l[0]?) h
  simpa using this
theorem field_int {t : TypeId} {kd : IntKind} {cs : List Value} {o : Nat} (ht : P.underlying t = some (.int kd)) (hc : P.cellsOf t = 1) (h : ∃ m y, DataW.trod enc P w base spare held m t ((cs.drop o).take (P.cellsOf t)) = some y) :
    ∃ x, cs[o]? = some (.int kd x) ∧ (Lit.int kd x).wf = true := by
  obtain ⟨m, y, h⟩ := h
  rw [hc] at h
  obtain ⟨x, hx, _, hw⟩ := DataW.trod_int ht h
  exact ⟨x, take_one hx, hw⟩
theorem field_bool {t : TypeId} {cs : List Value} {o : Nat} (ht : P.underlying t = some .bool) (hc : P.cellsOf t = 1) (h : ∃ m y, DataW.trod enc P w base spare held m t ((cs.drop o).take (P.cellsOf t)) = some y) :
    ∃ x, cs[o]? = some (.bool x) := by
  obtain ⟨m, y, h⟩ := h
  rw [hc] at h
  obtain ⟨x, hx, _⟩ := DataW.trod_bool ht h
  exact ⟨x, take_one hx⟩
theorem field_string {t : TypeId} {cs : List Value} {o : Nat} (ht : P.underlying t = some .string) (hc : P.cellsOf t = 1) (h : ∃ m y, DataW.trod enc P w base spare held m t ((cs.drop o).take (P.cellsOf t)) = some y) :
    ∃ x : ByteArray, cs[o]? = some (.string x) ∧ x.size ≤ maxLen := by
  obtain ⟨m, y, h⟩ := h
  rw [hc] at h
  obtain ⟨x, hx, _, hw⟩ := DataW.trod_string ht h
  exact ⟨x, take_one hx, hw⟩
end
end Go.Proofs.Ytkjbhjmjfacjcaa
