/- A state as an argument: its cells; no condition but the reading. -/
import Derived.Test.YtalcldghpmeeaaaOpens
import Derived.Test.YtalcldghpmeeaaaCleanB
namespace Go.Proofs.Ytalcldghpmeeaaa
open Go.ChangeShapes Go.WideShapes Go.RowKit
set_option linter.unusedVariables false
set_option maxRecDepth 100000
section
variable {H : Type} {enc : TypeId × Value → H} {w : World} {base : Nat} {spare : Nat → Bool} {held : Bool}

theorem arr_u64 {t : TypeId} {n m : Nat} {cs : List Value} {y : DataW H × List MemPlace} (ht : Try.prog.underlying t = some (.array n 22)) (h : DataW.trod enc Try.prog w base spare held m t cs = some y) :
    ∃ f : Nat → BitVec 64, ∀ i, i < n → cs[i]? = some (U (f i)) := by
  obtain ⟨xs, k, _, _, _, hl, hx⟩ := DataW.trod_array ht h
  have c1 : Try.prog.cellsOf 22 = 1 := by kernel_rfl
  rw [c1] at hx
  have each : ∀ i, i < n → ∃ b : BitVec 64, cs[i]? = some (U b) := by
    intro i hi
    have e := hx i hi
    rw [List.getElem?_eq_getElem (show i < xs.length by omega), Nat.mul_one] at e
    obtain ⟨z, hz, _, hw⟩ := DataW.trod_int Try.underlying22 e
    obtain ⟨b, rfl⟩ := u64_open hw
    exact ⟨b, take_one hz⟩
  obtain ⟨f, hf⟩ := Go.Deep.choose_lt each
  exact ⟨f, hf⟩
theorem open_state {W : World} {b0 : Nat} {v : Value} {d : DataW H} {p : List MemPlace} (hval : Value.okWide Try.prog W .any b0 26 v) (h : DataW.Trod enc Try.prog w base spare held 26 v d p) : ∃ S, v = .agg (stA S) := by
  obtain ⟨cs, rfl, hz⟩ := okWide_struct Try.underlying26 hval
  have c65 : Try.prog.cellsOf 26 = 65 := by kernel_rfl
  rw [c65] at hz
  obtain ⟨fuel, hf⟩ := h
  obtain ⟨xs, n, _, _, _, hl, hfs⟩ := DataW.trod_struct Try.underlying26 hf
  have get : ∀ (k : Nat) (f : Field), k < 6 → DataW.trod enc Try.prog w base spare held n f.type (((Value.agg cs).cells.toList.drop f.offset).take (Try.prog.cellsOf f.type)) = xs[k]? → ∃ m y, DataW.trod enc Try.prog w base spare held m f.type ((cs.toList.drop f.offset).take (Try.prog.cellsOf f.type)) = some y := by
    intro k f hk e
    rw [List.getElem?_eq_getElem (show k < xs.length by rw [hl]; exact hk)] at e
    exact ⟨n, _, e⟩
  have a32 : Try.prog.cellsOf 23 = 32 := by kernel_rfl
  have a29 : Try.prog.cellsOf 24 = 29 := by kernel_rfl
  have cU : Try.prog.cellsOf 22 = 1 := by kernel_rfl
  have cI : Try.prog.cellsOf 3 = 1 := by kernel_rfl
  have cB : Try.prog.cellsOf 4 = 1 := by kernel_rfl
  obtain ⟨m0, y0, g0⟩ := get 0 _ (by omega) (hfs 0 _ rfl)
  obtain ⟨pc, e1, w1⟩ := field_int (o := 32) Try.underlying22 cU (get 1 _ (by omega) (hfs 1 _ rfl))
  obtain ⟨lev, e2, _⟩ := field_int (o := 33) Try.underlying3 cI (get 2 _ (by omega) (hfs 2 _ rfl))
  obtain ⟨vb, e3⟩ := field_bool (o := 34) Try.underlying4 cB (get 3 _ (by omega) (hfs 3 _ rfl))
  obtain ⟨m4, y4, g4⟩ := get 4 _ (by omega) (hfs 4 _ rfl)
  obtain ⟨dn, e5, w5⟩ := field_int (o := 64) Try.underlying22 cU (get 5 _ (by omega) (hfs 5 _ rfl))
  obtain ⟨fx, hx⟩ := arr_u64 Try.underlying23 g0
  obtain ⟨fc, hc⟩ := arr_u64 Try.underlying24 g4
  obtain ⟨bpc, rfl⟩ := u64_open w1
  obtain ⟨bdn, rfl⟩ := u64_open w5
  refine ⟨{ x := fx, pc := bpc, lev := lev, v := vb, c := fc, done := bdn }, ?_⟩
  congr 1
  refine stA_ext hz (fun i hi => ?_) ?_ ?_ ?_ (fun i hi => ?_) ?_
  · have this : ((cs.toList.drop 0).take (Try.prog.cellsOf 23))[i]? = some (U (fx i)) := hx i hi
    rw [a32, List.getElem?_take, if_pos hi, List.drop_zero] at this
    simpa using this
  · simpa using e1
  · simpa using e2
  · simpa using e3
  · have this : ((cs.toList.drop 35).take (Try.prog.cellsOf 24))[i]? = some (U (fc i)) := hc i hi
    rw [a29, List.getElem?_take, if_pos hi, List.getElem?_drop] at this
    simpa using this
  · simpa using e5
end
end Go.Proofs.Ytalcldghpmeeaaa
