/- Contracts of bytes.Clone at a memory's row, Copy, bytes.Equal, Same. -/
import Derived.Test.YtkjbhjmjfacjcaaMemB
namespace Go.Proofs.Ytkjbhjmjfacjcaa
open Go.RowKit Go.BigFrame
set_option linter.unusedSimpArgs false
set_option linter.unusedVariables false
set_option maxRecDepth 100000

theorem zero_cells (r : Nat) : Builtin.zeroCells #[Value.int .u8 0] r = bytesV (List.replicate r 0) := by
  apply Array.ext_getElem?
  intro i
  unfold Builtin.zeroCells bytesV
  by_cases h : i < r
  · simp [h, Nat.mod_one]
  · rw [Array.getElem?_eq_none (by rw [Array.size_map, Array.size_range]; simp; omega), Array.getElem?_eq_none (by rw [List.size_toArray, List.length_map, List.length_replicate]; omega)]
theorem bytesV_append (a b : List UInt8) : bytesV a ++ bytesV b = bytesV (a ++ b) := by
  unfold bytesV; rw [List.map_append, List.append_toArray]
theorem need_le {w : World} {need old : Nat} {e : TypeId} (h : need < 2 ^ 63) : need ≤ grownCap w need old e := by
  unfold grownCap; simp [Question.cut]
/-- What Clone leaves: a new row with the same bytes. -/
def ClonePost (w : World) (f : Nat → UInt8) (e : Ending) (w' : World) : Prop :=
  ∃ k r, e = .returned (.slice (some ⟨k, 0, none⟩) 32768 (32768 + r)) ∧ w.heap.size ≤ k ∧ w'.heap[k]? = some (.cells (bytesV (memL f ++ List.replicate r 0)) 5 (0, 0)) ∧ Below w.heap.size w w'
theorem append_mem (W : World) (b : Addr) (g cap : Nat) (f : Nat → UInt8) (rest : List UInt8) (hg : W.heap[g]? = some (.cells (bytesV (memL f ++ rest)) 5 (0, 0))) :
    ∃ r, (Builtin.append_ #[40, 40] 40 #[.slice (some b) 0 0, .slice (some ⟨g, 0, none⟩) 32768 cap]).run Try.prog W =
      .ok (.slice (some ⟨W.heap.size, 0, none⟩) 32768 (32768 + r)) (W.drew.alloc (.cells (bytesV (memL f ++ List.replicate r 0)) 5)) := by
  obtain ⟨i0, hi, hz0, hz1, hz2⟩ := info_parts infoB
  have h := run_append_grow (P := Try.prog) W 40 40 5 i0 (.int .u8 0) Try.underlying40 hi hz0 b 0 0 [] (by rw [hz1]; rfl) (by intro j v hj; simp at hj)
    ⟨g, 0, none⟩ 32768 cap ((memL f).map fun b => Value.int .u8 (b.toNat : Int)) (by rw [hz1, List.length_map, memL_length]) (by
      intro j v hj
      have hadd : (⟨g, 0, none⟩ : Addr).add j = ⟨g, j, none⟩ := by unfold Addr.add; split <;> simp_all
      rw [hadd]
      rw [List.getElem?_map, Option.map_eq_some_iff] at hj
      obtain ⟨b, hb, rfl⟩ := hj
      have hj2 : j < (memL f).length := (List.getElem?_eq_some_iff.1 hb).1
      simp only [World.cell?, hg]
      simp only [bytesV, List.getElem?_toArray]
      rw [List.getElem?_map, List.getElem?_append_left hj2, hb]; rfl) (by omega) (by omega) (by rw [hz2]; decide)
  have hle : 32768 ≤ grownCap W (0 + 32768) 0 5 := need_le (by omega)
  refine ⟨grownCap W (0 + 32768) 0 5 - 32768, ?_⟩
  rw [h]
  generalize hG : grownCap W (0 + 32768) 0 5 = G at hle
  have e1 : 32768 + (G - 32768) = G := by omega
  have e2 : (Value.int IntKind.u8 0).cells = #[Value.int .u8 0] := rfl
  have e3 : G - (0 + 32768) = G - 32768 := by omega
  rw [e1, e2, e3, zero_cells]
  have e4 : ([] : List Value).toArray ++ ((memL f).map fun b => Value.int .u8 (b.toNat : Int)).toArray ++ bytesV (List.replicate (G - 32768) 0) = bytesV (memL f ++ List.replicate (G - 32768) 0) := by
    rw [← bytesV_append]; simp [bytesV]
  rw [e4]
set_option maxRecDepth 100000 in
theorem clone_any {g cap : Nat} {f : Nat → UInt8} {rest : List UInt8} (w : World) (hg : w.heap[g]? = some (.cells (bytesV (memL f ++ rest)) 5 (0, 0))) :
    Calls Try.prog 57 #[.slice (some ⟨g, 0, none⟩) 32768 cap] w (ClonePost w f) := by
  have hgl := blk_lt hg
  obtain ⟨r, hap⟩ := append_mem (w.alloc (.cells #[] 5)) ⟨w.heap.size, 0, none⟩ g cap f rest (by rw [Below.heap_alloc _ _ _ hgl]; exact hg)
  have hnil := fun W => Lib.run_eql_slice_nil (P := Try.prog) W 40 5 (some ⟨g, 0, none⟩) 32768 cap 0 0 Try.underlying40
  go_enter Try.func57, Try.ntmps57
  have hgb : (w.alloc (.cells #[] 5)).heap.size = w.heap.size + 1 := by simp
  rw [hgb] at hap
  go_wp2_with (at_builtin; refine wpList_append_run rfl _ _ _ _ rfl _ _ rfl rfl _ _ hap ?_)
  go_ret
  refine ⟨w.heap.size + 1, r, rfl, by omega, ?_, ?_⟩
  · show ((w.alloc (.cells #[] 5)).alloc _).heap[w.heap.size + 1]? = _
    rw [← hgb]; exact (MapKept.heap_alloc _ _).1
  · exact ((Below.refl _ _).alloc (Nat.le_refl _) _).drew.alloc (by simp) _

theorem IsMem.mk' {w : World} {p g : Nat} {T : TypeId} {f : Nat → UInt8} {r : Nat} (hp : w.heap[p]? = some (.cells #[.slice (some ⟨g, 0, none⟩) 32768 (32768 + r)] T (0, 0)))
    (hg : w.heap[g]? = some (.cells (bytesV (memL f ++ List.replicate r 0)) 5 (0, 0))) : IsMem w p g T f :=
  ⟨List.replicate r 0, by rw [List.length_replicate]; exact hp, hg⟩
/-- What Copy leaves: a new memory that is alike. -/
def CopyPost (w : World) (f : Nat → UInt8) (e : Ending) (w' : World) : Prop :=
  ∃ p g, e = .returned (.pointer (some ⟨p, 0, none⟩)) ∧ w.heap.size ≤ p ∧ w.heap.size ≤ g ∧ IsMem w' p g 88 f ∧ Below w.heap.size w w'
set_option maxRecDepth 100000 in
theorem copy_any {p g : Nat} {f : Nat → UInt8} (w : World) (hM : IsMem w p g 88 f) :
    Calls Try.prog 61 #[.pointer (some ⟨p, 0, none⟩)] w (CopyPost w f) := by
  obtain ⟨rest, hp, hg⟩ := hM
  have hcell : w.cell? ⟨p, 0, none⟩ = some (.slice (some ⟨g, 0, none⟩) 32768 (32768 + rest.length)) := by simp [World.cell?, hp]
  have hcl := clone_any (cap := 32768 + rest.length) w hg
  have HCL := Lib.hid hcl
  clear hcl hp hg
  go_enter Try.func61, Try.ntmps61
  go_wp2_with (go_at_call 57; refine HCL.out.mono ?_; rintro e w' ⟨k, r, rfl, hk, hrow, hb⟩)
  go_ret
  have hs := hb.size
  exact ⟨w'.heap.size, k, rfl, hs, hk, IsMem.mk' (r := r) (MapKept.heap_alloc _ _).1 (by rw [Below.heap_alloc _ _ _ (blk_lt hrow)]; exact hrow), hb.alloc (by omega) _⟩

theorem strAt_inj (f h : Nat → UInt8) : strAt f 0 32768 = strAt h 0 32768 ↔ memL f = memL h := by
  have e : ∀ f : Nat → UInt8, (List.range 32768).map (fun i => f (0 + i)) = memL f := fun f => by
    unfold memL; exact List.map_congr_left fun i _ => by rw [Nat.zero_add]
  unfold strAt
  rw [e, e]
  constructor
  · intro h2
    have := congrArg (fun b : ByteArray => b.data.toList) h2
    simpa using this
  · intro h2; rw [h2]
def sameF (f h : Nat → UInt8) : Bool := decide (memL f = memL h)
theorem str_eq (a b : ByteArray) : (a.toList == b.toList) = decide (a = b) := by
  rw [ByteArray.toList_eq, ByteArray.toList_eq, Bool.eq_iff_iff, beq_iff_eq, decide_eq_true_iff]
  constructor
  · intro h; cases a; cases b; simp at h; simp [h]
  · intro h; rw [h]
end Go.Proofs.Ytkjbhjmjfacjcaa
