/- The memory's contracts at every input, and the contract of the memory laws' own 'known'. -/
import Derived.Test.YtkjbhjmjfacjcaaMemD
namespace Go.Proofs.Ytkjbhjmjfacjcaa
open Go.RowKit Go.BigFrame
set_option linter.unusedSimpArgs false
set_option linter.unusedVariables false
set_option maxRecDepth 100000

def rdF (f : Nat → UInt8) (a : BitVec 64) (n : Int) : BitVec 64 := if codeOf a n = 0 then readF f a.toNat n else 0#64
def wrF (f : Nat → UInt8) (a : BitVec 64) (n : Int) (v : BitVec 64) : Nat → UInt8 := if codeOf a n = 0 then putF f a.toNat (bytesL v n.toNat) else f
def layF (f : Nat → UInt8) (a : BitVec 64) (s : ByteArray) : Nat → UInt8 := if layFits a s = true then putF f a.toNat s.data.toList else f
def frF (f : Nat → UInt8) (k : Int) : ByteArray := if 0 ≤ k ∧ k < 128 then strAt f (k.toNat * 256) 256 else ⟨#[]⟩
theorem Below.of_drew {w : World} (k : Nat) : Below w.heap.size w (w.drewN k) := ⟨rfl, rfl, rfl, Nat.le_refl _, fun _ _ => rfl⟩

theorem read_all {p g : Nat} {f : Nat → UInt8} (a : BitVec 64) (n : Int) (w : World) (hM : IsMem w p g 88 f) :
    Calls Try.prog 35 #[.pointer (some ⟨p, 0, none⟩), U a, .int .i64 n] w fun e w' => e = .returned (.tuple #[U (rdF f a n), .int .i64 (codeOf a n)]) ∧ Below w.heap.size w w' := by
  by_cases hc : codeOf a n = 0
  · obtain ⟨hn, _⟩ := codeOf_zero hc
    obtain ⟨m, rfl⟩ : ∃ m : Nat, n = (m : Int) := ⟨n.toNat, by omega⟩
    unfold rdF
    rw [if_pos hc, hc]
    exact read_yes a m w hM hc
  · unfold rdF
    rw [if_neg hc]
    exact (read_no (g := g) (f := f) a n w hc).mono fun e w' ⟨h1, h2⟩ => ⟨h1, by rw [h2]; exact Below.refl _ _⟩
theorem write_all {p g : Nat} {f : Nat → UInt8} (a : BitVec 64) (n : Int) (v : BitVec 64) (w : World) (hM : IsMem w p g 88 f) :
    Calls Try.prog 23 #[.pointer (some ⟨p, 0, none⟩), U a, .int .i64 n, U v] w fun e w' => e = .returned (.int .i64 (codeOf a n)) ∧ Upd w w' g ∧ IsMem w' p g 88 (wrF f a n v) := by
  by_cases hc : codeOf a n = 0
  · obtain ⟨hn, _⟩ := codeOf_zero hc
    obtain ⟨m, rfl⟩ : ∃ m : Nat, n = (m : Int) := ⟨n.toNat, by omega⟩
    unfold wrF
    rw [if_pos hc, hc, Int.toNat_natCast]
    exact write_yes a m v w hM hc
  · unfold wrF
    rw [if_neg hc]
    exact (write_no a n v w hc).mono fun e w' ⟨h1, h2⟩ => ⟨h1, by rw [← h2]; exact ⟨Upd.of_below (Below.refl _ _) _, hM⟩⟩
theorem frame_all {p g : Nat} {f : Nat → UInt8} (k : Int) (w : World) (hM : IsMem w p g 88 f) :
    Calls Try.prog 43 #[.pointer (some ⟨p, 0, none⟩), .int .i64 k] w fun e w' => e = .returned (.string (frF f k)) ∧ Below w.heap.size w w' := by
  unfold frF
  by_cases hk : 0 ≤ k ∧ k < 128
  · rw [if_pos hk]
    obtain ⟨m, rfl⟩ : ∃ m : Nat, k = (m : Int) := ⟨k.toNat, by omega⟩
    exact (frame_yes m w hM (by omega)).mono fun e w' ⟨h1, n, h2⟩ => ⟨h1, by rw [h2]; exact Below.of_drew n⟩
  · rw [if_neg hk]
    exact (frame_no k w (by omega)).mono fun e w' ⟨h1, h2⟩ => ⟨h1, by rw [h2]; exact Below.refl _ _⟩
theorem rframe_all {p g : Nat} {f : Nat → UInt8} (k : Int) (w : World) (hM : IsMem w p g 85 f) :
    Calls Try.prog 44 #[.pointer (some ⟨p, 0, none⟩), .int .i64 k] w fun e w' => e = .returned (.string (frF f k)) ∧ w = w' := by
  unfold frF
  by_cases hk : 0 ≤ k ∧ k < 128
  · rw [if_pos hk]
    obtain ⟨m, rfl⟩ : ∃ m : Nat, k = (m : Int) := ⟨k.toNat, by omega⟩
    exact rframe_yes m w hM (by omega)
  · rw [if_neg hk]
    exact rframe_no k w hM (by omega)
/-- What New leaves. -/
def NewPost (T : TypeId) (w : World) (e : Ending) (w' : World) : Prop :=
  ∃ p g, e = .returned (.pointer (some ⟨p, 0, none⟩)) ∧ w.heap.size ≤ p ∧ w.heap.size ≤ g ∧ p < w'.heap.size ∧ g < w'.heap.size ∧ IsMem w' p g T (fun _ => 0) ∧ Below w.heap.size w w'
theorem new_post {w w' : World} {T : TypeId} {e : Ending} (h1 : e = .returned (.pointer (some ⟨w.heap.size + 1, 0, none⟩)))
    (h2 : w' = (w.alloc (.cells (bytesV (memL fun _ => 0)) 5)).alloc (.cells #[.slice (some ⟨w.heap.size, 0, none⟩) 32768 32768] T)) : NewPost T w e w' := by
  have hp : w'.heap[w.heap.size + 1]? = some (.cells #[.slice (some ⟨w.heap.size, 0, none⟩) 32768 (32768 + 0)] T (0, 0)) := by
    rw [h2, show w.heap.size + 1 = (w.alloc (.cells (bytesV (memL fun _ => 0)) 5)).heap.size by simp]; exact (MapKept.heap_alloc _ _).1
  have hg : w'.heap[w.heap.size]? = some (.cells (bytesV ((memL fun _ => 0) ++ [])) 5 (0, 0)) := by
    rw [List.append_nil, h2, Below.heap_alloc _ _ _ (by simp)]; exact (MapKept.heap_alloc _ _).1
  exact ⟨w.heap.size + 1, w.heap.size, h1, by omega, by omega, blk_lt hp, blk_lt hg, ⟨[], hp, hg⟩, by rw [h2]; exact ((Below.refl _ _).alloc (Nat.le_refl _) _).alloc (by simp) _⟩
theorem new_all (w : World) : Calls Try.prog 20 #[] w (NewPost 88 w) := (new_any w).mono fun _ _ ⟨h1, h2⟩ => new_post h1 h2
theorem rnew_all (w : World) : Calls Try.prog 37 #[] w (NewPost 85 w) := (rnew_any w).mono fun _ _ ⟨h1, h2⟩ => new_post h1 h2
theorem same_false {f h : Nat → UInt8} (i : Nat) (hi : i < 32768) (hne : f i ≠ h i) : sameF f h = false := by
  unfold sameF
  refine decide_eq_false fun e => hne ?_
  have h1 := memL_get f i hi
  rw [e, memL_get h i hi] at h1
  exact (Option.some.inj h1).symm
theorem same_true (f : Nat → UInt8) : sameF f f = true := decide_eq_true rfl

/-- Behind what was made so far. -/
theorem HBstep {w0 w w' : World} (h : Below w0.heap.size w0 w) (k : Below w.heap.size w w') : Below w0.heap.size w0 w' := h.trans (k.mono h.size)

theorem readF_zero (a : Nat) (n : Int) : readF (fun _ => 0) a n = 0#64 := by
  unfold readF
  rw [join_congr (g := fun _ => 0#64) 8 (fun i hi => by split <;> rfl), join_zero]
theorem rdF_zero (a : BitVec 64) (n : Int) : rdF (fun _ => 0) a n = 0#64 := by
  unfold rdF; split
  · exact readF_zero _ _
  · rfl
theorem bytesL_zero (n : Nat) : bytesL 0#64 n = List.replicate (min n 8) 0 := by
  unfold bytesL
  have e : (List.range 8).map (byteU 0#64) = List.replicate 8 0 := by decide +kernel
  rw [e, List.take_replicate]
theorem wrF_zero (a : BitVec 64) (n : Int) : wrF (fun _ => 0) a n 0#64 = fun _ => 0 := by
  unfold wrF; split
  · funext i
    unfold putF
    split
    · rw [bytesL_zero, List.getD_eq_getElem?_getD, List.getElem?_replicate]; split <;> rfl
    · rfl
  · rfl
end Go.Proofs.Ytkjbhjmjfacjcaa
