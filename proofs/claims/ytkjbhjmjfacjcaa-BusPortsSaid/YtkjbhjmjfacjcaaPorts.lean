/- One console of a bus: what is read and put out there; no condition but the state. -/
import Derived.Test.YtkjbhjmjfacjcaaKnown7
namespace Go.Proofs.Ytkjbhjmjfacjcaa
open Go.RowKit Go.BigFrame
set_option linter.unusedSimpArgs false
set_option linter.unusedVariables false
set_option maxRecDepth 100000

def PB (w : World) (B b p : Nat) (li lo : List UInt8) : Prop := ∃ S, Bus w B b S ∧ S.ls (2 * p) = li ∧ S.ls (2 * p + 1) = lo ∧ ∀ j, j < 4 → j ≠ p → S.ls (2 * j + 1) = []
theorem PB.below {w w' : World} {B b p : Nat} {li lo : List UInt8} (h : PB w B b p li lo) (u : Below w.heap.size w w') : PB w' B b p li lo := by
  obtain ⟨S, h, r⟩ := h; exact ⟨S, h.below u, r⟩
def atP (p : Nat) : BitVec 64 := BitVec.ofNat 64 (61696 + 256 * p)
theorem atP_nat (p : Nat) (hp : p < 4) : (atP p).toNat = 61696 + 256 * p := ofNat_toNat _ (by omega)
theorem con_at (p : Nat) (hp : p < 4) : conOf (atP p) 1 = some p := by
  unfold conOf
  rw [atP_nat p hp, if_pos ⟨rfl, by omega, by omega, by omega⟩]
  congr 1; omega
theorem pb_read0 (w : World) (B b p : Nat) (lo : List UInt8) (hp : p < 4) (h : PB w B b p [] lo) :
    Calls Try.prog 27 #[.pointer (some ⟨b, 0, none⟩), U (atP p), .int .i64 1] w fun e w' => e = .returned (.tuple #[.int .u64 0, .bool true]) ∧ w = w' := by
  obtain ⟨S, h, h1, _⟩ := h
  exact bread_con0 b B p S (atP p) w h (con_at p hp) h1
theorem pb_read (w : World) (B b p : Nat) (x : UInt8) (l lo : List UInt8) (hp : p < 4) (h : PB w B b p (x :: l) lo) :
    Calls Try.prog 27 #[.pointer (some ⟨b, 0, none⟩), U (atP p), .int .i64 1] w fun e w' => e = .returned (.tuple #[.int .u64 (x.toNat : Int), .bool true]) ∧ Upd w w' b ∧ PB w' B b p l lo := by
  obtain ⟨S, h, h1, h2, h3⟩ := h
  refine (bread_con b B p S (atP p) x l w h (con_at p hp) h1).mono fun e w' ⟨e1, e2, e3⟩ => ⟨e1, e2, _, e3, updN_same _ _ _, ?_, fun j hj hjp => ?_⟩
  · exact (updN_other _ _ _ _ (by omega)).trans h2
  · exact (updN_other _ _ _ _ (by omega)).trans (h3 j hj hjp)
theorem pb_write (w : World) (B b p : Nat) (x : BitVec 64) (li lo : List UInt8) (hp : p < 4) (hB : B ≤ w.heap.size) (hl : lo.length ≤ 64) (h : PB w B b p li lo) :
    Calls Try.prog 28 #[.pointer (some ⟨b, 0, none⟩), U (atP p), .int .i64 1, U x] w fun e w' => e = .returned (.bool true) ∧ Below B w w' ∧ PB w' B b p li (last64 (lo ++ [UInt8.ofNat x.toNat])) := by
  obtain ⟨S, h, h1, h2, h3⟩ := h
  refine (bwrite_con b B p S (atP p) x w h (con_at p hp) hB (by rw [h2]; exact hl)).mono fun e w' ⟨e1, e2, _, e3⟩ => ⟨e1, e2, _, e3, ?_, ?_, fun j hj hjp => ?_⟩
  · exact (updN_other _ _ _ _ (by omega)).trans h1
  · rw [← h2]; exact updN_same _ _ _
  · exact (updN_other _ _ _ _ (by omega)).trans (h3 j hj hjp)
theorem pb_output (w : World) (B b p k : Nat) (li lo : List UInt8) (hk : k < 4) (h : PB w B b p li lo) :
    Calls Try.prog 29 #[.pointer (some ⟨b, 0, none⟩), .int .i64 (k : Int)] w fun e w' => e = .returned (.string (if k = p then ⟨lo.toArray⟩ else ⟨#[]⟩)) ∧ w = w' := by
  obtain ⟨S, h, h1, h2, h3⟩ := h
  refine (boutput b B k S w h hk).mono fun e w' ⟨e1, e2⟩ => ⟨e1.trans ?_, e2⟩
  by_cases c : k = p
  · rw [if_pos c, c, h2]
  · rw [if_neg c, h3 k hk c]
theorem pb_type (w : World) (B b p : Nat) (f : Nat → UInt8) (s : ByteArray) (hp : p < 4) (hB : B ≤ w.heap.size) (hs : s.size ≤ 1000) (h : Bus w B b (busV0 f)) :
    Calls Try.prog 26 #[.pointer (some ⟨b, 0, none⟩), .int .i64 (p : Int), .string s] w fun e w' => e = .returned (.tuple #[]) ∧ Below B w w' ∧ PB w' B b p (s.data.toList.take 64) [] := by
  refine (btype_nil b B p _ s w h hp rfl rfl hB hs).mono fun e w' ⟨e1, e2, _, e3⟩ => ⟨e1, e2, _, e3, ?_, ?_, fun j hj hjp => ?_⟩
  · refine (updN_same _ _ _).trans ?_
    have hz : s.data.toList.length = s.size := rfl
    apply List.ext_getElem?
    intro i
    have e1 : (s.extract 0 (min s.size 64)).data.toList = s.data.toList.take (min s.size 64) := by simp
    rw [e1, List.getElem?_take, List.getElem?_take]
    by_cases c : i < s.size
    · by_cases d : i < 64
      · rw [if_pos (by omega), if_pos d]
      · rw [if_neg (by omega), if_neg d]
    · rw [List.getElem?_eq_none (by omega)]; simp
  · exact updN_other _ _ _ _ (by omega)
  · exact updN_other _ _ _ _ (by omega)
theorem pb_bad (w : World) (B b p : Nat) (a : BitVec 64) (n : Int) (li lo : List UInt8) (h : PB w B b p li lo) (hc : conOf a n = none) (h8 : n ≠ 8) (ho : (codeOf a n == 0) = false) : ∃ v : BitVec 64,
    Calls Try.prog 27 #[.pointer (some ⟨b, 0, none⟩), U a, .int .i64 n] w fun e w' => e = .returned (.tuple #[U v, .bool false]) ∧ Below w.heap.size w w' := by
  obtain ⟨S, h, _⟩ := h
  have key := bread_mem b B S a n w h hc (by omega) (by omega)
  rw [ho] at key
  exact ⟨_, key⟩
theorem pb_badw (w : World) (B b p : Nat) (a x : BitVec 64) (n : Int) (li lo : List UInt8) (hB : B ≤ w.heap.size) (h : PB w B b p li lo) (hc : conOf a n = none) (h8 : n ≠ 8) (ho : (codeOf a n == 0) = false) :
    Calls Try.prog 28 #[.pointer (some ⟨b, 0, none⟩), U a, .int .i64 n, U x] w fun e w' => e = .returned (.bool false) ∧ Below B w w' := by
  obtain ⟨S, h, _⟩ := h
  have key := bwrite_mem b B S a n x w h hc (by omega)
  rw [ho] at key
  exact key.mono fun e w' ⟨h1, h2, _⟩ => ⟨h1, h2 hB⟩
/-- The last 64 of the first m. -/
def tail64 (l : List UInt8) (m : Nat) : List UInt8 := (l.take m).drop (m - 64)
theorem tail64_zero (l : List UInt8) : tail64 l 0 = [] := by unfold tail64; simp
theorem tail64_len (l : List UInt8) (m : Nat) (h : m ≤ l.length) : (tail64 l m).length ≤ 64 := by unfold tail64; rw [List.length_drop, List.length_take]; omega
theorem tail64_step (l : List UInt8) (m : Nat) (x : UInt8) (h : l[m]? = some x) : last64 (tail64 l m ++ [x]) = tail64 l (m + 1) := by
  have hm : m < l.length := (List.getElem?_eq_some_iff.1 h).1
  have e1 : l.take (m + 1) = l.take m ++ [x] := by rw [List.take_add_one, h]; rfl
  have hl : (l.take m).length = m := by rw [List.length_take]; omega
  unfold last64 tail64
  rw [e1, List.length_append, List.length_drop, hl, List.length_singleton]
  by_cases c : m < 64
  · rw [show m - 64 = 0 by omega, show m + 1 - 64 = 0 by omega, List.drop_zero, show m - 0 + 1 - 64 = 0 by omega]
  · have e2 : (l.take m).drop (m - 64) ++ [x] = (l.take m ++ [x]).drop (m - 64) := by rw [List.drop_append_of_le_length (by omega)]
    rw [e2, List.drop_drop]
    congr 1; omega
end Go.Proofs.Ytkjbhjmjfacjcaa
