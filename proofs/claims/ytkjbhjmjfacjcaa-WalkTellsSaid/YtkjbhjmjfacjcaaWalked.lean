/- walk.Walk of whatever memory: what it tells; of none; walk.Lay; no condition but the arguments' own. -/
import Derived.Test.YtkjbhjmjfacjcaaThrough
namespace Go.Proofs.Ytkjbhjmjfacjcaa
open Go.RowKit Go.BigFrame
set_option linter.unusedSimpArgs false
set_option linter.unusedVariables false
set_option maxRecDepth 100000

theorem walk_box (w : World) (m : Option Addr) (root : Int) (at_ v : BitVec 64) (c : Int) (h : Through (w.alloc (.cells #[.pointer m] 26)) w.heap.size root at_ v c) :
    Calls Try.prog 16 #[.pointer m, .int .i64 root, U at_] w fun e w' => e = .returned (.tuple #[U v, .int .i64 c]) ∧ Below w.heap.size w w' := by
  have hmf : ∀ (fn : Fn) (first cap : Array Value) (w : World), (Instr.makeFunc fn first cap).run Try.prog w = .ok (.func fn first cap) w := fun _ _ _ _ => rfl
  have hb0 : Below w.heap.size w (w.alloc (.cells #[.pointer m] 26)) := (Below.refl _ _).alloc (Nat.le_refl _) _
  unfold Through at h
  generalize hW : w.alloc (.cells #[.pointer m] 26) = W at *
  have H := Lib.hid h
  have HW := Lib.hid hW
  have HB0 := Lib.hid hb0
  clear h hb0
  go_enter Try.func16, Try.ntmps16
  go_wp2_with fail
  (with_reducible refine H.out.mono ?_)
  rintro e w1 ⟨rfl, hb⟩
  go_wp2
  go_ret2
  exact ⟨rfl, HB0.out.trans (hb.mono HB0.out.size)⟩
theorem reads_in {W : World} {p g b : Nat} {f : Nat → UInt8} (x k : Nat) (hM : IsMem W p g 88 f) (hc : W.cell? ⟨b, 0, none⟩ = some (.pointer (some ⟨p, 0, none⟩))) (hb : b < W.heap.size) (hx : x < 128) (hk : k < 16) :
    Reads W 48 b (x : Int) (k : Int) (readF f (x * 256 + k * 8) 8) 0 :=
  fun w' h => read_in b x k w' (hM.below h) hx hk (by rw [h.cell hb]; exact hc)
theorem reads_nil {W : World} {b : Nat} (x k : Nat) (hc : W.cell? ⟨b, 0, none⟩ = some (.pointer none)) (hb : b < W.heap.size) (hx : x < 128) (hk : k < 16) :
    Reads W 48 b (x : Int) (k : Int) 0#64 0 :=
  fun w' h => read_nil b x k w' hx hk (by rw [h.cell hb]; exact hc)
theorem reads_out {W : World} {b : Nat} {m : Value} (x k : Int) (hc : W.cell? ⟨b, 0, none⟩ = some m) (hb : b < W.heap.size) (hx : x < 0 ∨ 128 ≤ x) :
    Reads W 48 b x k 0#64 2 :=
  fun w' h => read_out m b x k w' hx (by rw [h.cell hb]; exact hc)
def walkV (f : Nat → UInt8) (root : Int) (at_ : BitVec 64) : BitVec 64 × Int :=
  if 65536 ≤ at_.toNat then (0#64, 1) else if root < 0 ∨ 128 ≤ root then (0#64, 2) else
  let n0 := readF f (root.toNat * 256 + (bitsB at_ 12 4).toNat * 8) 8
  if isB n0 = false then (0#64, 1) else if leafB n0 = true then (if bitsB n0 8 4 = 0#64 then (setB n0 8 4 (bitsB at_ 8 4), 0) else (0#64, 1)) else
  if 128 ≤ frameB n0 then (0#64, 2) else
  let n1 := readF f (frameB n0 * 256 + (bitsB at_ 8 4).toNat * 8) 8
  if leafB n1 = true then (n1, 0) else (0#64, 1)
theorem leaf_is {e : BitVec 64} (h : leafB e = true) : isB e = true := by unfold leafB at h; simp at h; exact h.1
theorem walk_all {p g : Nat} {f : Nat → UInt8} (root : Int) (at_ : BitVec 64) (w : World) (hM : IsMem w p g 88 f) :
    Calls Try.prog 16 #[.pointer (some ⟨p, 0, none⟩), .int .i64 root, U at_] w fun e w' => e = .returned (.tuple #[U (walkV f root at_).1, .int .i64 (walkV f root at_).2]) ∧ Below w.heap.size w w' := by
  refine walk_box w _ root at_ _ _ ?_
  have hb0 : Below w.heap.size w (w.alloc (.cells #[.pointer (some ⟨p, 0, none⟩)] 26)) := (Below.refl _ _).alloc (Nat.le_refl _) _
  have hM' := hM.below hb0
  have hc : (w.alloc (.cells #[.pointer (some ⟨p, 0, none⟩)] 26)).cell? ⟨w.heap.size, 0, none⟩ = some (.pointer (some ⟨p, 0, none⟩)) := by rw [World.cell?_alloc_at _ _ _ _ rfl]; rfl
  have hs : w.heap.size < (w.alloc (.cells #[.pointer (some ⟨p, 0, none⟩)] 26)).heap.size := by simp
  generalize w.alloc (.cells #[.pointer (some ⟨p, 0, none⟩)] 26) = W at *
  generalize w.heap.size = b at *
  unfold walkV
  have k0 := bits_lt at_ 12 4 (by omega)
  have k1 := bits_lt at_ 8 4 (by omega)
  by_cases h1 : 65536 ≤ at_.toNat
  · rw [if_pos h1]; exact thr_far W b root at_ h1
  rw [if_neg h1]
  by_cases h2 : root < 0 ∨ 128 ≤ root
  · rw [if_pos h2]; exact thr_code W b root at_ _ (by omega) 2 (reads_out root _ hc hs h2) (by omega)
  rw [if_neg h2]
  obtain ⟨x, rfl⟩ : ∃ x : Nat, root = (x : Int) := ⟨root.toNat, by omega⟩
  have r0 := reads_in x (bitsB at_ 12 4).toNat hM' hc hs (by omega) (by omega)
  simp only [Int.toNat_natCast]
  generalize readF f (x * 256 + (bitsB at_ 12 4).toNat * 8) 8 = n0 at *
  by_cases h3 : isB n0 = false
  · rw [if_pos h3]; exact thr_none W b _ at_ n0 (by omega) r0 h3
  rw [if_neg h3]
  have h3' : isB n0 = true := by simpa using h3
  by_cases h4 : leafB n0 = true
  · rw [if_pos h4]
    by_cases h5 : bitsB n0 8 4 = 0#64
    · rw [if_pos h5]; exact thr_great W b _ at_ n0 (by omega) r0 h3' h4 h5
    · rw [if_neg h5]; exact thr_great_no W b _ at_ n0 (by omega) r0 h3' h4 h5
  rw [if_neg h4]
  have h4' : leafB n0 = false := by simpa using h4
  by_cases h6 : 128 ≤ frameB n0
  · rw [if_pos h6]; exact thr_code2 W b _ at_ n0 (by omega) 0#64 2 r0 h3' h4' (reads_out _ _ hc hs (by omega)) (by omega)
  rw [if_neg h6]
  have r1 := reads_in (frameB n0) (bitsB at_ 8 4).toNat hM' hc hs (by omega) (by omega)
  generalize readF f (frameB n0 * 256 + (bitsB at_ 8 4).toNat * 8) 8 = n1 at *
  by_cases h7 : leafB n1 = true
  · rw [if_pos h7]; exact thr_page W b _ at_ n0 (by omega) n1 r0 h3' h4' r1 (leaf_is h7) h7
  rw [if_neg h7]
  by_cases h8 : isB n1 = true
  · exact thr_ptr2 W b _ at_ n0 (by omega) n1 r0 h3' h4' r1 h8 (by simpa using h7)
  · exact thr_none2 W b _ at_ n0 (by omega) n1 r0 h3' h4' r1 (by simpa using h8)
def noneC (root : Int) (at_ : BitVec 64) : Int := if at_.toNat < 65536 ∧ (root < 0 ∨ 128 ≤ root) then 2 else 1
theorem walk_zero (root : Int) (at_ : BitVec 64) : walkV (fun _ => 0) root at_ = (0#64, noneC root at_) := by
  unfold walkV noneC
  by_cases h1 : 65536 ≤ at_.toNat
  · rw [if_pos h1, if_neg (by omega)]
  rw [if_neg h1]
  by_cases h2 : root < 0 ∨ 128 ≤ root
  · rw [if_pos h2, if_pos ⟨by omega, h2⟩]
  rw [if_neg h2, if_neg (show ¬ (at_.toNat < 65536 ∧ (root < 0 ∨ 128 ≤ root)) by omega)]
  simp only [readF_zero]
  rw [if_pos (show isB 0#64 = false by decide)]
theorem walk_nil (root : Int) (at_ : BitVec 64) (w : World) :
    Calls Try.prog 16 #[.pointer none, .int .i64 root, U at_] w fun e w' => e = .returned (.tuple #[U 0#64, .int .i64 (noneC root at_)]) ∧ Below w.heap.size w w' := by
  refine walk_box w _ root at_ _ _ ?_
  have hc : (w.alloc (.cells #[.pointer none] 26)).cell? ⟨w.heap.size, 0, none⟩ = some (.pointer none) := by rw [World.cell?_alloc_at _ _ _ _ rfl]; rfl
  have hs : w.heap.size < (w.alloc (.cells #[.pointer none] 26)).heap.size := by simp
  generalize w.alloc (.cells #[.pointer none] 26) = W at *
  generalize w.heap.size = b at *
  unfold noneC
  have k0 := bits_lt at_ 12 4 (by omega)
  by_cases h1 : 65536 ≤ at_.toNat
  · rw [if_neg (by omega)]; exact thr_far W b root at_ h1
  by_cases h2 : root < 0 ∨ 128 ≤ root
  · rw [if_pos ⟨by omega, h2⟩]; exact thr_code W b root at_ _ (by omega) 2 (reads_out root _ hc hs h2) (by omega)
  rw [if_neg (show ¬ (at_.toNat < 65536 ∧ (root < 0 ∨ 128 ≤ root)) by omega)]
  obtain ⟨x, rfl⟩ : ∃ x : Nat, root = (x : Int) := ⟨root.toNat, by omega⟩
  exact thr_none W b _ at_ 0#64 (by omega) (reads_nil x (bitsB at_ 12 4).toNat hc hs (by omega) (by omega)) (by decide)
end Go.Proofs.Ytkjbhjmjfacjcaa
