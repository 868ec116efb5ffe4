/- Bytes of strings as bit vectors; the contract of word.Get. -/
import Derived.WalkKit
import Derived.Deep.QuietTactic
import Derived.BigQuiet
import Derived.Outline
import Derived.Handy
import Derived.WalkLawsBesides
import Derived.WalkSpells
import Derived.Lib.Hide
import Derived.Test.YtkjbhjmjfacjcaaLaws
import Derived.Test.YtkjbhjmjfacjcaaWord
namespace Go.Proofs.Ytkjbhjmjfacjcaa
open Go.RowKit
set_option linter.unusedSimpArgs false
set_option linter.unusedVariables false
set_option maxRecDepth 100000

/-- byte k of what is read: at + k lies in the string. -/
def gbU (s : ByteArray) (at_ n : Int) (k : Nat) : UInt8 :=
  if (k : Int) < n ∧ 0 ≤ at_ + k ∧ at_ + k < s.size then s.data.toList.getD (at_ + k).toNat 0 else 0
def gb (s : ByteArray) (at_ n : Int) (k : Nat) : BitVec 64 := BitVec.ofNat 64 (gbU s at_ n k).toNat
def joinB (f : Nat → BitVec 64) : Nat → BitVec 64
  | 0 => 0
  | k + 1 => joinB f k ||| (f k <<< (8 * k))
def getB (s : ByteArray) (at_ n : Int) : BitVec 64 := joinB (gb s at_ n) 8

theorem gb_lt (s : ByteArray) (at_ n : Int) (k : Nat) : (gb s at_ n k).toNat < 256 := by
  unfold gb; rw [BitVec.toNat_ofNat]; have := (gbU s at_ n k).toNat_lt; omega

set_option maxRecDepth 100000 in
theorem idx8 (f : Nat → UInt8) (k : Nat) (hk : k < 8) (w : World) : (Instr.index 111 (.agg #[.int .u8 ((f 0).toNat : Int), .int .u8 ((f 1).toNat : Int), .int .u8 ((f 2).toNat : Int), .int .u8 ((f 3).toNat : Int), .int .u8 ((f 4).toNat : Int), .int .u8 ((f 5).toNat : Int), .int .u8 ((f 6).toNat : Int), .int .u8 ((f 7).toNat : Int)]) (.int .i64 (k : Int))).run Try.prog w = .ok (.int .u8 ((f k).toNat : Int)) w := by
  have i0 : ∀ (x0 x1 x2 x3 x4 x5 x6 x7 : Value) w, (Instr.index 111 (.agg #[x0, x1, x2, x3, x4, x5, x6, x7]) (.int .i64 0)).run Try.prog w = .ok x0 w := fun _ _ _ _ _ _ _ _ _ => by kernel_rfl
  have i1 : ∀ (x0 x1 x2 x3 x4 x5 x6 x7 : Value) w, (Instr.index 111 (.agg #[x0, x1, x2, x3, x4, x5, x6, x7]) (.int .i64 1)).run Try.prog w = .ok x1 w := fun _ _ _ _ _ _ _ _ _ => by kernel_rfl
  have i2 : ∀ (x0 x1 x2 x3 x4 x5 x6 x7 : Value) w, (Instr.index 111 (.agg #[x0, x1, x2, x3, x4, x5, x6, x7]) (.int .i64 2)).run Try.prog w = .ok x2 w := fun _ _ _ _ _ _ _ _ _ => by kernel_rfl
  have i3 : ∀ (x0 x1 x2 x3 x4 x5 x6 x7 : Value) w, (Instr.index 111 (.agg #[x0, x1, x2, x3, x4, x5, x6, x7]) (.int .i64 3)).run Try.prog w = .ok x3 w := fun _ _ _ _ _ _ _ _ _ => by kernel_rfl
  have i4 : ∀ (x0 x1 x2 x3 x4 x5 x6 x7 : Value) w, (Instr.index 111 (.agg #[x0, x1, x2, x3, x4, x5, x6, x7]) (.int .i64 4)).run Try.prog w = .ok x4 w := fun _ _ _ _ _ _ _ _ _ => by kernel_rfl
  have i5 : ∀ (x0 x1 x2 x3 x4 x5 x6 x7 : Value) w, (Instr.index 111 (.agg #[x0, x1, x2, x3, x4, x5, x6, x7]) (.int .i64 5)).run Try.prog w = .ok x5 w := fun _ _ _ _ _ _ _ _ _ => by kernel_rfl
  have i6 : ∀ (x0 x1 x2 x3 x4 x5 x6 x7 : Value) w, (Instr.index 111 (.agg #[x0, x1, x2, x3, x4, x5, x6, x7]) (.int .i64 6)).run Try.prog w = .ok x6 w := fun _ _ _ _ _ _ _ _ _ => by kernel_rfl
  have i7 : ∀ (x0 x1 x2 x3 x4 x5 x6 x7 : Value) w, (Instr.index 111 (.agg #[x0, x1, x2, x3, x4, x5, x6, x7]) (.int .i64 7)).run Try.prog w = .ok x7 w := fun _ _ _ _ _ _ _ _ _ => by kernel_rfl
  match k, hk with
  | 0, _ => exact i0 _ _ _ _ _ _ _ _ _
  | 1, _ => exact i1 _ _ _ _ _ _ _ _ _
  | 2, _ => exact i2 _ _ _ _ _ _ _ _ _
  | 3, _ => exact i3 _ _ _ _ _ _ _ _ _
  | 4, _ => exact i4 _ _ _ _ _ _ _ _ _
  | 5, _ => exact i5 _ _ _ _ _ _ _ _ _
  | 6, _ => exact i6 _ _ _ _ _ _ _ _ _
  | 7, _ => exact i7 _ _ _ _ _ _ _ _ _
theorem join_zero (k : Nat) : joinB (fun _ => 0#64) k = 0#64 := by
  induction k with
  | zero => rfl
  | succ k ih => simp [joinB, ih]
theorem join_congr {f g : Nat → BitVec 64} (k : Nat) (h : ∀ i, i < k → f i = g i) : joinB f k = joinB g k := by
  induction k with
  | zero => rfl
  | succ k ih => rw [joinB, joinB, ih (fun i hi => h i (by omega)), h k (by omega)]
theorem gb_none (s : ByteArray) (at_ n : Int) (h1 : ¬ (0 ≤ at_ ∧ at_ < s.size)) (h2 : ¬ (at_ < 0 ∧ -8 < at_)) : getB s at_ n = 0#64 := by
  unfold getB
  rw [join_congr (g := fun _ => 0#64) 8 (fun i hi => by unfold gb gbU; rw [if_neg (by omega)]; rfl), join_zero]
theorem get_none (s : ByteArray) (at_ n : Int) (w : World) (h1 : ¬ (0 ≤ at_ ∧ at_ < s.size)) (h2 : ¬ (at_ < 0 ∧ -8 < at_)) (hs : s.size ≤ 9223372036854775807) :
    Calls Try.prog 62 #[.string s, .int .i64 at_, .int .i64 n] w fun e w' => e = .returned (U (getB s at_ n)) ∧ Below w.heap.size w w' := by
  rw [gb_none s at_ n h1 h2]
  have ix : ∀ k : Nat, k < 8 → ∀ w, (Instr.index 111 (.agg #[.int .u8 0, .int .u8 0, .int .u8 0, .int .u8 0, .int .u8 0, .int .u8 0, .int .u8 0, .int .u8 0]) (.int .i64 (k : Int))).run Try.prog w = .ok (.int .u8 0) w :=
    fun k hk w => idx8 (fun _ => 0) k hk w
  have IX := Lib.hid ix
  clear ix
  by_cases h3 : at_ < 0
  · go_enter Try.func62, Try.ntmps62
    go_wp2
    go_loop [8, 44] (fun v i => ∃ k : Nat, k ≤ 8 ∧ i = .int .i64 k ∧ v = .int .u64 0) (fun _ i => 8 - (intOf i).toNat)
    case atStart => exact ⟨0, by omega, rfl, rfl⟩
    case round =>
      obtain ⟨k, hk, rfl, rfl⟩ := hrel
      by_cases hk8 : k < 8
      · have iy := fun w => IX.out k hk8 w
        go_wp2
        go_round
        case rel => exact ⟨k + 1, by omega, by go_num, rfl⟩
        case measure => simp [intOf]; omega
      · go_wp2
        go_ret
        exact ⟨rfl, (Below.refl _ _).alloc (Nat.le_refl _) _⟩
  · have h4 : (s.size : Int) ≤ at_ := by omega
    go_enter Try.func62, Try.ntmps62
    go_wp2
    go_loop [8, 44] (fun v i => ∃ k : Nat, k ≤ 8 ∧ i = .int .i64 k ∧ v = .int .u64 0) (fun _ i => 8 - (intOf i).toNat)
    case atStart => exact ⟨0, by omega, rfl, rfl⟩
    case round =>
      obtain ⟨k, hk, rfl, rfl⟩ := hrel
      by_cases hk8 : k < 8
      · have iy := fun w => IX.out k hk8 w
        go_wp2
        go_round
        case rel => exact ⟨k + 1, by omega, by go_num, rfl⟩
        case measure => simp [intOf]; omega
      · go_wp2
        go_ret
        exact ⟨rfl, (Below.refl _ _).alloc (Nat.le_refl _) _⟩
theorem list8 {α : Type} (l : List α) (f : Nat → α) (hl : l.length = 8) (h : ∀ k, k < 8 → l[k]? = some (f k)) : l = [f 0, f 1, f 2, f 3, f 4, f 5, f 6, f 7] := by
  apply List.ext_getElem?
  intro k
  by_cases hk : k < 8
  · rw [h k hk]
    match k, hk with
    | 0, _ => rfl
    | 1, _ => rfl
    | 2, _ => rfl
    | 3, _ => rfl
    | 4, _ => rfl
    | 5, _ => rfl
    | 6, _ => rfl
    | 7, _ => rfl
  · rw [List.getElem?_eq_none (by omega), List.getElem?_eq_none (by simp; omega)]
set_option maxRecDepth 100000 in
theorem row8_copy (w W : World) (src : ByteArray) (o d c : Nat) (f : Nat → UInt8) (T : TypeId) (h : o + min src.size d ≤ 8)
    (hf : ∀ k, k < 8 → f k = if o ≤ k ∧ k < o + min src.size d then src.data.toList.getD (k - o) 0 else 0)
    (hW : W.heap = w.heap.push (.cells #[.int .u8 0, .int .u8 0, .int .u8 0, .int .u8 0, .int .u8 0, .int .u8 0, .int .u8 0, .int .u8 0] T)) :
    (Builtin.copy_ #[40, 9] 3 #[.slice (some ⟨w.heap.size, o, none⟩) d c, .string src]).run Try.prog W = .ok (goInt ((min src.size d : Nat) : Int)) { W with heap := w.heap.push (.cells #[.int .u8 ((f 0).toNat : Int), .int .u8 ((f 1).toNat : Int), .int .u8 ((f 2).toNat : Int), .int .u8 ((f 3).toNat : Int), .int .u8 ((f 4).toNat : Int), .int .u8 ((f 5).toNat : Int), .int .u8 ((f 6).toNat : Int), .int .u8 ((f 7).toNat : Int)] T) } := by
  have hg : W.heap[w.heap.size]? = some (.cells (bytesV [0, 0, 0, 0, 0, 0, 0, 0]) T (0, 0)) := by rw [hW]; simp [bytesV]
  have key := row_copy_str (P := Try.prog) W 40 9 3 5 w.heap.size o d c src [0, 0, 0, 0, 0, 0, 0, 0] T Try.underlying40 (by kernel_rfl) hg (by simpa using h)
  have hmin : Nat.min src.size d = min src.size d := rfl
  rw [hmin] at key
  rw [key]
  have hsz : src.data.toList.length = src.size := rfl
  have hl : [0, 0, 0, 0, 0, 0, 0, 0].take o ++ src.data.toList.take (min src.size d) ++ [0, 0, 0, 0, 0, 0, 0, 0].drop (o + min src.size d) = [f 0, f 1, f 2, f 3, f 4, f 5, f 6, f 7] := by
    apply list8
    · simp only [List.length_append, List.length_take, List.length_drop, List.length_cons, List.length_nil, hsz]; omega
    · intro k hk
      rw [hf k hk]
      have hz : ∀ j, j < 8 → ([0, 0, 0, 0, 0, 0, 0, 0] : List UInt8)[j]? = some 0 := by
        intro j hj
        match j, hj with
        | 0, _ => rfl
        | 1, _ => rfl
        | 2, _ => rfl
        | 3, _ => rfl
        | 4, _ => rfl
        | 5, _ => rfl
        | 6, _ => rfl
        | 7, _ => rfl
      have l1 : (([0, 0, 0, 0, 0, 0, 0, 0] : List UInt8).take o).length = o := by simp only [List.length_take, List.length_cons, List.length_nil]; omega
      have l2 : (src.data.toList.take (min src.size d)).length = min src.size d := by rw [List.length_take, hsz]; omega
      by_cases c1 : k < o
      · rw [if_neg (by omega), List.append_assoc, List.getElem?_append_left (by omega), List.getElem?_take, if_pos c1, hz k hk]
      · by_cases c2 : k < o + min src.size d
        · rw [if_pos ⟨by omega, c2⟩, List.getElem?_append_left (by rw [List.length_append]; omega), List.getElem?_append_right (by omega), l1, List.getElem?_take, if_pos (by omega)]
          rw [List.getD_eq_getElem?_getD, List.getElem?_eq_getElem (by rw [hsz]; omega)]; rfl
        · rw [if_neg (by omega), List.getElem?_append_right (by rw [List.length_append]; omega), List.length_append, l1, l2, List.getElem?_drop, hz _ (by omega)]
  rw [hl]
  congr 1
  unfold World.setRow
  rw [hW]
  congr 1
  apply Array.ext_getElem?
  intro j
  rw [Array.getElem?_modify, Array.getElem?_push, Array.getElem?_push]
  by_cases hj : j = w.heap.size
  · subst hj; simp [bytesV]
  · rw [if_neg (fun e => hj e.symm), if_neg hj, if_neg hj]
set_option maxRecDepth 100000 in
theorem row8_copy_drew (w : World) (src : ByteArray) (o d c : Nat) (f : Nat → UInt8) (T : TypeId) (h : o + min src.size d ≤ 8)
    (hf : ∀ k, k < 8 → f k = if o ≤ k ∧ k < o + min src.size d then src.data.toList.getD (k - o) 0 else 0) :
    (Builtin.copy_ #[40, 9] 3 #[.slice (some ⟨w.heap.size, o, none⟩) d c, .string src]).run Try.prog (w.alloc (.cells #[.int .u8 0, .int .u8 0, .int .u8 0, .int .u8 0, .int .u8 0, .int .u8 0, .int .u8 0, .int .u8 0] T)).drew = .ok (goInt ((min src.size d : Nat) : Int)) (w.alloc (.cells #[.int .u8 ((f 0).toNat : Int), .int .u8 ((f 1).toNat : Int), .int .u8 ((f 2).toNat : Int), .int .u8 ((f 3).toNat : Int), .int .u8 ((f 4).toNat : Int), .int .u8 ((f 5).toNat : Int), .int .u8 ((f 6).toNat : Int), .int .u8 ((f 7).toNat : Int)] T)).drew :=
  row8_copy w (w.alloc (.cells #[.int .u8 0, .int .u8 0, .int .u8 0, .int .u8 0, .int .u8 0, .int .u8 0, .int .u8 0, .int .u8 0] T)).drew src o d c f T h hf rfl
set_option maxRecDepth 100000 in
theorem row8_copy_plain (w : World) (src : ByteArray) (o d c : Nat) (f : Nat → UInt8) (T : TypeId) (h : o + min src.size d ≤ 8)
    (hf : ∀ k, k < 8 → f k = if o ≤ k ∧ k < o + min src.size d then src.data.toList.getD (k - o) 0 else 0) :
    (Builtin.copy_ #[40, 9] 3 #[.slice (some ⟨w.heap.size, o, none⟩) d c, .string src]).run Try.prog (w.alloc (.cells #[.int .u8 0, .int .u8 0, .int .u8 0, .int .u8 0, .int .u8 0, .int .u8 0, .int .u8 0, .int .u8 0] T)) = .ok (goInt ((min src.size d : Nat) : Int)) (w.alloc (.cells #[.int .u8 ((f 0).toNat : Int), .int .u8 ((f 1).toNat : Int), .int .u8 ((f 2).toNat : Int), .int .u8 ((f 3).toNat : Int), .int .u8 ((f 4).toNat : Int), .int .u8 ((f 5).toNat : Int), .int .u8 ((f 6).toNat : Int), .int .u8 ((f 7).toNat : Int)] T)) :=
  row8_copy w (w.alloc (.cells #[.int .u8 0, .int .u8 0, .int .u8 0, .int .u8 0, .int .u8 0, .int .u8 0, .int .u8 0, .int .u8 0] T)) src o d c f T h hf rfl
set_option maxRecDepth 100000 in
theorem sl8 (b lo hi : Nat) (h0 : 1 ≤ lo) (h1 : lo ≤ hi) (h2 : hi ≤ 8) (h3 : lo < 8) (W : World) :
    (Instr.sliceAt 111 (.pointer (some ⟨b, 0, none⟩)) (some (.int .i64 (lo : Int))) (some (.int .i64 (hi : Int))) none).run Try.prog W = .ok (.slice (some ⟨b, lo, none⟩) (hi - lo) (8 - lo)) W := by
  have hl : Try.prog.arrayLen 111 = 8 := by kernel_rfl
  have hz : ∀ W, (sizeOf (Try.prog.elem 111)).run Try.prog W = .ok 1 W := fun _ => by kernel_rfl
  rw [run_sliceAt_array_lh W 111 ⟨b, 0, none⟩ (by kernel_rfl) .i64 .i64 lo hi (by omega) (by omega) (by rw [hl]; omega), hz, hl]
  simp only [Result.andThen, slicedAt, Int.toNat_natCast]
  rw [if_neg (by omega)]
  simp [Addr.add, show ¬ lo = 0 by omega]
theorem join_step {f : Nat → BitVec 64} {k : Nat} {b : UInt8} (h : BitVec.ofNat 64 b.toNat = f k) :
    Value.int .u64 (bits .or .u64 ((joinB f k).toNat : Int) (IntKind.u64.wrap ((b.toNat : Int) * 2 ^ (8 * k)))) = U (joinB f (k + 1)) := by
  have e : (b.toNat : Int) = ((f k).toNat : Int) := by rw [← h, BitVec.toNat_ofNat]; have := b.toNat_lt; omega
  rw [e, u_shl, u_or]; rfl
set_option maxRecDepth 100000 in
theorem get_in_mid (s : ByteArray) (at_ n : Int) (w : World) (h1 : 0 ≤ at_) (h2 : at_ < s.size) (hn0 : 0 ≤ n) (hn8 : n ≤ 8) (hs : s.size ≤ 9223372036854775807) :
    Calls Try.prog 62 #[.string s, .int .i64 at_, .int .i64 n] w fun e w' => e = .returned (U (getB s at_ n)) ∧ Below w.heap.size w w' := by
  obtain ⟨f, hf⟩ : ∃ f : Nat → UInt8, f = gbU s at_ n := ⟨_, rfl⟩
  have hsx : (s.extract at_.toNat s.size).size = s.size - at_.toNat := by simp
  have hcp := row8_copy_drew w (s.extract at_.toNat s.size) 0 (n.toNat) 8 f 111 (by rw [hsx]; omega) (by
    intro k hk
    rw [hf, hsx]; unfold gbU
    by_cases c : (k : Int) < n ∧ 0 ≤ at_ + k ∧ at_ + k < s.size
    · rw [if_pos c, if_pos (by omega)]
      simp only [ByteArray.data_extract, Array.toList_extract, List.extract_eq_take_drop, List.getD_eq_getElem?_getD, List.getElem?_take, List.getElem?_drop]
      rw [if_pos (by omega), show at_.toNat + (k - 0) = (at_ + k).toNat by omega]
    · rw [if_neg c, if_neg (by omega)])
  have hf2 : ∀ k, BitVec.ofNat 64 (f k).toNat = gb s at_ n k := fun k => by rw [hf]; rfl
  have hf3 : ∀ k, ((f k).toNat : Int) < 256 := fun k => by have := (f k).toNat_lt; omega
  have IX := Lib.hid (idx8 f)
  have H2 := Lib.hid hf2
  have H3 := Lib.hid hf3
  clear hf hf2 hf3
  go_enter Try.func62, Try.ntmps62
  go_wp2
  go_region
  go_wp2
  go_loop [8, 44] (fun v i => ∃ k : Nat, k ≤ 8 ∧ i = .int .i64 k ∧ v = U (joinB (gb s at_ n) k)) (fun _ i => 8 - (intOf i).toNat)
  case atStart => exact ⟨0, by omega, rfl, rfl⟩
  case round =>
    obtain ⟨k, hk, rfl, rfl⟩ := hrel
    by_cases hk8 : k < 8
    · have iy := fun w => IX.out k hk8 w
      have iz := H3.out k
      go_wp2
      go_round
      case rel => exact ⟨k + 1, by omega, by go_num, join_step (H2.out k)⟩
      case measure => simp [intOf]; omega
    · obtain rfl : k = 8 := by omega
      go_wp2
      go_ret
      exact ⟨rfl, ((Below.refl _ _).alloc (Nat.le_refl _) _).drew⟩
set_option maxRecDepth 100000 in
theorem get_in_low (s : ByteArray) (at_ n : Int) (w : World) (h1 : 0 ≤ at_) (h2 : at_ < s.size) (hn0 : n < 0) (hs : s.size ≤ 9223372036854775807) :
    Calls Try.prog 62 #[.string s, .int .i64 at_, .int .i64 n] w fun e w' => e = .returned (U (getB s at_ n)) ∧ Below w.heap.size w w' := by
  obtain ⟨f, hf⟩ : ∃ f : Nat → UInt8, f = gbU s at_ n := ⟨_, rfl⟩
  have hsx : (s.extract at_.toNat s.size).size = s.size - at_.toNat := by simp
  have hcp := row8_copy_drew w (s.extract at_.toNat s.size) 0 (0) 8 f 111 (by rw [hsx]; omega) (by
    intro k hk
    rw [hf, hsx]; unfold gbU
    by_cases c : (k : Int) < n ∧ 0 ≤ at_ + k ∧ at_ + k < s.size
    · rw [if_pos c, if_pos (by omega)]
      simp only [ByteArray.data_extract, Array.toList_extract, List.extract_eq_take_drop, List.getD_eq_getElem?_getD, List.getElem?_take, List.getElem?_drop]
      rw [if_pos (by omega), show at_.toNat + (k - 0) = (at_ + k).toNat by omega]
    · rw [if_neg c, if_neg (by omega)])
  have hf2 : ∀ k, BitVec.ofNat 64 (f k).toNat = gb s at_ n k := fun k => by rw [hf]; rfl
  have hf3 : ∀ k, ((f k).toNat : Int) < 256 := fun k => by have := (f k).toNat_lt; omega
  have IX := Lib.hid (idx8 f)
  have H2 := Lib.hid hf2
  have H3 := Lib.hid hf3
  clear hf hf2 hf3
  go_enter Try.func62, Try.ntmps62
  go_wp2
  go_region
  go_wp2
  go_loop [8, 44] (fun v i => ∃ k : Nat, k ≤ 8 ∧ i = .int .i64 k ∧ v = U (joinB (gb s at_ n) k)) (fun _ i => 8 - (intOf i).toNat)
  case atStart => exact ⟨0, by omega, rfl, rfl⟩
  case round =>
    obtain ⟨k, hk, rfl, rfl⟩ := hrel
    by_cases hk8 : k < 8
    · have iy := fun w => IX.out k hk8 w
      have iz := H3.out k
      go_wp2
      go_round
      case rel => exact ⟨k + 1, by omega, by go_num, join_step (H2.out k)⟩
      case measure => simp [intOf]; omega
    · obtain rfl : k = 8 := by omega
      go_wp2
      go_ret
      exact ⟨rfl, ((Below.refl _ _).alloc (Nat.le_refl _) _).drew⟩
set_option maxRecDepth 100000 in
theorem get_in_high (s : ByteArray) (at_ n : Int) (w : World) (h1 : 0 ≤ at_) (h2 : at_ < s.size) (hn8 : 8 < n) (hs : s.size ≤ 9223372036854775807) :
    Calls Try.prog 62 #[.string s, .int .i64 at_, .int .i64 n] w fun e w' => e = .returned (U (getB s at_ n)) ∧ Below w.heap.size w w' := by
  obtain ⟨f, hf⟩ : ∃ f : Nat → UInt8, f = gbU s at_ n := ⟨_, rfl⟩
  have hsx : (s.extract at_.toNat s.size).size = s.size - at_.toNat := by simp
  have hcp := row8_copy_drew w (s.extract at_.toNat s.size) 0 (8) 8 f 111 (by rw [hsx]; omega) (by
    intro k hk
    rw [hf, hsx]; unfold gbU
    by_cases c : (k : Int) < n ∧ 0 ≤ at_ + k ∧ at_ + k < s.size
    · rw [if_pos c, if_pos (by omega)]
      simp only [ByteArray.data_extract, Array.toList_extract, List.extract_eq_take_drop, List.getD_eq_getElem?_getD, List.getElem?_take, List.getElem?_drop]
      rw [if_pos (by omega), show at_.toNat + (k - 0) = (at_ + k).toNat by omega]
    · rw [if_neg c, if_neg (by omega)])
  have hf2 : ∀ k, BitVec.ofNat 64 (f k).toNat = gb s at_ n k := fun k => by rw [hf]; rfl
  have hf3 : ∀ k, ((f k).toNat : Int) < 256 := fun k => by have := (f k).toNat_lt; omega
  have IX := Lib.hid (idx8 f)
  have H2 := Lib.hid hf2
  have H3 := Lib.hid hf3
  clear hf hf2 hf3
  go_enter Try.func62, Try.ntmps62
  go_wp2
  go_region
  go_wp2
  go_loop [8, 44] (fun v i => ∃ k : Nat, k ≤ 8 ∧ i = .int .i64 k ∧ v = U (joinB (gb s at_ n) k)) (fun _ i => 8 - (intOf i).toNat)
  case atStart => exact ⟨0, by omega, rfl, rfl⟩
  case round =>
    obtain ⟨k, hk, rfl, rfl⟩ := hrel
    by_cases hk8 : k < 8
    · have iy := fun w => IX.out k hk8 w
      have iz := H3.out k
      go_wp2
      go_round
      case rel => exact ⟨k + 1, by omega, by go_num, join_step (H2.out k)⟩
      case measure => simp [intOf]; omega
    · obtain rfl : k = 8 := by omega
      go_wp2
      go_ret
      exact ⟨rfl, ((Below.refl _ _).alloc (Nat.le_refl _) _).drew⟩
set_option maxRecDepth 100000 in
theorem get_neg_mid (s : ByteArray) (a m : Nat) (w : World) (h1 : 1 ≤ a) (h2 : a < 8) (hn0 : a ≤ m) (hn8 : m ≤ 8) (hs : s.size ≤ 9223372036854775807) :
    Calls Try.prog 62 #[.string s, .int .i64 (-(a : Int)), .int .i64 (m : Int)] w fun e w' => e = .returned (U (getB s (-(a : Int)) (m : Int))) ∧ Below w.heap.size w w' := by
  obtain ⟨f, hf⟩ : ∃ f : Nat → UInt8, f = gbU s (-(a : Int)) (m : Int) := ⟨_, rfl⟩
  have hcp := row8_copy_plain w s a (m - a) (8 - a) f 111 (by omega) (by
    intro k hk
    rw [hf]; unfold gbU
    by_cases c : (k : Int) < (m : Int) ∧ 0 ≤ -(a : Int) + k ∧ -(a : Int) + k < s.size
    · rw [if_pos c, if_pos (by omega), show k - a = (-(a : Int) + k).toNat by omega]
    · rw [if_neg c, if_neg (by omega)])
  have hsl := sl8 w.heap.size a m (by omega) (by omega) (by omega) (by omega)
  have hf2 : ∀ k, BitVec.ofNat 64 (f k).toNat = gb s (-(a : Int)) (m : Int) k := fun k => by rw [hf]; rfl
  have hf3 : ∀ k, ((f k).toNat : Int) < 256 := fun k => by have := (f k).toNat_lt; omega
  have IX := Lib.hid (idx8 f)
  have H2 := Lib.hid hf2
  have H3 := Lib.hid hf3
  clear hf hf2 hf3
  go_enter Try.func62, Try.ntmps62
  go_wp2
  go_loop [8, 44] (fun v i => ∃ k : Nat, k ≤ 8 ∧ i = .int .i64 k ∧ v = U (joinB (gb s (-(a : Int)) (m : Int)) k)) (fun _ i => 8 - (intOf i).toNat)
  case atStart => exact ⟨0, by omega, rfl, rfl⟩
  case round =>
    obtain ⟨k, hk, rfl, rfl⟩ := hrel
    by_cases hk8 : k < 8
    · have iy := fun w => IX.out k hk8 w
      have iz := H3.out k
      go_wp2
      go_round
      case rel => exact ⟨k + 1, by omega, by go_num, join_step (H2.out k)⟩
      case measure => simp [intOf]; omega
    · obtain rfl : k = 8 := by omega
      go_wp2
      go_ret
      exact ⟨rfl, (Below.refl _ _).alloc (Nat.le_refl _) _⟩
set_option maxRecDepth 100000 in
theorem get_neg_low (s : ByteArray) (a : Nat) (n : Int) (w : World) (h1 : 1 ≤ a) (h2 : a < 8) (hn0 : n < a) (hs : s.size ≤ 9223372036854775807) :
    Calls Try.prog 62 #[.string s, .int .i64 (-(a : Int)), .int .i64 n] w fun e w' => e = .returned (U (getB s (-(a : Int)) n)) ∧ Below w.heap.size w w' := by
  obtain ⟨f, hf⟩ : ∃ f : Nat → UInt8, f = gbU s (-(a : Int)) n := ⟨_, rfl⟩
  have hcp := row8_copy_plain w s a (0) (8 - a) f 111 (by omega) (by
    intro k hk
    rw [hf]; unfold gbU
    by_cases c : (k : Int) < n ∧ 0 ≤ -(a : Int) + k ∧ -(a : Int) + k < s.size
    · rw [if_pos c, if_pos (by omega), show k - a = (-(a : Int) + k).toNat by omega]
    · rw [if_neg c, if_neg (by omega)])
  have hsl := sl8 w.heap.size a a (by omega) (by omega) (by omega) (by omega)
  have hf2 : ∀ k, BitVec.ofNat 64 (f k).toNat = gb s (-(a : Int)) n k := fun k => by rw [hf]; rfl
  have hf3 : ∀ k, ((f k).toNat : Int) < 256 := fun k => by have := (f k).toNat_lt; omega
  have IX := Lib.hid (idx8 f)
  have H2 := Lib.hid hf2
  have H3 := Lib.hid hf3
  clear hf hf2 hf3
  go_enter Try.func62, Try.ntmps62
  go_wp2
  go_loop [8, 44] (fun v i => ∃ k : Nat, k ≤ 8 ∧ i = .int .i64 k ∧ v = U (joinB (gb s (-(a : Int)) n) k)) (fun _ i => 8 - (intOf i).toNat)
  case atStart => exact ⟨0, by omega, rfl, rfl⟩
  case round =>
    obtain ⟨k, hk, rfl, rfl⟩ := hrel
    by_cases hk8 : k < 8
    · have iy := fun w => IX.out k hk8 w
      have iz := H3.out k
      go_wp2
      go_round
      case rel => exact ⟨k + 1, by omega, by go_num, join_step (H2.out k)⟩
      case measure => simp [intOf]; omega
    · obtain rfl : k = 8 := by omega
      go_wp2
      go_ret
      exact ⟨rfl, (Below.refl _ _).alloc (Nat.le_refl _) _⟩
set_option maxRecDepth 100000 in
theorem get_neg_high (s : ByteArray) (a : Nat) (n : Int) (w : World) (h1 : 1 ≤ a) (h2 : a < 8) (hn8 : 8 < n) (hs : s.size ≤ 9223372036854775807) :
    Calls Try.prog 62 #[.string s, .int .i64 (-(a : Int)), .int .i64 n] w fun e w' => e = .returned (U (getB s (-(a : Int)) n)) ∧ Below w.heap.size w w' := by
  obtain ⟨f, hf⟩ : ∃ f : Nat → UInt8, f = gbU s (-(a : Int)) n := ⟨_, rfl⟩
  have hcp := row8_copy_plain w s a (8 - a) (8 - a) f 111 (by omega) (by
    intro k hk
    rw [hf]; unfold gbU
    by_cases c : (k : Int) < n ∧ 0 ≤ -(a : Int) + k ∧ -(a : Int) + k < s.size
    · rw [if_pos c, if_pos (by omega), show k - a = (-(a : Int) + k).toNat by omega]
    · rw [if_neg c, if_neg (by omega)])
  have hsl : ∀ W, (Instr.sliceAt 111 (.pointer (some ⟨w.heap.size, 0, none⟩)) (some (.int .i64 (a : Int))) (some (.int .i64 8)) none).run Try.prog W = .ok (.slice (some ⟨w.heap.size, a, none⟩) (8 - a) (8 - a)) W :=
    sl8 w.heap.size a 8 (by omega) (by omega) (by omega) (by omega)
  have hf2 : ∀ k, BitVec.ofNat 64 (f k).toNat = gb s (-(a : Int)) n k := fun k => by rw [hf]; rfl
  have hf3 : ∀ k, ((f k).toNat : Int) < 256 := fun k => by have := (f k).toNat_lt; omega
  have IX := Lib.hid (idx8 f)
  have H2 := Lib.hid hf2
  have H3 := Lib.hid hf3
  clear hf hf2 hf3
  go_enter Try.func62, Try.ntmps62
  go_wp2
  go_loop [8, 44] (fun v i => ∃ k : Nat, k ≤ 8 ∧ i = .int .i64 k ∧ v = U (joinB (gb s (-(a : Int)) n) k)) (fun _ i => 8 - (intOf i).toNat)
  case atStart => exact ⟨0, by omega, rfl, rfl⟩
  case round =>
    obtain ⟨k, hk, rfl, rfl⟩ := hrel
    by_cases hk8 : k < 8
    · have iy := fun w => IX.out k hk8 w
      have iz := H3.out k
      go_wp2
      go_round
      case rel => exact ⟨k + 1, by omega, by go_num, join_step (H2.out k)⟩
      case measure => simp [intOf]; omega
    · obtain rfl : k = 8 := by omega
      go_wp2
      go_ret
      exact ⟨rfl, (Below.refl _ _).alloc (Nat.le_refl _) _⟩
theorem get_any (s : ByteArray) (at_ n : Int) (w : World) (hs : s.size ≤ 9223372036854775807) :
    Calls Try.prog 62 #[.string s, .int .i64 at_, .int .i64 n] w fun e w' => e = .returned (U (getB s at_ n)) ∧ Below w.heap.size w w' := by
  by_cases h1 : 0 ≤ at_ ∧ at_ < s.size
  · by_cases h2 : n < 0
    · exact get_in_low s at_ n w h1.1 h1.2 h2 hs
    · by_cases h3 : n ≤ 8
      · exact get_in_mid s at_ n w h1.1 h1.2 (by omega) h3 hs
      · exact get_in_high s at_ n w h1.1 h1.2 (by omega) hs
  · by_cases h2 : at_ < 0 ∧ -8 < at_
    · obtain ⟨a, ha⟩ : ∃ a : Nat, at_ = -(a : Int) := ⟨(-at_).toNat, by omega⟩
      subst ha
      by_cases h3 : n < a
      · exact get_neg_low s a n w (by omega) (by omega) h3 hs
      · by_cases h4 : n ≤ 8
        · obtain ⟨m, rfl⟩ : ∃ m : Nat, n = (m : Int) := ⟨n.toNat, by omega⟩
          exact get_neg_mid s a m w (by omega) (by omega) (by omega) (by omega) hs
        · exact get_neg_high s a n w (by omega) (by omega) (by omega) hs
    · exact get_none s at_ n w h1 h2 hs
end Go.Proofs.Ytkjbhjmjfacjcaa
