/- Part 3 of the texts behind the law: contracts and lemmas, each proved; no condition but what each names. -/
import Derived.Laws.MakeOwn
import Derived.Laws.LoneSync
import Derived.Laws.Rows
import Derived.OpenShut
import Derived.Carry
import Derived.Lib.Hide
import Derived.Test.YtfehilinnalflaaGreatQ01
import Derived.Test.YtfehilinnalflaaGreatQ02
namespace Go.Proofs.YtfehilinnalflaaGreat
open Go.RowKit
set_option linter.unusedSimpArgs false
set_option linter.unusedVariables false
set_option maxRecDepth 100000
def memL (f : Nat → UInt8) : List UInt8 := (List.range 32768).map f
theorem memL_length (f : Nat → UInt8) : (memL f).length = 32768 := by unfold memL; rw [List.length_map, List.length_range]
theorem memL_get (f : Nat → UInt8) (i : Nat) (h : i < 32768) : (memL f)[i]? = some (f i) := by
  unfold memL; rw [List.getElem?_map, List.getElem?_range h]; rfl
def IsMem (w : World) (p g : Nat) (T : TypeId) (f : Nat → UInt8) : Prop :=
  ∃ rest : List UInt8, w.heap[p]? = some (.cells #[.slice (some ⟨g, 0, none⟩) 32768 (32768 + rest.length)] T (0, 0)) ∧ w.heap[g]? = some (.cells (bytesV (memL f ++ rest)) 5 (0, 0))
structure Upd (w w' : World) (g : Nat) : Prop where
  os : w'.os = w.os
  tape : w'.tape = w.tape
  output : w'.output = w.output
  size : w.heap.size ≤ w'.heap.size
  block : ∀ k, k < w.heap.size → k ≠ g → w'.heap[k]? = w.heap[k]?
theorem Upd.of_below {w w' : World} (h : Below w.heap.size w w') (g : Nat) : Upd w w' g := ⟨h.os, h.tape, h.output, h.size, fun k hk _ => h.block k hk⟩
theorem Upd.trans {a b c : World} {g : Nat} (h : Upd a b g) (k : Upd b c g) : Upd a c g :=
  ⟨k.os.trans h.os, k.tape.trans h.tape, k.output.trans h.output, Nat.le_trans h.size k.size, fun i hi hg => (k.block i (Nat.lt_of_lt_of_le hi h.size) hg).trans (h.block i hi hg)⟩
theorem Upd.row (w : World) (g : Nat) (arr : Array Value) : Upd w (w.setRow g arr) g :=
  ⟨rfl, rfl, rfl, by simp, fun k _ hg => setRow_other w g k arr hg⟩
theorem blk_lt {w : World} {g : Nat} {o : Obj} (h : w.heap[g]? = some o) : g < w.heap.size := (Array.getElem?_eq_some_iff.1 h).1
theorem IsMem.p_lt {w : World} {p g : Nat} {T : TypeId} {f : Nat → UInt8} (h : IsMem w p g T f) : p < w.heap.size := by obtain ⟨r, h1, h2⟩ := h; exact blk_lt h1
theorem IsMem.g_lt {w : World} {p g : Nat} {T : TypeId} {f : Nat → UInt8} (h : IsMem w p g T f) : g < w.heap.size := by obtain ⟨r, h1, h2⟩ := h; exact blk_lt h2
theorem IsMem.ne {w : World} {p g : Nat} {T : TypeId} {f : Nat → UInt8} (h : IsMem w p g T f) : p ≠ g := by
  rintro rfl
  obtain ⟨r, h1, h2⟩ := h
  rw [h1] at h2
  have e := congrArg (fun o : Option Obj => match o with | some (.cells c _ _) => c.size | _ => 0) h2
  simp only [bytesV_size, List.length_append, memL_length] at e
  simp at e
  omega
theorem IsMem.upd {w w' : World} {p g k : Nat} {T : TypeId} {f : Nat → UInt8} (h : IsMem w p g T f) (u : Upd w w' k) (h1 : p ≠ k) (h2 : g ≠ k) : IsMem w' p g T f := by
  have hp := h.p_lt
  have hg := h.g_lt
  obtain ⟨r, a, b⟩ := h
  exact ⟨r, by rw [u.block p hp h1]; exact a, by rw [u.block g hg h2]; exact b⟩
theorem IsMem.below {w w' : World} {p g : Nat} {T : TypeId} {f : Nat → UInt8} (h : IsMem w p g T f) (u : Below w.heap.size w w') : IsMem w' p g T f := by
  have hp := h.p_lt
  have hg := h.g_lt
  obtain ⟨r, a, b⟩ := h
  exact ⟨r, by rw [u.block p hp]; exact a, by rw [u.block g hg]; exact b⟩
theorem Upd.below {B : Nat} {w0 w w' : World} {g : Nat} (h : Below B w0 w) (u : Upd w w' g) (hB : B ≤ w.heap.size) (hg : B ≤ g) : Below B w0 w' :=
  ⟨u.os.trans h.os, u.tape.trans h.tape, u.output.trans h.output, Nat.le_trans h.size u.size, fun k hk => (u.block k (by omega) (by omega)).trans (h.block k hk)⟩
def codeOf (a : BitVec 64) (n : Int) : Int :=
  if n ≠ 1 ∧ n ≠ 2 ∧ n ≠ 4 ∧ n ≠ 8 ∨ (a.toNat : Int) % n ≠ 0 then 61 else if 32768 ≤ a.toNat then 60 else 0
theorem codeOf_zero {a : BitVec 64} {n : Int} (h : codeOf a n = 0) : (n = 1 ∨ n = 2 ∨ n = 4 ∨ n = 8) ∧ (a.toNat : Int) % n = 0 ∧ a.toNat < 32768 ∧ (a.toNat : Int) + n ≤ 32768 := by
  unfold codeOf at h
  split at h
  · cases h
  · rename_i c
    split at h
    · cases h
    · rename_i c2
      have h1 : n = 1 ∨ n = 2 ∨ n = 4 ∨ n = 8 := by omega
      have h2 : (a.toNat : Int) % n = 0 := by omega
      refine ⟨h1, h2, by omega, ?_⟩
      rcases h1 with rfl | rfl | rfl | rfl <;> omega
set_option maxHeartbeats 4000000 in
set_option maxRecDepth 100000 in
theorem check_any (a : BitVec 64) (n : Int) (w : World) :
    Calls Tryz.prog 25 #[U a, .int .i64 n] w fun e w' => e = .returned (.int .i64 (codeOf a n)) ∧ w = w' := by
  by_cases hn : n = 1 ∨ n = 2 ∨ n = 4 ∨ n = 8
  · by_cases hm : (a.toNat : Int) % n = 0
    · by_cases hr : 32768 ≤ (a.toNat : Int)
      · have e : codeOf a n = 60 := by unfold codeOf; rw [if_neg (by omega), if_pos (by omega)]
        rw [e]
        clear e
        rcases hn with rfl | rfl | rfl | rfl <;> (go_enter Tryz.func25, Tryz.ntmps25; go_wp2; all_goals go_ret; all_goals exact ⟨rfl, rfl⟩)
      · have e : codeOf a n = 0 := by unfold codeOf; rw [if_neg (by omega), if_neg (by omega)]
        rw [e]
        clear e
        rcases hn with rfl | rfl | rfl | rfl <;> (go_enter Tryz.func25, Tryz.ntmps25; go_wp2; all_goals go_ret; all_goals exact ⟨rfl, rfl⟩)
    · have e : codeOf a n = 61 := by unfold codeOf; rw [if_pos (Or.inr hm)]
      rw [e]
      clear e
      rcases hn with rfl | rfl | rfl | rfl
      · omega
      all_goals (go_enter Tryz.func25, Tryz.ntmps25; go_wp2; all_goals go_ret; all_goals exact ⟨rfl, rfl⟩)
  · have e : codeOf a n = 61 := by unfold codeOf; rw [if_pos (Or.inl (by omega))]
    rw [e]
    have h1 : (n != 1) = true := bne_iff_ne.2 (by omega)
    have h2 : (n != 2) = true := bne_iff_ne.2 (by omega)
    have h4 : (n != 4) = true := bne_iff_ne.2 (by omega)
    have h8 : (n != 8) = true := bne_iff_ne.2 (by omega)
    clear e hn
    go_enter Tryz.func25, Tryz.ntmps25
    go_wp2
    go_ret
    exact ⟨rfl, rfl⟩
theorem made_n (n : Nat) : madeCells #[Value.int .u8 0] n = ((List.range n).map fun _ => Value.int .u8 0).toArray := by
  apply Array.ext_getElem?
  intro i
  unfold madeCells
  by_cases h : i < n
  · simp [h, Nat.mod_one]
  · rw [Array.getElem?_eq_none (by rw [Array.size_map, Array.size_range]; omega), Array.getElem?_eq_none (by rw [List.size_toArray, List.length_map, List.length_range]; omega)]
theorem made_bytes : madeCells #[Value.int .u8 0] (32768 * 1) = bytesV (memL fun _ => 0) := by
  rw [made_n, Nat.mul_one]
  unfold bytesV memL
  rw [List.map_map]
  rfl
theorem run_make_mem (w : World) : (Instr.makeSlice 84 (.int .i64 32768) (.int .i64 32768)).run Tryz.prog w = .ok (.slice (some ⟨w.heap.size, 0, none⟩) 32768 32768) (w.alloc (.cells (bytesV (memL fun _ => 0)) 5)) := by
  obtain ⟨i0, hi, hz0, hz1, hz2⟩ := info_parts infoB
  have h := run_make (P := Tryz.prog) w 84 5 i0 (.int .u8 0) Tryz.underlying84 hi hz0 .i64 .i64 32768 32768 (by omega) (by omega) (by rw [hz2]; omega) (by omega)
  rw [h, hz1]
  have e : (32768 : Int).toNat = 32768 := rfl
  have e2 : (Value.int .u8 0).cells = #[Value.int .u8 0] := rfl
  rw [e, e2, made_bytes]
set_option maxRecDepth 100000 in
theorem new_any (w : World) :
    Calls Tryz.prog 18 #[] w fun e w' => e = .returned (.pointer (some ⟨w.heap.size + 1, 0, none⟩)) ∧
      w' = (w.alloc (.cells (bytesV (memL fun _ => 0)) 5)).alloc (.cells #[.slice (some ⟨w.heap.size, 0, none⟩) 32768 32768] 92) := by
  have hm := run_make_mem
  go_enter Tryz.func18, Tryz.ntmps18
  go_wp2
  go_ret
  exact ⟨rfl, rfl⟩
end Go.Proofs.YtfehilinnalflaaGreat
namespace Go.Proofs.YtfehilinnalflaaGreat
open Go.RowKit Go.BigFrame
set_option linter.unusedSimpArgs false
set_option linter.unusedVariables false
set_option maxRecDepth 100000
def readF (f : Nat → UInt8) (a : Nat) (n : Int) : BitVec 64 := joinB (fun k => if (k : Int) < n then BitVec.ofNat 64 (f (a + k)).toNat else 0#64) 8
def strAt (f : Nat → UInt8) (a n : Nat) : ByteArray := ⟨((List.range n).map fun i => f (a + i)).toArray⟩
theorem strAt_size (f : Nat → UInt8) (a n : Nat) : (strAt f a n).size = n := by
  show ((List.range n).map fun i => f (a + i)).toArray.size = n
  rw [List.size_toArray, List.length_map, List.length_range]
theorem strAt_get (f : Nat → UInt8) (a n k : Nat) (h : k < n) : (strAt f a n).data.toList.getD k 0 = f (a + k) := by
  unfold strAt
  rw [List.getD_eq_getElem?_getD, List.getElem?_map, List.getElem?_range h]; rfl
theorem mem_cut (f : Nat → UInt8) (rest : List UInt8) (a n : Nat) (h : a + n ≤ 32768) : ((memL f ++ rest).drop a).take n = (List.range n).map fun i => f (a + i) := by
  apply List.ext_getElem?
  intro i
  rw [List.getElem?_take, List.getElem?_map]
  by_cases c : i < n
  · rw [if_pos c, List.getElem?_drop, List.getElem?_append_left (by rw [memL_length]; omega), memL_get f _ (by omega), List.getElem?_range c]; rfl
  · rw [if_neg c, List.getElem?_eq_none (by rw [List.length_range]; omega)]; rfl
theorem getB_strAt (f : Nat → UInt8) (a n : Nat) (hn : n ≤ 8) : getB (strAt f a n) 0 n = readF f a n := by
  unfold getB readF
  apply join_congr
  intro k hk
  unfold gb gbU
  rw [strAt_size]
  by_cases c : (k : Int) < (n : Int)
  · rw [if_pos ⟨c, by omega, by omega⟩, if_pos c, show ((0 : Int) + (k : Int)).toNat = k by omega, strAt_get f a n k (by omega)]
  · rw [if_neg (by omega), if_neg c]; rfl
theorem slice_run (g lo hi cap : Nat) (h0 : lo ≤ hi) (h1 : hi ≤ cap) (h2 : lo < cap) (k1 k2 : IntKind) (n : Nat) (W : World) :
    (Instr.slice 84 (.slice (some ⟨g, 0, none⟩) n cap) (some (.int k1 (lo : Int))) (some (.int k2 (hi : Int))) none).run Tryz.prog W = .ok (.slice (some ⟨g, lo, none⟩) (hi - lo) (cap - lo)) W := by
  have ht : Tryz.prog.underlying 84 = some (.slice (Tryz.prog.elem 84)) := by kernel_rfl
  have hz : ∀ W, (sizeOf (Tryz.prog.elem 84)).run Tryz.prog W = .ok 1 W := fun _ => by kernel_rfl
  rw [run_slice_lh (P := Tryz.prog) W 84 (some ⟨g, 0, none⟩) n cap ht k1 k2 lo hi (by omega) (by omega) (by omega), hz]
  simp only [Result.andThen, sliced, Int.toNat_natCast]
  rw [if_neg (by omega)]
  congr 1
  simp [Addr.add]
  intro h; exact h.symm
theorem slice_run_l (g lo n cap : Nat) (h0 : lo ≤ n) (h2 : lo < cap) (k1 : IntKind) (W : World) :
    (Instr.slice 84 (.slice (some ⟨g, 0, none⟩) n cap) (some (.int k1 (lo : Int))) none none).run Tryz.prog W = .ok (.slice (some ⟨g, lo, none⟩) (n - lo) (cap - lo)) W := by
  have ht : Tryz.prog.underlying 84 = some (.slice (Tryz.prog.elem 84)) := by kernel_rfl
  have hz : ∀ W, (sizeOf (Tryz.prog.elem 84)).run Tryz.prog W = .ok 1 W := fun _ => by kernel_rfl
  rw [run_slice_l (P := Tryz.prog) W 84 (some ⟨g, 0, none⟩) n cap ht k1 lo (by omega) (by omega), hz]
  simp only [Result.andThen, sliced, Int.toNat_natCast]
  rw [if_neg (by omega)]
  congr 1
  simp [Addr.add]
  intro h; exact h.symm
theorem conv_mem {w : World} {g a n cap : Nat} {f : Nat → UInt8} {rest : List UInt8} (hg : w.heap[g]? = some (.cells (bytesV (memL f ++ rest)) 5 (0, 0))) (h : a + n ≤ 32768) :
    (convert 84 9 (.slice (some ⟨g, a, none⟩) n cap)).run Tryz.prog w = .ok (.string (strAt f a n)) w := by
  rw [run_convert_bytes_string _ _ _ 5 _ _ _ Tryz.underlying84 Tryz.underlying5 Tryz.underlying9]
  rw [row_to_str _ g a n cap (memL f ++ rest) 5 (0, 0) hg (by rw [List.length_append, memL_length]; omega), mem_cut f rest a n h]
  rfl
set_option maxRecDepth 100000 in
theorem read_no {p g : Nat} {f : Nat → UInt8} (a : BitVec 64) (n : Int) (w : World) (hc : codeOf a n ≠ 0) :
    Calls Tryz.prog 170 #[.pointer (some ⟨p, 0, none⟩), U a, .int .i64 n] w fun e w' => e = .returned (.tuple #[.int .u64 0, .int .i64 (codeOf a n)]) ∧ w = w' := by
  have h1 : (codeOf a n != 0) = true := bne_iff_ne.2 hc
  clear hc
  go_enter Tryz.func170, Tryz.ntmps170
  go_wp2_with (go_at_call 25; refine (check_any _ _ _).mono ?_; rintro e w' ⟨rfl, rfl⟩)
  go_ret2
  exact ⟨rfl, rfl⟩
set_option maxRecDepth 100000 in
theorem read_yes {p g : Nat} {f : Nat → UInt8} (a : BitVec 64) (n : Nat) (w : World) (hM : IsMem w p g 92 f) (hc : codeOf a n = 0) :
    Calls Tryz.prog 170 #[.pointer (some ⟨p, 0, none⟩), U a, .int .i64 n] w fun e w' => e = .returned (.tuple #[U (readF f a.toNat n), .int .i64 0]) ∧ Below w.heap.size w w' := by
  obtain ⟨hn, hm, ha, hr⟩ := codeOf_zero hc
  obtain ⟨rest, hp, hg⟩ := hM
  have hcell : w.cell? ⟨p, 0, none⟩ = some (.slice (some ⟨g, 0, none⟩) 32768 (32768 + rest.length)) := by simp [World.cell?, hp]
  have hck : Calls Tryz.prog 25 #[U a, .int .i64 n] w fun e w' => e = .returned (.int .i64 0) ∧ w = w' := hc ▸ check_any a n w
  have hsl := slice_run g a.toNat (a.toNat + n) (32768 + rest.length) (by omega) (by omega) (by omega) .u64 .u64 32768
  have e1 : ((a.toNat + n : Nat) : Int) = (a.toNat : Int) + (n : Int) := by omega
  have e2 : a.toNat + n - a.toNat = n := by omega
  rw [e1, e2] at hsl
  have hcv := conv_mem (n := n) (a := a.toNat) (cap := 32768 + rest.length - a.toNat) hg (by omega)
  have hget := fun w => get_any (strAt f a.toNat n) 0 n w (by rw [strAt_size]; omega)
  rw [getB_strAt f a.toNat n (by omega)] at hget
  have hn8 : (n : Int) ≤ 8 := by omega
  clear hm hc hp hg hn e1 e2
  go_enter Tryz.func170, Tryz.ntmps170
  go_wp2_with (first | (go_at_call 25; refine hck.mono ?_; rintro e w' ⟨rfl, rfl⟩) | (go_at_call 217; refine (hget _).mono ?_; rintro e w' ⟨rfl, HB⟩))
  go_ret2
  exact ⟨rfl, HB⟩
def putF (f : Nat → UInt8) (a : Nat) (l : List UInt8) : Nat → UInt8 := fun i => if a ≤ i ∧ i < a + l.length then l.getD (i - a) 0 else f i
theorem put_row (f : Nat → UInt8) (rest l : List UInt8) (a : Nat) (h : a + l.length ≤ 32768) :
    (memL f ++ rest).take a ++ l ++ (memL f ++ rest).drop (a + l.length) = memL (putF f a l) ++ rest := by
  have hlen : ((memL f ++ rest).take a).length = a := by rw [List.length_take, List.length_append, memL_length]; omega
  apply List.ext_getElem?
  intro i
  by_cases c1 : i < a
  · rw [List.append_assoc, List.getElem?_append_left (by omega), List.getElem?_take, if_pos c1, List.getElem?_append_left (by rw [memL_length]; omega), memL_get _ _ (by omega),
      List.getElem?_append_left (by rw [memL_length]; omega), memL_get _ _ (by omega)]
    unfold putF; rw [if_neg (by omega)]
  · by_cases c2 : i < a + l.length
    · rw [List.getElem?_append_left (by rw [List.length_append]; omega), List.getElem?_append_right (by omega), hlen, List.getElem?_append_left (by rw [memL_length]; omega), memL_get _ _ (by omega)]
      unfold putF; rw [if_pos (by omega), List.getD_eq_getElem?_getD, List.getElem?_eq_getElem (by omega)]; rfl
    · rw [List.getElem?_append_right (by rw [List.length_append]; omega), List.length_append, hlen, List.getElem?_drop, show a + l.length + (i - (a + l.length)) = i by omega]
      by_cases c3 : i < 32768
      · rw [List.getElem?_append_left (by rw [memL_length]; omega), memL_get _ _ c3, List.getElem?_append_left (by rw [memL_length]; omega), memL_get _ _ c3]
        unfold putF; rw [if_neg (by omega)]
      · rw [List.getElem?_append_right (by rw [memL_length]; omega), List.getElem?_append_right (by rw [memL_length]; omega), memL_length, memL_length]
theorem copy_mem {w : World} {g a cap m : Nat} {f : Nat → UInt8} {rest : List UInt8} (s : ByteArray) (hg : w.heap[g]? = some (.cells (bytesV (memL f ++ rest)) 5 (0, 0))) (h : a + s.size ≤ 32768) (hm : s.size ≤ m) :
    (Builtin.copy_ #[84, 9] 3 #[.slice (some ⟨g, a, none⟩) m cap, .string s]).run Tryz.prog w = .ok (goInt (s.size : Nat)) (w.setRow g (bytesV (memL (putF f a s.data.toList) ++ rest))) := by
  have hn : Nat.min s.size m = s.size := Nat.min_eq_left hm
  have hl : s.data.toList.length = s.size := rfl
  have key := row_copy_str (P := Tryz.prog) w 84 9 3 5 g a m cap s (memL f ++ rest) 5 Tryz.underlying84 (by kernel_rfl) hg (by rw [hn, List.length_append, memL_length]; omega)
  rw [hn] at key
  rw [key]
  have e : s.data.toList.take s.size = s.data.toList := List.take_of_length_le (by omega)
  have e2 := put_row f rest s.data.toList a (by omega)
  rw [hl] at e2
  rw [e, e2]
theorem IsMem.set {w : World} {p g : Nat} {T : TypeId} {f f' : Nat → UInt8} {rest : List UInt8} (hne : p ≠ g)
    (hp : w.heap[p]? = some (.cells #[.slice (some ⟨g, 0, none⟩) 32768 (32768 + rest.length)] T (0, 0))) (hg : w.heap[g]? = some (.cells (bytesV (memL f ++ rest)) 5 (0, 0))) :
    IsMem (w.setRow g (bytesV (memL f' ++ rest))) p g T f' :=
  ⟨rest, by rw [setRow_other w g p _ hne]; exact hp, setRow_heap w g _ _ _ _ hg⟩
theorem putF_nil (f : Nat → UInt8) (a : Nat) : putF f a [] = f := by
  funext i; unfold putF; rw [if_neg (by simp)]
set_option maxRecDepth 100000 in
theorem write_no {p : Nat} (a : BitVec 64) (n : Int) (v : BitVec 64) (w : World) (hc : codeOf a n ≠ 0) :
    Calls Tryz.prog 13 #[.pointer (some ⟨p, 0, none⟩), U a, .int .i64 n, U v] w fun e w' => e = .returned (.int .i64 (codeOf a n)) ∧ w = w' := by
  have h1 : (codeOf a n != 0) = true := bne_iff_ne.2 hc
  clear hc
  go_enter Tryz.func13, Tryz.ntmps13
  go_wp2_with (go_at_call 25; refine (check_any _ _ _).mono ?_; rintro e w' ⟨rfl, rfl⟩)
  go_ret
  exact ⟨rfl, rfl⟩
set_option maxRecDepth 100000 in
theorem write_yes {p g : Nat} {f : Nat → UInt8} (a : BitVec 64) (n : Nat) (v : BitVec 64) (w : World) (hM : IsMem w p g 92 f) (hc : codeOf a n = 0) :
    Calls Tryz.prog 13 #[.pointer (some ⟨p, 0, none⟩), U a, .int .i64 n, U v] w fun e w' => e = .returned (.int .i64 0) ∧ Upd w w' g ∧ IsMem w' p g 92 (putF f a.toNat (bytesL v n)) := by
  obtain ⟨hn, hm, ha, hr⟩ := codeOf_zero hc
  have hne := hM.ne
  have hpl := hM.p_lt
  have hgl := hM.g_lt
  obtain ⟨rest, hp, hg⟩ := hM
  have hcell : w.cell? ⟨p, 0, none⟩ = some (.slice (some ⟨g, 0, none⟩) 32768 (32768 + rest.length)) := by simp [World.cell?, hp]
  have hcell2 : ∀ s : Beyond w, s.to.cell? ⟨p, 0, none⟩ = some (.slice (some ⟨g, 0, none⟩) 32768 (32768 + rest.length)) := fun s => by rw [s.ok.cell hpl]; exact hcell
  have hck : Calls Tryz.prog 25 #[U a, .int .i64 n] w fun e w' => e = .returned (.int .i64 0) ∧ w = w' := hc ▸ check_any a n w
  have hsl := slice_run_l g a.toNat 32768 (32768 + rest.length) (by omega) (by omega) .u64
  have hh : held 0 8 (n : Int) = n := by unfold held; rw [if_neg (by omega), if_neg (by omega)]; omega
  have hby := bytes_b v n
  rw [hh] at hby
  have hsz := bytes_len v n (by omega)
  have hcp : ∀ s : Beyond w, (Builtin.copy_ #[84, 9] 3 #[.slice (some ⟨g, a.toNat, none⟩) (32768 - a.toNat) (32768 + rest.length - a.toNat), .string (bytesB v n)]).run Tryz.prog s.to = .ok (goInt ((bytesB v n).size : Nat)) (s.to.setRow g (bytesV (memL (putF f a.toNat (bytesL v n)) ++ rest))) := fun s => by
    have e : (bytesB v n).data.toList = bytesL v n := by simp [bytesB]
    rw [← e]
    exact copy_mem (bytesB v n) (by rw [s.ok.block g hgl]; exact hg) (by omega) (by omega)
  have fin : ∀ s : Beyond w, Upd w (s.to.setRow g (bytesV (memL (putF f a.toNat (bytesL v n)) ++ rest))) g ∧ IsMem (s.to.setRow g (bytesV (memL (putF f a.toNat (bytesL v n)) ++ rest))) p g 92 (putF f a.toNat (bytesL v n)) := fun s =>
    ⟨(Upd.of_below s.ok g).trans (Upd.row _ _ _), IsMem.set hne (by rw [s.ok.block p hpl]; exact hp) (by rw [s.ok.block g hgl]; exact hg)⟩
  have FIN := Lib.hid fin
  have hne2 : ¬ 32768 ≤ a.toNat := by omega
  clear hm hc hp hg hn hh hsz fin hr
  go_enter Tryz.func13, Tryz.ntmps13
  go_wp2_with (go_at_call 25; refine hck.mono ?_; rintro e w' ⟨rfl, rfl⟩)
  refine wp_region_quiet_tail (C := fun w' => ∃ s : Beyond w, w' = s.to) 9 (by kernel_rfl) (by kernel_rfl) ⟨⟨_, (Below.refl _ _).drew⟩, rfl⟩ ?_
  simp only [List.take_succ_cons, List.take_zero, List.drop_succ_cons, List.drop_zero]
  repeat (go_big_quiet_step ((go_at_call 26; with_reducible exact (hby.at_ _))))
  refine wpQuiet_nil ?_
  rintro w1 ⟨s, rfl⟩
  go_wp2
  go_ret
  exact ⟨rfl, FIN.out s⟩
end Go.Proofs.YtfehilinnalflaaGreat
namespace Go.Proofs.YtfehilinnalflaaGreat
open Go.RowKit Go.BigFrame
set_option linter.unusedSimpArgs false
set_option linter.unusedVariables false
set_option maxRecDepth 100000
theorem zero_cells (r : Nat) : Builtin.zeroCells #[Value.int .u8 0] r = bytesV (List.replicate r 0) := by
  apply Array.ext_getElem?
  intro i
  unfold Builtin.zeroCells bytesV
  by_cases h : i < r
  · simp [h, Nat.mod_one]
  · rw [Array.getElem?_eq_none (by rw [Array.size_map, Array.size_range]; simp; omega), Array.getElem?_eq_none (by rw [List.size_toArray, List.length_map, List.length_replicate]; omega)]
theorem bytesV_append (a b : List UInt8) : bytesV a ++ bytesV b = bytesV (a ++ b) := by
  unfold bytesV; rw [List.map_append, List.append_toArray]
end Go.Proofs.YtfehilinnalflaaGreat
namespace Go.Proofs.YtfehilinnalflaaGreat
open Go.RowKit Go.BigFrame
set_option linter.unusedSimpArgs false
set_option linter.unusedVariables false
set_option maxRecDepth 100000
set_option maxRecDepth 100000 in
theorem rnew_any (w : World) :
    Calls Tryz.prog 19 #[] w fun e w' => e = .returned (.pointer (some ⟨w.heap.size + 1, 0, none⟩)) ∧
      w' = (w.alloc (.cells (bytesV (memL fun _ => 0)) 5)).alloc (.cells #[.slice (some ⟨w.heap.size, 0, none⟩) 32768 32768] 112) := by
  have hm := run_make_mem
  go_enter Tryz.func19, Tryz.ntmps19
  go_wp2
  go_ret
  exact ⟨rfl, rfl⟩
set_option maxHeartbeats 4000000 in
set_option maxRecDepth 100000 in
theorem rcode_any {p g : Nat} {f : Nat → UInt8} (a : BitVec 64) (n : Int) (w : World) (hM : IsMem w p g 112 f) :
    Calls Tryz.prog 20 #[.pointer (some ⟨p, 0, none⟩), U a, .int .i64 n] w fun e w' => e = .returned (.int .i64 (codeOf a n)) ∧ w = w' := by
  obtain ⟨rest, hp, hg⟩ := hM
  have hcell : w.cell? ⟨p, 0, none⟩ = some (.slice (some ⟨g, 0, none⟩) 32768 (32768 + rest.length)) := by simp [World.cell?, hp]
  clear hp hg
  by_cases hn : n = 1 ∨ n = 2 ∨ n = 4 ∨ n = 8
  · by_cases hm : (a.toNat : Int) % n = 0
    · by_cases hr : 32768 ≤ (a.toNat : Int)
      · have e : codeOf a n = 60 := by unfold codeOf; rw [if_neg (by omega), if_pos (by omega)]
        rw [e]
        clear e
        rcases hn with rfl | rfl | rfl | rfl <;> (go_enter Tryz.func20, Tryz.ntmps20; go_wp2; all_goals go_ret; all_goals exact ⟨rfl, rfl⟩)
      · have e : codeOf a n = 0 := by unfold codeOf; rw [if_neg (by omega), if_neg (by omega)]
        have hr2 : n ≤ 32768 - (a.toNat : Int) := by have := codeOf_zero e; omega
        rw [e]
        clear e
        rcases hn with rfl | rfl | rfl | rfl <;> (go_enter Tryz.func20, Tryz.ntmps20; go_wp2; all_goals go_ret; all_goals exact ⟨rfl, rfl⟩)
    · have e : codeOf a n = 61 := by unfold codeOf; rw [if_pos (Or.inr hm)]
      rw [e]
      clear e
      rcases hn with rfl | rfl | rfl | rfl
      · omega
      all_goals (go_enter Tryz.func20, Tryz.ntmps20; go_wp2; all_goals go_ret; all_goals exact ⟨rfl, rfl⟩)
  · have e : codeOf a n = 61 := by unfold codeOf; rw [if_pos (Or.inl (by omega))]
    rw [e]
    have h1 : (n != 1) = true := bne_iff_ne.2 (by omega)
    have h2 : (n != 2) = true := bne_iff_ne.2 (by omega)
    have h4 : (n != 4) = true := bne_iff_ne.2 (by omega)
    have h8 : (n != 8) = true := bne_iff_ne.2 (by omega)
    clear e hn
    go_enter Tryz.func20, Tryz.ntmps20
    go_wp2
    go_ret
    exact ⟨rfl, rfl⟩
def rowW (w : World) (g : Nat) (f : Nat → UInt8) (rest : List UInt8) (a : Nat) (l : List UInt8) (k : Nat) : World := w.setRow g (bytesV (memL (putF f a (l.take k)) ++ rest))
theorem rowW_zero {w : World} {g : Nat} {f : Nat → UInt8} {rest : List UInt8} (a : Nat) (l : List UInt8) (hg : w.heap[g]? = some (.cells (bytesV (memL f ++ rest)) 5 (0, 0))) : w = rowW w g f rest a l 0 := by
  unfold rowW; rw [List.take_zero, putF_nil, setRow_self w g _ _ _ hg]
theorem memV_get (f : Nat → UInt8) (rest : List UInt8) (k : Nat) (hk : k < 32768) : (bytesV (memL f ++ rest))[k]? = some (.int .u8 ((f k).toNat : Int)) := by
  rw [bytesV_get _ k (by rw [List.length_append, memL_length]; omega), List.getElem_append_left (by rw [memL_length]; omega)]
  have e := memL_get f k hk
  rw [List.getElem?_eq_getElem (by rw [memL_length]; omega)] at e
  rw [Option.some.inj e]
theorem memL_set (f : Nat → UInt8) (i : Nat) (b : UInt8) (hi : i < 32768) (rest : List UInt8) : (bytesV (memL f ++ rest)).setIfInBounds i (.int .u8 (b.toNat : Int)) = bytesV (memL (fun k => if k = i then b else f k) ++ rest) := by
  apply Array.ext_getElem?
  intro k
  rw [Array.getElem?_setIfInBounds, bytesV_size, List.length_append, memL_length]
  by_cases hk : k < 32768
  · rw [memV_get _ _ k hk, memV_get _ _ k hk]
    by_cases hki : i = k
    · subst hki; rw [if_pos rfl, if_pos (by omega), if_pos rfl]
    · rw [if_neg hki, if_neg (fun h => hki h.symm)]
  · rw [if_neg (by omega)]
    unfold bytesV
    simp only [List.getElem?_toArray, List.getElem?_map]
    rw [List.getElem?_append_right (by rw [memL_length]; omega), List.getElem?_append_right (by rw [memL_length]; omega), memL_length, memL_length]
theorem putF_snoc (f : Nat → UInt8) (a : Nat) (l : List UInt8) (b : UInt8) : putF f a (l ++ [b]) = fun k => if k = a + l.length then b else putF f a l k := by
  funext k
  unfold putF
  rw [List.length_append, List.length_singleton]
  by_cases h : k = a + l.length
  · subst h
    rw [if_pos rfl, if_pos (by omega), List.getD_eq_getElem?_getD, List.getElem?_append_right (by omega), show a + l.length - a - l.length = 0 by omega]; rfl
  · rw [if_neg h]
    by_cases h2 : a ≤ k ∧ k < a + l.length
    · rw [if_pos h2, if_pos (by omega), List.getD_eq_getElem?_getD, List.getD_eq_getElem?_getD, List.getElem?_append_left (by omega)]
    · rw [if_neg h2, if_neg (by omega)]
theorem rowW_step {w : World} {g : Nat} {f : Nat → UInt8} {rest : List UInt8} (a : Nat) (l : List UInt8) (hg : w.heap[g]? = some (.cells (bytesV (memL f ++ rest)) 5 (0, 0))) (k : Nat) (hk : k < l.length) (hl : a + l.length ≤ 32768) :
    (rowW w g f rest a l k).setCell ⟨g, a + k, none⟩ (.int .u8 ((l[k]).toNat : Int)) = rowW w g f rest a l (k + 1) := by
  have h2 : (rowW w g f rest a l k).heap[g]? = some (.cells (bytesV (memL (putF f a (l.take k)) ++ rest)) 5 (0, 0)) := setRow_heap w g _ _ _ _ hg
  rw [setCell_eq_setRow _ g (a + k) _ _ _ _ h2, memL_set _ _ _ (by omega)]
  unfold rowW
  rw [setRow_setRow, List.take_succ_eq_append_getElem hk, putF_snoc, List.length_take, Nat.min_eq_left (by omega)]
theorem rowW_cell {w : World} {g : Nat} {f : Nat → UInt8} {rest : List UInt8} (a : Nat) (l : List UInt8) (hg : w.heap[g]? = some (.cells (bytesV (memL f ++ rest)) 5 (0, 0))) (k i : Nat) (hi : i < 32768) :
    ∃ v, (rowW w g f rest a l k).cell? ⟨g, i, none⟩ = some v ∧ (rowW w g f rest a l k).frozen? ⟨g, i, none⟩ = false := by
  have h2 : (rowW w g f rest a l k).heap[g]? = some (.cells (bytesV (memL (putF f a (l.take k)) ++ rest)) 5 (0, 0)) := setRow_heap w g _ _ _ _ hg
  have h3 : (rowW w g f rest a l k).frozen? ⟨g, i, none⟩ = false := by simp [World.frozen?, h2]
  have h4 : (rowW w g f rest a l k).cell? ⟨g, i, none⟩ = some (.int .u8 ((putF f a (l.take k) i).toNat : Int)) := by
    simp only [World.cell?, h2]
    rw [if_neg (by simp), memV_get _ _ i hi]
  exact ⟨_, h4, h3⟩
theorem rowW_head {w : World} {p g : Nat} {o : Obj} {f : Nat → UInt8} {rest : List UInt8} (a : Nat) (l : List UInt8) (hp : w.heap[p]? = some o) (hne : p ≠ g) (k : Nat) : (rowW w g f rest a l k).heap[p]? = some o := by
  unfold rowW; rw [setRow_other _ _ _ _ hne]; exact hp
theorem rowW_fin {w : World} {p g : Nat} {T : TypeId} {f : Nat → UInt8} {rest : List UInt8} (a : Nat) (l : List UInt8) (hne : p ≠ g)
    (hp : w.heap[p]? = some (.cells #[.slice (some ⟨g, 0, none⟩) 32768 (32768 + rest.length)] T (0, 0))) (hg : w.heap[g]? = some (.cells (bytesV (memL f ++ rest)) 5 (0, 0))) (d : Nat) :
    Upd w ((rowW w g f rest a l l.length).drewN d) g ∧ IsMem ((rowW w g f rest a l l.length).drewN d) p g T (putF f a l) := by
  refine ⟨(Upd.row w g _).trans ⟨rfl, rfl, rfl, Nat.le_refl _, fun _ _ _ => rfl⟩, ?_⟩
  have h := IsMem.set (f' := putF f a (l.take l.length)) hne hp hg
  rw [List.take_length] at h
  obtain ⟨r, h1, h2⟩ := h
  refine ⟨r, ?_, ?_⟩
  · show (rowW w g f rest a l l.length).heap[p]? = _; unfold rowW; rw [List.take_length]; exact h1
  · show (rowW w g f rest a l l.length).heap[g]? = _; unfold rowW; rw [List.take_length]; exact h2
set_option maxHeartbeats 1000000 in
set_option maxRecDepth 100000 in
theorem rwrite_any {p g : Nat} {f : Nat → UInt8} (a : BitVec 64) (n : Nat) (v : BitVec 64) (w : World) (hM : IsMem w p g 112 f) (hc : codeOf a n = 0) :
    Calls Tryz.prog 21 #[.pointer (some ⟨p, 0, none⟩), U a, .int .i64 n, U v] w fun e w' => e = .returned (.tuple #[]) ∧ Upd w w' g ∧ IsMem w' p g 112 (putF f a.toNat (bytesL v n)) := by
  obtain ⟨hn, hm, ha, hr⟩ := codeOf_zero hc
  have hne := hM.ne
  obtain ⟨rest, hp, hg⟩ := hM
  have hlen := bytesL_length v n (by omega)
  obtain ⟨l, hl⟩ : ∃ l, l = bytesL v n := ⟨_, rfl⟩
  have hll : l.length = n := by rw [hl]; exact hlen
  have hby : ∀ k (h : k < l.length), ((l[k]).toNat : Int) = (v.toNat : Int) / 2 ^ (8 * k) % 256 := fun k h => by
    rw [byte_val]
    have e : l[k]? = some (byteU v k) := by
      rw [hl]; unfold bytesL
      rw [List.getElem?_take, if_pos (by omega), List.getElem?_map, List.getElem?_range (by omega)]; rfl
    rw [List.getElem?_eq_getElem h] at e
    rw [Option.some.inj e]
  have FIN := Lib.hid (rowW_fin (f := f) (w := w) a.toNat l hne hp hg)
  have STEP := Lib.hid (fun k hk => rowW_step (f := f) a.toNat l hg k hk (by omega))
  have CELL := Lib.hid (fun k i hi => rowW_cell (f := f) a.toNat l hg k i hi)
  have HEAD := Lib.hid (fun k => rowW_head (f := f) (rest := rest) a.toNat l hp hne k)
  have ZERO := Lib.hid (rowW_zero a.toNat l hg)
  have HL := Lib.hid hll
  have BY := Lib.hid hby
  rw [← hl]
  have hn8 : (n : Int) ≤ 8 := by omega
  clear hl hll hby hlen hp hg hm hc hn
  go_enter Tryz.func21, Tryz.ntmps21
  go_wp2
  go_loopw [8] (fun i wr => ∃ k : Nat, k ≤ n ∧ i = .int .i64 k ∧ wr = rowW w g f rest a.toNat l k) (fun i _ => n - (intOf i).toNat)
  case atStart => exact ⟨0, by omega, rfl, ZERO.out⟩
  case round =>
    obtain ⟨k, hk, rfl, hwr⟩ := hrel
    by_cases hkn : k < n
    · have hh : wr.cell? ⟨p, 0, none⟩ = some (.slice (some ⟨g, 0, none⟩) 32768 (32768 + rest.length)) := by rw [hwr]; simp [World.cell?, HEAD.out k]
      obtain ⟨old, hc1, hc2⟩ := CELL.out k (a.toNat + k) (by omega)
      rw [← hwr] at hc1 hc2
      have HWR := Lib.hid hwr
      clear hwr
      go_wp2
      go_roundw
      case rel =>
        refine ⟨k + 1, by omega, by go_num, ?_⟩
        rw [HWR.out, ← STEP.out k (by rw [HL.out]; exact hkn), BY.out]
      case measure => simp [intOf]; omega
    · obtain rfl : k = n := by omega
      have HWR := Lib.hid hwr
      clear hwr
      go_wp2
      go_end0
      refine ⟨rfl, ?_⟩
      have h := FIN.out 0
      rw [HL.out] at h
      rw [HWR.out]
      exact h
end Go.Proofs.YtfehilinnalflaaGreat
namespace Go.Proofs.YtfehilinnalflaaGreat
open Go.RowKit Go.BigFrame
set_option linter.unusedSimpArgs false
set_option linter.unusedVariables false
set_option maxRecDepth 100000
def rdF (f : Nat → UInt8) (a : BitVec 64) (n : Int) : BitVec 64 := if codeOf a n = 0 then readF f a.toNat n else 0#64
def wrF (f : Nat → UInt8) (a : BitVec 64) (n : Int) (v : BitVec 64) : Nat → UInt8 := if codeOf a n = 0 then putF f a.toNat (bytesL v n.toNat) else f
theorem Below.of_drew {w : World} (k : Nat) : Below w.heap.size w (w.drewN k) := ⟨rfl, rfl, rfl, Nat.le_refl _, fun _ _ => rfl⟩
theorem read_all {p g : Nat} {f : Nat → UInt8} (a : BitVec 64) (n : Int) (w : World) (hM : IsMem w p g 92 f) :
    Calls Tryz.prog 170 #[.pointer (some ⟨p, 0, none⟩), U a, .int .i64 n] w fun e w' => e = .returned (.tuple #[U (rdF f a n), .int .i64 (codeOf a n)]) ∧ Below w.heap.size w w' := by
  by_cases hc : codeOf a n = 0
  · obtain ⟨hn, _⟩ := codeOf_zero hc
    obtain ⟨m, rfl⟩ : ∃ m : Nat, n = (m : Int) := ⟨n.toNat, by omega⟩
    unfold rdF
    rw [if_pos hc, hc]
    exact read_yes a m w hM hc
  · unfold rdF
    rw [if_neg hc]
    exact (read_no (g := g) (f := f) a n w hc).mono fun e w' ⟨h1, h2⟩ => ⟨h1, by rw [h2]; exact Below.refl _ _⟩
theorem write_all {p g : Nat} {f : Nat → UInt8} (a : BitVec 64) (n : Int) (v : BitVec 64) (w : World) (hM : IsMem w p g 92 f) :
    Calls Tryz.prog 13 #[.pointer (some ⟨p, 0, none⟩), U a, .int .i64 n, U v] w fun e w' => e = .returned (.int .i64 (codeOf a n)) ∧ Upd w w' g ∧ IsMem w' p g 92 (wrF f a n v) := by
  by_cases hc : codeOf a n = 0
  · obtain ⟨hn, _⟩ := codeOf_zero hc
    obtain ⟨m, rfl⟩ : ∃ m : Nat, n = (m : Int) := ⟨n.toNat, by omega⟩
    unfold wrF
    rw [if_pos hc, hc, Int.toNat_natCast]
    exact write_yes a m v w hM hc
  · unfold wrF
    rw [if_neg hc]
    exact (write_no a n v w hc).mono fun e w' ⟨h1, h2⟩ => ⟨h1, by rw [← h2]; exact ⟨Upd.of_below (Below.refl _ _) _, hM⟩⟩
def NewPost (T : TypeId) (w : World) (e : Ending) (w' : World) : Prop :=
  ∃ p g, e = .returned (.pointer (some ⟨p, 0, none⟩)) ∧ w.heap.size ≤ p ∧ w.heap.size ≤ g ∧ p < w'.heap.size ∧ g < w'.heap.size ∧ IsMem w' p g T (fun _ => 0) ∧ Below w.heap.size w w'
theorem new_post {w w' : World} {T : TypeId} {e : Ending} (h1 : e = .returned (.pointer (some ⟨w.heap.size + 1, 0, none⟩)))
    (h2 : w' = (w.alloc (.cells (bytesV (memL fun _ => 0)) 5)).alloc (.cells #[.slice (some ⟨w.heap.size, 0, none⟩) 32768 32768] T)) : NewPost T w e w' := by
  have hp : w'.heap[w.heap.size + 1]? = some (.cells #[.slice (some ⟨w.heap.size, 0, none⟩) 32768 (32768 + 0)] T (0, 0)) := by
    rw [h2, show w.heap.size + 1 = (w.alloc (.cells (bytesV (memL fun _ => 0)) 5)).heap.size by simp]; exact (MapKept.heap_alloc _ _).1
  have hg : w'.heap[w.heap.size]? = some (.cells (bytesV ((memL fun _ => 0) ++ [])) 5 (0, 0)) := by
    rw [List.append_nil, h2, Below.heap_alloc _ _ _ (by simp)]; exact (MapKept.heap_alloc _ _).1
  exact ⟨w.heap.size + 1, w.heap.size, h1, by omega, by omega, blk_lt hp, blk_lt hg, ⟨[], hp, hg⟩, by rw [h2]; exact ((Below.refl _ _).alloc (Nat.le_refl _) _).alloc (by simp) _⟩
theorem new_all (w : World) : Calls Tryz.prog 18 #[] w (NewPost 92 w) := (new_any w).mono fun _ _ ⟨h1, h2⟩ => new_post h1 h2
theorem rnew_all (w : World) : Calls Tryz.prog 19 #[] w (NewPost 112 w) := (rnew_any w).mono fun _ _ ⟨h1, h2⟩ => new_post h1 h2
theorem HBstep {w0 w w' : World} (h : Below w0.heap.size w0 w) (k : Below w.heap.size w w') : Below w0.heap.size w0 w' := h.trans (k.mono h.size)
end Go.Proofs.YtfehilinnalflaaGreat
namespace Go.Proofs.YtfehilinnalflaaGreat
open Go.RowKit Go.BigFrame
set_option linter.unusedSimpArgs false
set_option linter.unusedVariables false
set_option maxRecDepth 100000
def RowAt (w : World) (B : Nat) (k : Option Nat) (v : Value) (l : List UInt8) : Prop :=
  match k with
  | none => v = .slice none 0 0 ∧ l = []
  | some g => ∃ o cap pre rest, v = .slice (some ⟨g, o, none⟩) l.length cap ∧ w.heap[g]? = some (.cells (bytesV (pre ++ l ++ rest)) 5 (0, 0)) ∧ pre.length = o ∧ cap ≤ l.length + rest.length ∧ l.length ≤ cap ∧ B ≤ g ∧ cap ≤ maxLen
def busA (p : Nat) (t al : BitVec 64) (vs : Nat → Value) (ns : Nat → Int) : Array Value :=
  #[.pointer (some ⟨p, 0, none⟩), U t, U al, vs 0, vs 1, .int .i64 (ns 0), vs 2, vs 3, .int .i64 (ns 1), vs 4, vs 5, .int .i64 (ns 2), vs 6, vs 7, .int .i64 (ns 3)]
structure BusV where
  f : Nat → UInt8
  t : BitVec 64
  al : BitVec 64
  ls : Nat → List UInt8
  ns : Nat → Int
  nil : Nat → Bool
structure IsBus (w : World) (B b p g : Nat) (ks : Nat → Option Nat) (vs : Nat → Value) (S : BusV) : Prop where
  blk : w.heap[b]? = some (.cells (busA p S.t S.al vs S.ns) 89 (0, 0))
  mem : IsMem w p g 92 S.f
  row : ∀ i, i < 8 → RowAt w B (ks i) (vs i) (S.ls i)
  dis : ∀ i j k, i < 8 → j < 8 → ks i = some k → ks j = some k → i = j
  far : ∀ i, i < 8 → ks i ≠ some g ∧ ks i ≠ some b ∧ ks i ≠ some p
  lb : B ≤ b
  lp : B ≤ p
  lg : B ≤ g
  bp : b ≠ p
  bg : b ≠ g
  nl : ∀ i, i < 8 → S.nil i = true → ks i = none
def Bus (w : World) (B b : Nat) (S : BusV) : Prop := ∃ p g ks vs, IsBus w B b p g ks vs S
theorem RowAt.lt {w : World} {B g : Nat} {v : Value} {l : List UInt8} (h : RowAt w B (some g) v l) : g < w.heap.size := by obtain ⟨o, cap, pre, rest, _, h, _⟩ := h; exact blk_lt h
theorem RowAt.same {w w' : World} {B : Nat} {k : Option Nat} {v : Value} {l : List UInt8} (h : RowAt w B k v l) (hb : ∀ g, k = some g → g < w.heap.size → w'.heap[g]? = w.heap[g]?) : RowAt w' B k v l := by
  cases k with
  | none => exact h
  | some g =>
    have hl := h.lt
    obtain ⟨o, cap, pre, rest, h1, h2, h3⟩ := h
    exact ⟨o, cap, pre, rest, h1, by rw [hb g rfl hl]; exact h2, h3⟩
theorem IsBus.below {w w' : World} {B b p g : Nat} {ks : Nat → Option Nat} {vs : Nat → Value} {S : BusV} (h : IsBus w B b p g ks vs S) (u : Below w.heap.size w w') : IsBus w' B b p g ks vs S :=
  { h with
    blk := by rw [u.block b (blk_lt h.blk)]; exact h.blk
    mem := h.mem.below u
    row := fun i hi => (h.row i hi).same fun g _ hg => u.block g hg }
theorem Bus.below {w w' : World} {B b : Nat} {S : BusV} (h : Bus w B b S) (u : Below w.heap.size w w') : Bus w' B b S := by
  obtain ⟨p, g, ks, vs, h⟩ := h; exact ⟨p, g, ks, vs, h.below u⟩
theorem set_block {w : World} {b j : Nat} {cs : Array Value} {T : TypeId} {v : Value} (h : w.heap[b]? = some (.cells cs T (0, 0))) (hj : j < cs.size) :
    (w.setCell ⟨b, j, none⟩ v).heap[b]? = some (.cells (cs.set! j v) T (0, 0)) := by
  have hlt := blk_lt h
  have h' : w.heap[b] = .cells cs T (0, 0) := by simpa [Array.getElem?_eq_getElem hlt] using h
  show (w.heap.modify b _)[b]? = _
  rw [Array.getElem?_eq_getElem (by simpa using hlt), Array.getElem_modify_self, h']
  simp
theorem set_other (w : World) (b j k : Nat) (v : Value) (h : k ≠ b) : (w.setCell ⟨b, j, none⟩ v).heap[k]? = w.heap[k]? := by
  show (w.heap.modify b _)[k]? = _
  rw [Array.getElem?_modify, if_neg (fun e => h e.symm)]
theorem set_upd (w : World) (b j : Nat) (v : Value) : Upd w (w.setCell ⟨b, j, none⟩ v) b :=
  ⟨rfl, rfl, rfl, by show _ ≤ (w.heap.modify b _).size; simp, fun k _ h => set_other w b j k v h⟩
theorem IsBus.turn {w w' : World} {B b p g : Nat} {ks : Nat → Option Nat} {vs : Nat → Value} {S : BusV} (h : IsBus w B b p g ks vs S) (u : Upd w w' b) (t al : BitVec 64) (ns : Nat → Int)
    (hb : w'.heap[b]? = some (.cells (busA p t al vs ns) 89 (0, 0))) : IsBus w' B b p g ks vs { S with t := t, al := al, ns := ns } :=
  { h with
    blk := hb
    mem := h.mem.upd u (fun e => h.bp e.symm) (fun e => h.bg e.symm)
    row := fun i hi => (h.row i hi).same fun k hk hl => u.block k hl (fun e => (h.far i hi).2.1 (by rw [hk, e])) }
theorem IsBus.cell {w : World} {B b p g : Nat} {ks : Nat → Option Nat} {vs : Nat → Value} {S : BusV} (h : IsBus w B b p g ks vs S) (j : Nat) : w.cell? ⟨b, j, none⟩ = (busA p S.t S.al vs S.ns)[j]? := by
  simp [World.cell?, h.blk]
theorem IsBus.free {w : World} {B b p g : Nat} {ks : Nat → Option Nat} {vs : Nat → Value} {S : BusV} (h : IsBus w B b p g ks vs S) (j : Nat) : w.frozen? ⟨b, j, none⟩ = false := by
  simp [World.frozen?, h.blk]
theorem aload (b j : Nat) (x : BitVec 64) (w : World) (hc : w.cell? ⟨b, j, none⟩ = some (U x)) :
    Calls Tryz.prog 90 #[.pointer (some ⟨b, j, none⟩)] w fun e w' => e = .returned (U x) ∧ w = w' := by
  have hl := run_call_load (P := Tryz.prog) Tryz.func131 (by kernel_rfl) (by kernel_rfl) (by kernel_rfl) .u64 (by kernel_rfl) hc
  go_enter Tryz.func90, Tryz.ntmps90
  go_wp2
  go_ret
  exact ⟨rfl, rfl⟩
theorem astore (b j : Nat) (x y : BitVec 64) (w : World) (hc : w.cell? ⟨b, j, none⟩ = some (U x)) (hz : w.frozen? ⟨b, j, none⟩ = false) :
    Calls Tryz.prog 63 #[.pointer (some ⟨b, j, none⟩), U y] w fun e w' => e = .returned (.tuple #[]) ∧ w' = w.setCell ⟨b, j, none⟩ (U y) := by
  have hl := run_call_store (P := Tryz.prog) Tryz.func85 (by kernel_rfl) (by kernel_rfl) (by kernel_rfl) (by kernel_rfl) (k := .u64) (y := (y.toNat : Int)) hc hz
  go_enter Tryz.func63, Tryz.ntmps63
  go_wp2
  go_end0
  exact ⟨rfl, rfl⟩
theorem bport (b k : Nat) (w : World) (hk : k < 4) :
    Calls Tryz.prog 216 #[.pointer (some ⟨b, 0, none⟩), .int .u64 (k : Int)] w fun e w' => e = .returned (.pointer (some ⟨b, 3 + 3 * k, none⟩)) ∧ w = w' := by
  have h : k = 0 ∨ k = 1 ∨ k = 2 ∨ k = 3 := by omega
  rcases h with rfl | rfl | rfl | rfl <;>
  (go_enter Tryz.func216, Tryz.ntmps216
   go_wp2
   go_ret
   exact ⟨rfl, rfl⟩)
theorem bport_no (b : Nat) (k : Int) (w : World) (hk : 4 ≤ k) :
    Calls Tryz.prog 216 #[.pointer (some ⟨b, 0, none⟩), .int .u64 k] w fun e w' => e = .returned (.pointer none) ∧ w = w' := by
  go_enter Tryz.func216, Tryz.ntmps216
  go_wp2
  go_ret
  exact ⟨rfl, rfl⟩
end Go.Proofs.YtfehilinnalflaaGreat
namespace Go.Proofs.YtfehilinnalflaaGreat
open Go.RowKit Go.BigFrame
set_option linter.unusedSimpArgs false
set_option linter.unusedVariables false
set_option maxRecDepth 100000
structure St where
  x : Nat → BitVec 64
  pc : BitVec 64
  lev : Int
  v : Bool
  c : Nat → BitVec 64
  done : BitVec 64
def stL (S : St) : List Value := ((List.range 32).map fun i => U (S.x i)) ++ [U S.pc, .int .i64 S.lev, .bool S.v] ++ ((List.range 29).map fun i => U (S.c i)) ++ [U S.done]
def stA (S : St) : Array Value := (stL S).toArray
theorem stA_size (S : St) : (stA S).size = 65 := by unfold stA stL; simp
theorem stA_x (S : St) (i : Nat) (h : i < 32) : (stA S)[i]? = some (U (S.x i)) := by
  unfold stA stL
  simp only [List.getElem?_toArray, List.append_assoc]
  rw [List.getElem?_append_left (by simp; omega), List.getElem?_map, List.getElem?_range h]; rfl
theorem stA_mid (S : St) (i : Nat) (h : i < 33) : (stA S)[32 + i]? = ([U S.pc, .int .i64 S.lev, .bool S.v] ++ ((List.range 29).map fun i => U (S.c i)) ++ [U S.done])[i]? := by
  unfold stA stL
  simp only [List.getElem?_toArray, List.append_assoc]
  rw [List.getElem?_append_right (by simp), List.length_map, List.length_range, Nat.add_sub_cancel_left]
theorem stA_pc (S : St) : (stA S)[32]? = some (U S.pc) := stA_mid S 0 (by omega)
theorem stA_lev (S : St) : (stA S)[33]? = some (.int .i64 S.lev) := stA_mid S 1 (by omega)
theorem stA_v (S : St) : (stA S)[34]? = some (.bool S.v) := stA_mid S 2 (by omega)
theorem stA_c (S : St) (i : Nat) (h : i < 29) : (stA S)[35 + i]? = some (U (S.c i)) := by
  have := stA_mid S (3 + i) (by omega)
  rw [show 35 + i = 32 + (3 + i) by omega, this, List.append_assoc, List.getElem?_append_right (by simp), show 3 + i - [U S.pc, Value.int IntKind.i64 S.lev, Value.bool S.v].length = i by simp, List.getElem?_append_left (by simp; omega), List.getElem?_map, List.getElem?_range h]; rfl
theorem stA_done (S : St) : (stA S)[64]? = some (U S.done) := stA_mid S 32 (by omega)
def HasSt (w : World) (b : Nat) (S : St) : Prop := w.heap[b]? = some (.cells (stA S) 37 (0, 0))
theorem HasSt.lt {w : World} {b : Nat} {S : St} (h : HasSt w b S) : b < w.heap.size := (Array.getElem?_eq_some_iff.1 h).1
theorem HasSt.below {w w' : World} {b : Nat} {S : St} (h : HasSt w b S) (k : Below w.heap.size w w') : HasSt w' b S := (k.block b h.lt).trans h
theorem HasSt.cell {w : World} {b : Nat} {S : St} (h : HasSt w b S) {j : Nat} {v : Value} (hv : (stA S)[j]? = some v) : w.cell? ⟨b, j, none⟩ = some v := by
  unfold HasSt at h; simp [World.cell?, h, hv]
theorem HasSt.free {w : World} {b : Nat} {S : St} (h : HasSt w b S) (j : Nat) : w.frozen? ⟨b, j, none⟩ = false := by
  unfold HasSt at h; simp [World.frozen?, h]
theorem HasSt.new (w : World) (S : St) : HasSt (w.alloc (.cells (stA S) 37)) w.heap.size S := (MapKept.heap_alloc w _).1
theorem infoSt : (Tryz.prog.info? 37).map (·.size) = some 65 := by kernel_rfl
theorem wpList_load_st {ops : Array Oper} {rest : List Oper} {o : Oper} {a : Act} {w : World} {Q : Exit → Act → World → Prop} {g : Nat} {S : St} {x : Operand} (hg : HasSt w g S)
    (hx : a.eval x = .pointer (some ⟨g, 0, none⟩)) (ho : o.op = .load 37 x) (hw : Region.wanted o (yielded ops a.tmps) = true)
    (h : wpList Tryz.prog ops Q rest (a.put o.dst (.agg (stA S))) w) : wpList Tryz.prog ops Q (o :: rest) a w :=
  wpList_step fun K hK => by
    simp only [hw, if_true]
    exact wp_load_row 37 x ho g hx _ _ _ _ hg Tryz.underlying37 rfl (by rw [stA_size]; exact infoSt) (hK _ _ h)
theorem quiet_load_st {o : Oper} {a : Act} {W : World} {K : Act → Prop} {g : Nat} {S : St} {x : Operand} (hg : HasSt W g S)
    (hx : a.eval x = .pointer (some ⟨g, 0, none⟩)) (ho : o.op = .load 37 x)
    (hk : K (a.put o.dst (.agg (stA S)))) : o.quiet Tryz.prog a (fun w' => ∃ s : Beyond W, w' = s.to) K :=
  ⟨.agg (stA S), fun w' ⟨s, hs⟩ => by
    subst hs
    unfold Oper.quietAt execOp
    simp only [ho, hx, Instr.loadAt, Instr.sureAddr, Sem.run_bind, Sem.run_pure, Result.andThen_ok, run_loadVar_row (P := Tryz.prog) s.to g 37 37 (stA S) (0, 0) _ (hg.below s.ok) Tryz.underlying37 rfl (by rw [stA_size]; exact infoSt)]
    exact ⟨rfl, rfl⟩, hk⟩
end Go.Proofs.YtfehilinnalflaaGreat
namespace Go.Proofs.YtfehilinnalflaaGreat
open Go.RowKit Go.BigFrame
set_option linter.unusedSimpArgs false
set_option linter.unusedVariables false
set_option maxRecDepth 100000
theorem loOf_nat (k : Nat) (h : k < 64) : loOf (k : Int) = k := by
  unfold loOf held; rw [if_neg (by omega), if_neg (by omega)]; omega
theorem nOf_one (k : Nat) (h : k < 64) : nOf (k : Int) 1 = 1 := by
  unfold nOf held; rw [loOf_nat k h]; rw [if_neg (by omega)]; split <;> omega
theorem bit_one (v : BitVec 64) (k : Nat) : (bitsB v k 1 == 1#64) = v.getLsbD k := by
  have hb : bitsB v k 1 = if v.getLsbD k then 1#64 else 0#64 := by
    apply BitVec.eq_of_getLsbD_eq
    intro i hi
    rw [bits_bit]
    by_cases i0 : i = 0
    · subst i0
      cases v.getLsbD k <;> simp
    · have : ¬ i < 1 := by omega
      cases v.getLsbD k <;> simp [this, i0]
  rw [hb]
  cases v.getLsbD k <;> rfl
theorem cbit_b (S : St) (i k : Nat) (h : i < 29) (hk : k < 64) : Gives Tryz.prog 88 #[.agg (stA S), .int .i64 (i : Int), .int .i64 (k : Int)] (.bool ((S.c i).getLsbD k)) := by
  intro w
  have sz := stA_size S
  have c0 := (HasSt.new w S).cell (stA_c S i h)
  have s := bits_b (S.c i) k 1
  rw [loOf_nat k hk, nOf_one k hk] at s
  have hb : Below w.heap.size w (w.alloc (.cells (stA S) 37)) := (Below.refl _ _).alloc (Nat.le_refl _) _
  have HB := Lib.hid hb
  have e2 := bit_one (S.c i) k
  rw [← e2]
  generalize bitsB (S.c i) k 1 = r at *
  have e := Lib.hid (u_beq r 1#64)
  clear hb e2
  go_enter Tryz.func88, Tryz.ntmps88
  go_wp2_with fail
  (with_reducible refine (s.run _).mono ?_)
  rintro e' w' ⟨rfl, hb⟩
  go_wp2
  go_ret
  exact ⟨ret_b e.out, HBstep HB.out hb⟩
def oneB (ks : List Nat) : BitVec 64 := ks.foldl (fun v k => v ||| 1#64 <<< k) 0#64
theorem oneB_snoc (ks : List Nat) (k : Nat) : oneB (ks ++ [k]) = oneB ks ||| 1#64 <<< k := by unfold oneB; rw [List.foldl_append]; rfl
def IntsAt (w : World) (b : Nat) (ks : List Nat) : Prop := ∀ (i k : Nat), ks[i]? = some k → w.cell? ⟨b, i, none⟩ = some (.int .i64 (k : Int)) ∧ k < 64
theorem one_any (b c : Nat) (ks : List Nat) (w : World) (h : IntsAt w b ks) (hn : ks.length ≤ 64) :
    Calls Tryz.prog 120 #[.slice (some ⟨b, 0, none⟩) ks.length c] w fun e w' => e = .returned (U (oneB ks)) ∧ w = w' := by
  have HI := Lib.hid h
  obtain ⟨n, hnn⟩ : ∃ n, n = ks.length := ⟨_, rfl⟩
  rw [← hnn] at hn ⊢
  clear h
  go_enter Tryz.func120, Tryz.ntmps120
  go_wp2
  go_loop [3, 8] (fun v i => ∃ m : Nat, m ≤ n ∧ i = .int .i64 m ∧ v = U (oneB (ks.take m))) (fun _ i => n - (intOf i).toNat)
  case atStart => exact ⟨0, by omega, rfl, rfl⟩
  case round =>
    obtain ⟨m, hm, rfl, rfl⟩ := hrel
    by_cases hmn : m < n
    · obtain ⟨k, hk⟩ : ∃ k, ks[m]? = some k := ⟨ks[m]'(by omega), by simp⟩
      obtain ⟨c0, hk64⟩ := HI.out m k hk
      have e1 := u_shl 1#64 k
      rw [show ((1#64).toNat : Int) = 1 from rfl, Int.one_mul] at e1
      have e2 := u_or (oneB (ks.take m)) (1#64 <<< k)
      have e3 : oneB (ks.take (m + 1)) = oneB (ks.take m) ||| 1#64 <<< k := by
        rw [← oneB_snoc]; congr 1; rw [List.take_add_one, hk]; rfl
      rw [← e3] at e2
      generalize ((1#64 <<< k).toNat : Int) = y at e1 e2
      clear e3
      go_wp2
      go_round
      case rel => exact ⟨m + 1, by omega, by go_num, rfl⟩
      case measure => simp [intOf]; omega
    · obtain rfl : m = n := by omega
      have e3 : ks.take m = ks := List.take_of_length_le (by omega)
      go_wp2
      go_ret
      exact ⟨rfl, rfl⟩
def pendB (v : BitVec 64) (t l : Bool) : BitVec 64 := (if t then v ||| 32#64 else v) ||| (if l then 512#64 else 0#64)
theorem pend_b (S : St) (t l : Bool) : Gives Tryz.prog 130 #[.agg (stA S), .bool t, .bool l] (U (pendB (S.c 19) t l)) := by
  intro w
  have sz := stA_size S
  have c0 := (HasSt.new w S).cell (stA_c S 19 (by omega))
  have o5 : ∀ (b : Nat) (w : World), w.cell? ⟨b, 0, none⟩ = some (.int .i64 5) → Calls Tryz.prog 120 #[.slice (some ⟨b, 0, none⟩) 1 1] w fun e w' => e = .returned (U 32#64) ∧ w = w' :=
    fun b w h => one_any b 1 [5] w (fun i k hk => by match i, hk with | 0, hk => cases hk; exact ⟨h, by omega⟩) (by simp)
  have o9 : ∀ (b : Nat) (w : World), w.cell? ⟨b, 0, none⟩ = some (.int .i64 9) → Calls Tryz.prog 120 #[.slice (some ⟨b, 0, none⟩) 1 1] w fun e w' => e = .returned (U 512#64) ∧ w = w' :=
    fun b w h => one_any b 1 [9] w (fun i k hk => by match i, hk with | 0, hk => cases hk; exact ⟨h, by omega⟩) (by simp)
  obtain ⟨v, hv⟩ : ∃ v, v = S.c 19 := ⟨_, rfl⟩
  rw [← hv] at c0 ⊢
  have e1 := u_or v 32#64
  have e2 := u_or v 512#64
  have e3 := u_or (v ||| 32#64) 512#64
  have hb : Below w.heap.size w (w.alloc (.cells (stA S) 37)) := (Below.refl _ _).alloc (Nat.le_refl _) _
  have hb1 : ∀ o, Below w.heap.size w ((w.alloc (.cells (stA S) 37)).alloc o) := fun o => hb.alloc (by simp) _
  have hb2 : ∀ o o', Below w.heap.size w (((w.alloc (.cells (stA S) 37)).alloc o).alloc o') := fun o o' => (hb1 o).alloc (by simp; omega) _
  have HB := Lib.hid (And.intro hb (And.intro hb1 hb2))
  have O5 := Lib.hid o5
  have O9 := Lib.hid o9
  clear hb hb1 hb2 hv o5 o9
  rw [show ((32#64).toNat : Int) = 32 from rfl] at e1
  rw [show ((512#64).toNat : Int) = 512 from rfl] at e2 e3
  obtain ⟨r1, hr1⟩ : ∃ r, r = v ||| 32#64 := ⟨_, rfl⟩
  obtain ⟨r2, hr2⟩ : ∃ r, r = v ||| 512#64 := ⟨_, rfl⟩
  obtain ⟨r3, hr3⟩ : ∃ r, r = r1 ||| 512#64 := ⟨_, rfl⟩
  rw [← hr1] at e1 e3
  rw [← hr2] at e2
  rw [← hr3] at e3
  have p00 : pendB v false false = v := by unfold pendB; simp
  have p01 : pendB v false true = r2 := by rw [hr2]; unfold pendB; simp
  have p10 : pendB v true false = r1 := by rw [hr1]; unfold pendB; simp
  have p11 : pendB v true true = r3 := by rw [hr3, hr1]; unfold pendB; simp
  clear hr1 hr2 hr3
  go_enter Tryz.func130, Tryz.ntmps130
  cases t <;> cases l
  · rw [p00]
    go_wp2
    go_ret
    exact ⟨rfl, HB.out.1⟩
  · rw [p01]
    go_wp2_with (go_at_call 120; (with_reducible refine (O9.out _ _ (by go_cell)).mono ?_); rintro e w' ⟨rfl, rfl⟩)
    go_ret
    exact ⟨rfl, HB.out.2.1 _⟩
  · rw [p10]
    go_wp2_with (go_at_call 120; (with_reducible refine (O5.out _ _ (by go_cell)).mono ?_); rintro e w' ⟨rfl, rfl⟩)
    go_ret
    exact ⟨rfl, HB.out.2.1 _⟩
  · rw [p11]
    go_wp2_with fail
    (with_reducible refine (O5.out _ _ (by go_cell)).mono ?_)
    rintro e w' ⟨rfl, rfl⟩
    go_wp2_with fail
    (with_reducible refine (O9.out _ _ (by go_cell)).mono ?_)
    rintro e w' ⟨rfl, rfl⟩
    go_wp2
    go_ret
    exact ⟨rfl, HB.out.2.2 _ _⟩
end Go.Proofs.YtfehilinnalflaaGreat
namespace Go.Proofs.YtfehilinnalflaaGreat
open Go.RowKit Go.BigFrame
set_option linter.unusedSimpArgs false
set_option linter.unusedVariables false
set_option maxRecDepth 100000
def enB (S : St) (t l : Bool) : BitVec 64 := pendB (S.c 19) t l &&& S.c 3
theorem en_b (S : St) (t l : Bool) : Gives Tryz.prog 86 #[.agg (stA S), .bool t, .bool l] (U (enB S t l)) := by
  intro w
  have sz := stA_size S
  have hs := HasSt.new w S
  have c3 := hs.cell (stA_c S 3 (by omega))
  have h1 := pend_b S t l
  have hb : Below w.heap.size w (w.alloc (.cells (stA S) 37)) := (Below.refl _ _).alloc (Nat.le_refl _) _
  have HS := Lib.hid hs
  have HB := Lib.hid hb
  have C3 := Lib.hid c3
  have e : enB S t l = pendB (S.c 19) t l &&& S.c 3 := rfl
  rw [e]
  obtain ⟨x, hx⟩ : ∃ x, x = pendB (S.c 19) t l := ⟨_, rfl⟩
  rw [← hx] at h1 ⊢
  have e2 := u_and x (S.c 3)
  obtain ⟨r, hr⟩ : ∃ r, r = x &&& S.c 3 := ⟨_, rfl⟩
  rw [← hr] at e2 ⊢
  clear hs hb c3 e hr hx
  go_enter Tryz.func86, Tryz.ntmps86
  go_wp2_with fail
  have c3 : ∀ s : Beyond (w.alloc (.cells (stA S) 37)), s.to.cell? ⟨w.heap.size, 38, none⟩ = some (U (S.c 3)) := fun s => (s.ok.cell (p := ⟨w.heap.size, 38, none⟩) HS.out.lt).trans C3.out
  refine wp_region_below (W := w.alloc (.cells (stA S) 37)) (by kernel_rfl) (by kernel_rfl) (Below.refl _ _) ?_
  repeat (first | (go_big_quiet_want; refine quiet_load_st HS.out rfl rfl ?_; go_simp; go_big_quiet_on) | (go_big_quiet_step ((go_at_call 130; with_reducible exact (h1.at_ _)))))
  refine wpQuiet_nil ?_
  intro w2 hb
  go_wp2
  go_ret
  exact ⟨rfl, HBstep HB.out hb⟩
end Go.Proofs.YtfehilinnalflaaGreat
