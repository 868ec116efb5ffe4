/- Contracts of the memory's methods: Read, Write, Lay, Frame. -/
import Derived.Test.YtkjbhjmjfacjcaaMemA
namespace Go.Proofs.Ytkjbhjmjfacjcaa
open Go.RowKit Go.BigFrame
set_option linter.unusedSimpArgs false
set_option linter.unusedVariables false
set_option maxRecDepth 100000

/-- What some bytes are as a number. -/
def readF (f : Nat → UInt8) (a : Nat) (n : Int) : BitVec 64 := joinB (fun k => if (k : Int) < n then BitVec.ofNat 64 (f (a + k)).toNat else 0#64) 8
def strAt (f : Nat → UInt8) (a n : Nat) : ByteArray := ⟨((List.range n).map fun i => f (a + i)).toArray⟩
theorem strAt_size (f : Nat → UInt8) (a n : Nat) : (strAt f a n).size = n := by
  show ((List.range n).map fun i => f (a + i)).toArray.size = n
  rw [List.size_toArray, List.length_map, List.length_range]
theorem strAt_get (f : Nat → UInt8) (a n k : Nat) (h : k < n) : (strAt f a n).data.toList.getD k 0 = f (a + k) := by
  unfold strAt
  rw [List.getD_eq_getElem?_getD, List.getElem?_map, List.getElem?_range h]; rfl
theorem mem_cut (f : Nat → UInt8) (rest : List UInt8) (a n : Nat) (h : a + n ≤ 32768) : ((memL f ++ rest).drop a).take n = (List.range n).map fun i => f (a + i) := by
  apply List.ext_getElem?
  intro i
  rw [List.getElem?_take, List.getElem?_map]
  by_cases c : i < n
  · rw [if_pos c, List.getElem?_drop, List.getElem?_append_left (by rw [memL_length]; omega), memL_get f _ (by omega), List.getElem?_range c]; rfl
  · rw [if_neg c, List.getElem?_eq_none (by rw [List.length_range]; omega)]; rfl
theorem getB_strAt (f : Nat → UInt8) (a n : Nat) (hn : n ≤ 8) : getB (strAt f a n) 0 n = readF f a n := by
  unfold getB readF
  apply join_congr
  intro k hk
  unfold gb gbU
  rw [strAt_size]
  by_cases c : (k : Int) < (n : Int)
  · rw [if_pos ⟨c, by omega, by omega⟩, if_pos c, show ((0 : Int) + (k : Int)).toNat = k by omega, strAt_get f a n k (by omega)]
  · rw [if_neg (by omega), if_neg c]; rfl
theorem slice_run (g lo hi cap : Nat) (h0 : lo ≤ hi) (h1 : hi ≤ cap) (h2 : lo < cap) (k1 k2 : IntKind) (n : Nat) (W : World) :
    (Instr.slice 40 (.slice (some ⟨g, 0, none⟩) n cap) (some (.int k1 (lo : Int))) (some (.int k2 (hi : Int))) none).run Try.prog W = .ok (.slice (some ⟨g, lo, none⟩) (hi - lo) (cap - lo)) W := by
  have ht : Try.prog.underlying 40 = some (.slice (Try.prog.elem 40)) := by kernel_rfl
  have hz : ∀ W, (sizeOf (Try.prog.elem 40)).run Try.prog W = .ok 1 W := fun _ => by kernel_rfl
  rw [run_slice_lh (P := Try.prog) W 40 (some ⟨g, 0, none⟩) n cap ht k1 k2 lo hi (by omega) (by omega) (by omega), hz]
  simp only [Result.andThen, sliced, Int.toNat_natCast]
  rw [if_neg (by omega)]
  congr 1
  simp [Addr.add]
  intro h; exact h.symm
theorem slice_run_l (g lo n cap : Nat) (h0 : lo ≤ n) (h2 : lo < cap) (k1 : IntKind) (W : World) :
    (Instr.slice 40 (.slice (some ⟨g, 0, none⟩) n cap) (some (.int k1 (lo : Int))) none none).run Try.prog W = .ok (.slice (some ⟨g, lo, none⟩) (n - lo) (cap - lo)) W := by
  have ht : Try.prog.underlying 40 = some (.slice (Try.prog.elem 40)) := by kernel_rfl
  have hz : ∀ W, (sizeOf (Try.prog.elem 40)).run Try.prog W = .ok 1 W := fun _ => by kernel_rfl
  rw [run_slice_l (P := Try.prog) W 40 (some ⟨g, 0, none⟩) n cap ht k1 lo (by omega) (by omega), hz]
  simp only [Result.andThen, sliced, Int.toNat_natCast]
  rw [if_neg (by omega)]
  congr 1
  simp [Addr.add]
  intro h; exact h.symm
theorem conv_mem {w : World} {g a n cap : Nat} {f : Nat → UInt8} {rest : List UInt8} (hg : w.heap[g]? = some (.cells (bytesV (memL f ++ rest)) 5 (0, 0))) (h : a + n ≤ 32768) :
    (convert 40 9 (.slice (some ⟨g, a, none⟩) n cap)).run Try.prog w = .ok (.string (strAt f a n)) w := by
  rw [run_convert_bytes_string _ _ _ 5 _ _ _ Try.underlying40 Try.underlying5 Try.underlying9]
  rw [row_to_str _ g a n cap (memL f ++ rest) 5 (0, 0) hg (by rw [List.length_append, memL_length]; omega), mem_cut f rest a n h]
  rfl

set_option maxRecDepth 100000 in
theorem read_no {p g : Nat} {f : Nat → UInt8} (a : BitVec 64) (n : Int) (w : World) (hc : codeOf a n ≠ 0) :
    Calls Try.prog 35 #[.pointer (some ⟨p, 0, none⟩), U a, .int .i64 n] w fun e w' => e = .returned (.tuple #[.int .u64 0, .int .i64 (codeOf a n)]) ∧ w = w' := by
  have h1 : (codeOf a n != 0) = true := bne_iff_ne.2 hc
  clear hc
  go_enter Try.func35, Try.ntmps35
  go_wp2_with (go_at_call 54; refine (check_any _ _ _).mono ?_; rintro e w' ⟨rfl, rfl⟩)
  go_ret2
  exact ⟨rfl, rfl⟩
set_option maxRecDepth 100000 in
theorem read_yes {p g : Nat} {f : Nat → UInt8} (a : BitVec 64) (n : Nat) (w : World) (hM : IsMem w p g 88 f) (hc : codeOf a n = 0) :
    Calls Try.prog 35 #[.pointer (some ⟨p, 0, none⟩), U a, .int .i64 n] w fun e w' => e = .returned (.tuple #[U (readF f a.toNat n), .int .i64 0]) ∧ Below w.heap.size w w' := by
  obtain ⟨hn, hm, ha, hr⟩ := codeOf_zero hc
  obtain ⟨rest, hp, hg⟩ := hM
  have hcell : w.cell? ⟨p, 0, none⟩ = some (.slice (some ⟨g, 0, none⟩) 32768 (32768 + rest.length)) := by simp [World.cell?, hp]
  have hck : Calls Try.prog 54 #[U a, .int .i64 n] w fun e w' => e = .returned (.int .i64 0) ∧ w = w' := hc ▸ check_any a n w
  have hsl := slice_run g a.toNat (a.toNat + n) (32768 + rest.length) (by omega) (by omega) (by omega) .u64 .u64 32768
  have e1 : ((a.toNat + n : Nat) : Int) = (a.toNat : Int) + (n : Int) := by omega
  have e2 : a.toNat + n - a.toNat = n := by omega
  rw [e1, e2] at hsl
  have hcv := conv_mem (n := n) (a := a.toNat) (cap := 32768 + rest.length - a.toNat) hg (by omega)
  have hget := fun w => get_any (strAt f a.toNat n) 0 n w (by rw [strAt_size]; omega)
  rw [getB_strAt f a.toNat n (by omega)] at hget
  have hn8 : (n : Int) ≤ 8 := by omega
  clear hm hc hp hg hn e1 e2
  go_enter Try.func35, Try.ntmps35
  go_wp2_with (first | (go_at_call 54; refine hck.mono ?_; rintro e w' ⟨rfl, rfl⟩) | (go_at_call 62; refine (hget _).mono ?_; rintro e w' ⟨rfl, HB⟩))
  go_ret2
  exact ⟨rfl, HB⟩

/-- A memory with some bytes of another row. -/
def putF (f : Nat → UInt8) (a : Nat) (l : List UInt8) : Nat → UInt8 := fun i => if a ≤ i ∧ i < a + l.length then l.getD (i - a) 0 else f i
theorem put_row (f : Nat → UInt8) (rest l : List UInt8) (a : Nat) (h : a + l.length ≤ 32768) :
    (memL f ++ rest).take a ++ l ++ (memL f ++ rest).drop (a + l.length) = memL (putF f a l) ++ rest := by
  have hlen : ((memL f ++ rest).take a).length = a := by rw [List.length_take, List.length_append, memL_length]; omega
  apply List.ext_getElem?
  intro i
  by_cases c1 : i < a
  · rw [List.append_assoc, List.getElem?_append_left (by omega), List.getElem?_take, if_pos c1, List.getElem?_append_left (by rw [memL_length]; omega), memL_get _ _ (by omega),
      List.getElem?_append_left (by rw [memL_length]; omega), memL_get _ _ (by omega)]
    unfold putF; rw [if_neg (by omega)]
  · by_cases c2 : i < a + l.length
    · rw [List.getElem?_append_left (by rw [List.length_append]; omega), List.getElem?_append_right (by omega), hlen, List.getElem?_append_left (by rw [memL_length]; omega), memL_get _ _ (by omega)]
      unfold putF; rw [if_pos (by omega), List.getD_eq_getElem?_getD, List.getElem?_eq_getElem (by omega)]; rfl
    · rw [List.getElem?_append_right (by rw [List.length_append]; omega), List.length_append, hlen, List.getElem?_drop, show a + l.length + (i - (a + l.length)) = i by omega]
      by_cases c3 : i < 32768
      · rw [List.getElem?_append_left (by rw [memL_length]; omega), memL_get _ _ c3, List.getElem?_append_left (by rw [memL_length]; omega), memL_get _ _ c3]
        unfold putF; rw [if_neg (by omega)]
      · rw [List.getElem?_append_right (by rw [memL_length]; omega), List.getElem?_append_right (by rw [memL_length]; omega), memL_length, memL_length]
theorem copy_mem {w : World} {g a cap m : Nat} {f : Nat → UInt8} {rest : List UInt8} (s : ByteArray) (hg : w.heap[g]? = some (.cells (bytesV (memL f ++ rest)) 5 (0, 0))) (h : a + s.size ≤ 32768) (hm : s.size ≤ m) :
    (Builtin.copy_ #[40, 9] 3 #[.slice (some ⟨g, a, none⟩) m cap, .string s]).run Try.prog w = .ok (goInt (s.size : Nat)) (w.setRow g (bytesV (memL (putF f a s.data.toList) ++ rest))) := by
  have hn : Nat.min s.size m = s.size := Nat.min_eq_left hm
  have hl : s.data.toList.length = s.size := rfl
  have key := row_copy_str (P := Try.prog) w 40 9 3 5 g a m cap s (memL f ++ rest) 5 Try.underlying40 (by kernel_rfl) hg (by rw [hn, List.length_append, memL_length]; omega)
  rw [hn] at key
  rw [key]
  have e : s.data.toList.take s.size = s.data.toList := List.take_of_length_le (by omega)
  have e2 := put_row f rest s.data.toList a (by omega)
  rw [hl] at e2
  rw [e, e2]
theorem IsMem.set {w : World} {p g : Nat} {T : TypeId} {f f' : Nat → UInt8} {rest : List UInt8} (hne : p ≠ g)
    (hp : w.heap[p]? = some (.cells #[.slice (some ⟨g, 0, none⟩) 32768 (32768 + rest.length)] T (0, 0))) (hg : w.heap[g]? = some (.cells (bytesV (memL f ++ rest)) 5 (0, 0))) :
    IsMem (w.setRow g (bytesV (memL f' ++ rest))) p g T f' :=
  ⟨rest, by rw [setRow_other w g p _ hne]; exact hp, setRow_heap w g _ _ _ _ hg⟩
theorem putF_nil (f : Nat → UInt8) (a : Nat) : putF f a [] = f := by
  funext i; unfold putF; rw [if_neg (by simp)]

set_option maxRecDepth 100000 in
theorem write_no {p : Nat} (a : BitVec 64) (n : Int) (v : BitVec 64) (w : World) (hc : codeOf a n ≠ 0) :
    Calls Try.prog 23 #[.pointer (some ⟨p, 0, none⟩), U a, .int .i64 n, U v] w fun e w' => e = .returned (.int .i64 (codeOf a n)) ∧ w = w' := by
  have h1 : (codeOf a n != 0) = true := bne_iff_ne.2 hc
  clear hc
  go_enter Try.func23, Try.ntmps23
  go_wp2_with (go_at_call 54; refine (check_any _ _ _).mono ?_; rintro e w' ⟨rfl, rfl⟩)
  go_ret
  exact ⟨rfl, rfl⟩
set_option maxRecDepth 100000 in
theorem write_yes {p g : Nat} {f : Nat → UInt8} (a : BitVec 64) (n : Nat) (v : BitVec 64) (w : World) (hM : IsMem w p g 88 f) (hc : codeOf a n = 0) :
    Calls Try.prog 23 #[.pointer (some ⟨p, 0, none⟩), U a, .int .i64 n, U v] w fun e w' => e = .returned (.int .i64 0) ∧ Upd w w' g ∧ IsMem w' p g 88 (putF f a.toNat (bytesL v n)) := by
  obtain ⟨hn, hm, ha, hr⟩ := codeOf_zero hc
  have hne := hM.ne
  have hpl := hM.p_lt
  have hgl := hM.g_lt
  obtain ⟨rest, hp, hg⟩ := hM
  have hcell : w.cell? ⟨p, 0, none⟩ = some (.slice (some ⟨g, 0, none⟩) 32768 (32768 + rest.length)) := by simp [World.cell?, hp]
  have hcell2 : ∀ s : Beyond w, s.to.cell? ⟨p, 0, none⟩ = some (.slice (some ⟨g, 0, none⟩) 32768 (32768 + rest.length)) := fun s => by rw [s.ok.cell hpl]; exact hcell
  have hck : Calls Try.prog 54 #[U a, .int .i64 n] w fun e w' => e = .returned (.int .i64 0) ∧ w = w' := hc ▸ check_any a n w
  have hsl := slice_run_l g a.toNat 32768 (32768 + rest.length) (by omega) (by omega) .u64
  have hh : held 0 8 (n : Int) = n := by unfold held; rw [if_neg (by omega), if_neg (by omega)]; omega
  have hby := bytes_b v n
  rw [hh] at hby
  have hsz := bytes_len v n (by omega)
  have hcp : ∀ s : Beyond w, (Builtin.copy_ #[40, 9] 3 #[.slice (some ⟨g, a.toNat, none⟩) (32768 - a.toNat) (32768 + rest.length - a.toNat), .string (bytesB v n)]).run Try.prog s.to = .ok (goInt ((bytesB v n).size : Nat)) (s.to.setRow g (bytesV (memL (putF f a.toNat (bytesL v n)) ++ rest))) := fun s => by
    have e : (bytesB v n).data.toList = bytesL v n := by simp [bytesB]
    rw [← e]
    exact copy_mem (bytesB v n) (by rw [s.ok.block g hgl]; exact hg) (by omega) (by omega)
  have fin : ∀ s : Beyond w, Upd w (s.to.setRow g (bytesV (memL (putF f a.toNat (bytesL v n)) ++ rest))) g ∧ IsMem (s.to.setRow g (bytesV (memL (putF f a.toNat (bytesL v n)) ++ rest))) p g 88 (putF f a.toNat (bytesL v n)) := fun s =>
    ⟨(Upd.of_below s.ok g).trans (Upd.row _ _ _), IsMem.set hne (by rw [s.ok.block p hpl]; exact hp) (by rw [s.ok.block g hgl]; exact hg)⟩
  have FIN := Lib.hid fin
  have hne2 : ¬ 32768 ≤ a.toNat := by omega
  clear hm hc hp hg hn hh hsz fin hr
  go_enter Try.func23, Try.ntmps23
  go_wp2_with (go_at_call 54; refine hck.mono ?_; rintro e w' ⟨rfl, rfl⟩)
  refine wp_region_quiet_tail (C := fun w' => ∃ s : Beyond w, w' = s.to) 9 (by kernel_rfl) (by kernel_rfl) ⟨⟨_, (Below.refl _ _).drew⟩, rfl⟩ ?_
  simp only [List.take_succ_cons, List.take_zero, List.drop_succ_cons, List.drop_zero]
  repeat (go_big_quiet_step ((go_at_call 55; with_reducible exact (hby.at_ _))))
  refine wpQuiet_nil ?_
  rintro w1 ⟨s, rfl⟩
  go_wp2
  go_ret
  exact ⟨rfl, FIN.out s⟩

theorem copy_zero {P : Program} (w : World) (dT sT ty elem : TypeId) (d : Option Addr) (n c : Nat) (s : ByteArray) (hu : P.underlying dT = some (.slice elem)) (hs : (P.info? elem).map (·.size) = some 1) (h : Nat.min s.size n = 0) :
    (Builtin.copy_ #[dT, sT] ty #[.slice d n c, .string s]).run P w = .ok (goInt 0) w := by
  cases hq : P.info? elem with
  | none => simp [hq] at hs
  | some i => cases d <;> simp [Builtin.copy_, Builtin.lenOf, Builtin.firstCells, sizeOf, typeInfo, hq, run_underlying hu, h, Result.andThen, storeCells]
theorem bytes_empty (s : ByteArray) (h : s.size = 0) : s.data.toList = [] := List.length_eq_zero_iff.1 h

/-- Does a row of bytes fit? -/
def layFits (a : BitVec 64) (s : ByteArray) : Bool := decide (a.toNat ≤ 32768 ∧ a.toNat + s.size ≤ 32768)
set_option maxRecDepth 100000 in
theorem frame_no {p : Nat} (k : Int) (w : World) (hk : k < 0 ∨ 128 ≤ k) :
    Calls Try.prog 43 #[.pointer (some ⟨p, 0, none⟩), .int .i64 k] w fun e w' => e = .returned (.string ⟨#[]⟩) ∧ w = w' := by
  rcases hk with hk | hk
  all_goals (go_enter Try.func43, Try.ntmps43; go_wp2; all_goals (go_ret; exact ⟨rfl, rfl⟩))
set_option maxRecDepth 100000 in
theorem frame_yes {p g : Nat} {T : TypeId} {f : Nat → UInt8} (k : Nat) (w : World) (hM : IsMem w p g T f) (hk : k < 128) :
    Calls Try.prog 43 #[.pointer (some ⟨p, 0, none⟩), .int .i64 k] w fun e w' => e = .returned (.string (strAt f (k * 256) 256)) ∧ ∃ n, w' = w.drewN n := by
  obtain ⟨rest, hp, hg⟩ := hM
  have hcell : w.cell? ⟨p, 0, none⟩ = some (.slice (some ⟨g, 0, none⟩) 32768 (32768 + rest.length)) := by simp [World.cell?, hp]
  have hsl := slice_run g (k * 256) ((k + 1) * 256) (32768 + rest.length) (by omega) (by omega) (by omega) .i64 .i64 32768
  have e1 : ((k * 256 : Nat) : Int) = (k : Int) * 256 := by omega
  have e2 : (((k + 1) * 256 : Nat) : Int) = ((k : Int) + 1) * 256 := by omega
  have e3 : (k + 1) * 256 - k * 256 = 256 := by omega
  rw [e1, e2, e3] at hsl
  have hcv := conv_mem (n := 256) (a := k * 256) (cap := 32768 + rest.length - k * 256) hg (by omega)
  have hk2 : (k : Int) < 128 := by omega
  clear hp hg e1 e2 e3
  go_enter Try.func43, Try.ntmps43
  go_wp2
  go_ret
  exact ⟨rfl, 0, rfl⟩
end Go.Proofs.Ytkjbhjmjfacjcaa
