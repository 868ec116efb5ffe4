/- Contracts of the reference's memory. -/
import Derived.Test.YtkjbhjmjfacjcaaMemC
namespace Go.Proofs.Ytkjbhjmjfacjcaa
open Go.RowKit Go.BigFrame
set_option linter.unusedSimpArgs false
set_option linter.unusedVariables false
set_option maxRecDepth 100000

set_option maxRecDepth 100000 in
theorem rnew_any (w : World) :
    Calls Try.prog 37 #[] w fun e w' => e = .returned (.pointer (some ⟨w.heap.size + 1, 0, none⟩)) ∧
      w' = (w.alloc (.cells (bytesV (memL fun _ => 0)) 5)).alloc (.cells #[.slice (some ⟨w.heap.size, 0, none⟩) 32768 32768] 85) := by
  have hm := run_make_mem
  go_enter Try.func37, Try.ntmps37
  go_wp2
  go_ret
  exact ⟨rfl, rfl⟩
set_option maxHeartbeats 4000000 in
set_option maxRecDepth 100000 in
theorem rcode_any {p g : Nat} {f : Nat → UInt8} (a : BitVec 64) (n : Int) (w : World) (hM : IsMem w p g 85 f) :
    Calls Try.prog 45 #[.pointer (some ⟨p, 0, none⟩), U a, .int .i64 n] w fun e w' => e = .returned (.int .i64 (codeOf a n)) ∧ w = w' := by
  obtain ⟨rest, hp, hg⟩ := hM
  have hcell : w.cell? ⟨p, 0, none⟩ = some (.slice (some ⟨g, 0, none⟩) 32768 (32768 + rest.length)) := by simp [World.cell?, hp]
  clear hp hg
  by_cases hn : n = 1 ∨ n = 2 ∨ n = 4 ∨ n = 8
  · by_cases hm : (a.toNat : Int) % n = 0
    · by_cases hr : 32768 ≤ (a.toNat : Int)
      · have e : codeOf a n = 60 := by unfold codeOf; rw [if_neg (by omega), if_pos (by omega)]
        rw [e]
        clear e
        rcases hn with rfl | rfl | rfl | rfl <;> (go_enter Try.func45, Try.ntmps45; go_wp2; all_goals go_ret; all_goals exact ⟨rfl, rfl⟩)
      · have e : codeOf a n = 0 := by unfold codeOf; rw [if_neg (by omega), if_neg (by omega)]
        have hr2 : n ≤ 32768 - (a.toNat : Int) := by have := codeOf_zero e; omega
        rw [e]
        clear e
        rcases hn with rfl | rfl | rfl | rfl <;> (go_enter Try.func45, Try.ntmps45; go_wp2; all_goals go_ret; all_goals exact ⟨rfl, rfl⟩)
    · have e : codeOf a n = 61 := by unfold codeOf; rw [if_pos (Or.inr hm)]
      rw [e]
      clear e
      rcases hn with rfl | rfl | rfl | rfl
      · omega
      all_goals (go_enter Try.func45, Try.ntmps45; go_wp2; all_goals go_ret; all_goals exact ⟨rfl, rfl⟩)
  · have e : codeOf a n = 61 := by unfold codeOf; rw [if_pos (Or.inl (by omega))]
    rw [e]
    have h1 : (n != 1) = true := bne_iff_ne.2 (by omega)
    have h2 : (n != 2) = true := bne_iff_ne.2 (by omega)
    have h4 : (n != 4) = true := bne_iff_ne.2 (by omega)
    have h8 : (n != 8) = true := bne_iff_ne.2 (by omega)
    clear e hn
    go_enter Try.func45, Try.ntmps45
    go_wp2
    go_ret
    exact ⟨rfl, rfl⟩
theorem rframe_no {p g : Nat} {f : Nat → UInt8} (k : Int) (w : World) (hM : IsMem w p g 85 f) (hk : k < 0 ∨ 128 ≤ k) :
    Calls Try.prog 44 #[.pointer (some ⟨p, 0, none⟩), .int .i64 k] w fun e w' => e = .returned (.string ⟨#[]⟩) ∧ w = w' := by
  obtain ⟨rest, hp, hg⟩ := hM
  have hcell : w.cell? ⟨p, 0, none⟩ = some (.slice (some ⟨g, 0, none⟩) 32768 (32768 + rest.length)) := by simp [World.cell?, hp]
  clear hp hg
  rcases hk with hk | hk
  all_goals (go_enter Try.func44, Try.ntmps44; go_wp2; all_goals (go_ret; exact ⟨rfl, rfl⟩))
set_option maxRecDepth 100000 in
theorem rframe_yes {p g : Nat} {f : Nat → UInt8} (k : Nat) (w : World) (hM : IsMem w p g 85 f) (hk : k < 128) :
    Calls Try.prog 44 #[.pointer (some ⟨p, 0, none⟩), .int .i64 k] w fun e w' => e = .returned (.string (strAt f (k * 256) 256)) ∧ w = w' := by
  obtain ⟨rest, hp, hg⟩ := hM
  have hcell : w.cell? ⟨p, 0, none⟩ = some (.slice (some ⟨g, 0, none⟩) 32768 (32768 + rest.length)) := by simp [World.cell?, hp]
  have hsl := slice_run g (k * 256) ((k + 1) * 256) (32768 + rest.length) (by omega) (by omega) (by omega) .i64 .i64 32768
  have e1 : ((k * 256 : Nat) : Int) = (k : Int) * 256 := by omega
  have e2 : (((k + 1) * 256 : Nat) : Int) = ((k : Int) + 1) * 256 := by omega
  have e3 : (k + 1) * 256 - k * 256 = 256 := by omega
  rw [e1, e2, e3] at hsl
  have hcv := conv_mem (n := 256) (a := k * 256) (cap := 32768 + rest.length - k * 256) hg (by omega)
  have hk2 : (k : Int) < 128 := by omega
  clear hp hg e1 e2 e3
  go_enter Try.func44, Try.ntmps44
  go_wp2
  go_ret
  exact ⟨rfl, rfl⟩

/-- what the reference has behind the bytes from j on. -/
def tailF (f : Nat → UInt8) (a n j : Nat) : BitVec 64 := joinB (fun k => if ((j + k : Nat) : Int) < (n : Int) then BitVec.ofNat 64 (f (a + (j + k))).toNat else 0#64) (n - j)
theorem byte_lt (b : UInt8) : (BitVec.ofNat 64 b.toNat).toNat < 256 := by rw [BitVec.toNat_ofNat]; have := b.toNat_lt; omega
theorem tailF_all (f : Nat → UInt8) (a n : Nat) (hn : n ≤ 8) : tailF f a n 0 = readF f a n := by
  unfold tailF readF
  rw [Nat.sub_zero]
  have e : joinB (fun k => if ((0 + k : Nat) : Int) < (n : Int) then BitVec.ofNat 64 (f (a + (0 + k))).toNat else 0#64) n = joinB (fun k => if (k : Int) < (n : Int) then BitVec.ofNat 64 (f (a + k)).toNat else 0#64) n :=
    join_congr n (fun i hi => by rw [Nat.zero_add])
  rw [e]
  exact (join_more _ n 8 (fun k hk _ => by rw [if_neg (by omega)]) hn).symm
theorem tailF_none (f : Nat → UInt8) (a n : Nat) : tailF f a n n = 0#64 := by unfold tailF; rw [Nat.sub_self]; rfl
theorem tailF_step (f : Nat → UInt8) (a n j : Nat) (hj : j < n) (hn : n ≤ 8) :
    Value.int IntKind.u64 (bits BinOp.or IntKind.u64 (IntKind.u64.wrap (((tailF f a n (j + 1)).toNat : Int) * 256)) ((f (a + j)).toNat : Int)) = U (tailF f a n j) := by
  have e := u_shl (tailF f a n (j + 1)) 8
  have e2 : (2 : Int) ^ 8 = 256 := rfl
  rw [e2] at e
  have e3 : ((f (a + j)).toNat : Int) = ((BitVec.ofNat 64 (f (a + j)).toNat).toNat : Int) := by rw [BitVec.toNat_ofNat]; have := (f (a + j)).toNat_lt; omega
  rw [e, e3, u_or]
  congr 3
  have key := join_shift (fun k => if ((k : Nat) : Int) < (n : Int) then BitVec.ofNat 64 (f (a + k)).toNat else 0#64) (fun k => by split; exact byte_lt _; simp) j (n - (j + 1)) (by omega)
  rw [if_pos (by omega)] at key
  unfold tailF
  rw [key, show n - (j + 1) + 1 = n - j by omega]
set_option maxRecDepth 100000 in
theorem rread_any {p g : Nat} {f : Nat → UInt8} (a : BitVec 64) (n : Nat) (w : World) (hM : IsMem w p g 85 f) (hc : codeOf a n = 0) :
    Calls Try.prog 52 #[.pointer (some ⟨p, 0, none⟩), U a, .int .i64 n] w fun e w' => e = .returned (U (readF f a.toNat n)) ∧ w = w' := by
  obtain ⟨hn, hm, ha, hr⟩ := codeOf_zero hc
  obtain ⟨rest, hp, hg⟩ := hM
  have hcell : w.cell? ⟨p, 0, none⟩ = some (.slice (some ⟨g, 0, none⟩) 32768 (32768 + rest.length)) := by simp [World.cell?, hp]
  have hbyte : ∀ j, a.toNat + j < 32768 → w.cell? ⟨g, a.toNat + j, none⟩ = some (.int .u8 ((f (a.toNat + j)).toNat : Int)) := fun j hj => by
    simp only [World.cell?, hg]
    rw [if_neg (by simp), bytesV_get _ _ (by rw [List.length_append, memL_length]; omega), List.getElem_append_left (by rw [memL_length]; omega)]
    have e := memL_get f _ hj
    rw [List.getElem?_eq_getElem (by rw [memL_length]; omega)] at e
    rw [Option.some.inj e]
  have HB := Lib.hid hbyte
  have hn8 : (n : Int) ≤ 8 := by omega
  have hn1 : 1 ≤ (n : Int) := by omega
  rw [← tailF_all f a.toNat n (by omega)]
  have T0 := Lib.hid (tailF_none f a.toNat n)
  clear hp hg hbyte hm hc hn
  go_enter Try.func52, Try.ntmps52
  go_wp2
  go_loop [7, 8] (fun v i => ∃ j : Nat, j ≤ n ∧ i = .int .i64 ((j : Int) - 1) ∧ v = U (tailF f a.toNat n j)) (fun _ i => (intOf i + 1).toNat)
  case atStart => exact ⟨n, by omega, rfl, by rw [T0.out]; rfl⟩
  case round =>
    obtain ⟨j, hj, rfl, rfl⟩ := hrel
    by_cases hj0 : j = 0
    · subst hj0
      go_wp2
      go_ret
      exact ⟨rfl, rfl⟩
    · obtain ⟨m, rfl⟩ : ∃ m, j = m + 1 := ⟨j - 1, by omega⟩
      have em : ((m + 1 : Nat) : Int) - 1 = (m : Int) := by omega
      rw [em]
      clear em
      have hb := HB.out m (by omega)
      have hu : ((f (a.toNat + m)).toNat : Int) < 256 := by have := (f (a.toNat + m)).toNat_lt; omega
      go_wp2
      go_round
      case rel => exact ⟨m, by omega, by go_num, tailF_step f a.toNat n m (by omega) (by omega)⟩
      case measure => simp [intOf]

/-- The world behind the first k bytes of a row. -/
def rowW (w : World) (g : Nat) (f : Nat → UInt8) (rest : List UInt8) (a : Nat) (l : List UInt8) (k : Nat) : World := w.setRow g (bytesV (memL (putF f a (l.take k)) ++ rest))
theorem rowW_zero {w : World} {g : Nat} {f : Nat → UInt8} {rest : List UInt8} (a : Nat) (l : List UInt8) (hg : w.heap[g]? = some (.cells (bytesV (memL f ++ rest)) 5 (0, 0))) : w = rowW w g f rest a l 0 := by
  unfold rowW; rw [List.take_zero, putF_nil, setRow_self w g _ _ _ hg]
theorem memV_get (f : Nat → UInt8) (rest : List UInt8) (k : Nat) (hk : k < 32768) : (bytesV (memL f ++ rest))[k]? = some (.int .u8 ((f k).toNat : Int)) := by
  rw [bytesV_get _ k (by rw [List.length_append, memL_length]; omega), List.getElem_append_left (by rw [memL_length]; omega)]
  have e := memL_get f k hk
  rw [List.getElem?_eq_getElem (by rw [memL_length]; omega)] at e
  rw [Option.some.inj e]
theorem memL_set (f : Nat → UInt8) (i : Nat) (b : UInt8) (hi : i < 32768) (rest : List UInt8) : (bytesV (memL f ++ rest)).setIfInBounds i (.int .u8 (b.toNat : Int)) = bytesV (memL (fun k => if k = i then b else f k) ++ rest) := by
  apply Array.ext_getElem?
  intro k
  rw [Array.getElem?_setIfInBounds, bytesV_size, List.length_append, memL_length]
  by_cases hk : k < 32768
  · rw [memV_get _ _ k hk, memV_get _ _ k hk]
    by_cases hki : i = k
    · subst hki; rw [if_pos rfl, if_pos (by omega), if_pos rfl]
    · rw [if_neg hki, if_neg (fun h => hki h.symm)]
  · rw [if_neg (by omega)]
    unfold bytesV
    simp only [List.getElem?_toArray, List.getElem?_map]
    rw [List.getElem?_append_right (by rw [memL_length]; omega), List.getElem?_append_right (by rw [memL_length]; omega), memL_length, memL_length]
theorem putF_snoc (f : Nat → UInt8) (a : Nat) (l : List UInt8) (b : UInt8) : putF f a (l ++ [b]) = fun k => if k = a + l.length then b else putF f a l k := by
  funext k
  unfold putF
  rw [List.length_append, List.length_singleton]
  by_cases h : k = a + l.length
  · subst h
    rw [if_pos rfl, if_pos (by omega), List.getD_eq_getElem?_getD, List.getElem?_append_right (by omega), show a + l.length - a - l.length = 0 by omega]; rfl
  · rw [if_neg h]
    by_cases h2 : a ≤ k ∧ k < a + l.length
    · rw [if_pos h2, if_pos (by omega), List.getD_eq_getElem?_getD, List.getD_eq_getElem?_getD, List.getElem?_append_left (by omega)]
    · rw [if_neg h2, if_neg (by omega)]
theorem rowW_step {w : World} {g : Nat} {f : Nat → UInt8} {rest : List UInt8} (a : Nat) (l : List UInt8) (hg : w.heap[g]? = some (.cells (bytesV (memL f ++ rest)) 5 (0, 0))) (k : Nat) (hk : k < l.length) (hl : a + l.length ≤ 32768) :
    (rowW w g f rest a l k).setCell ⟨g, a + k, none⟩ (.int .u8 ((l[k]).toNat : Int)) = rowW w g f rest a l (k + 1) := by
  have h2 : (rowW w g f rest a l k).heap[g]? = some (.cells (bytesV (memL (putF f a (l.take k)) ++ rest)) 5 (0, 0)) := setRow_heap w g _ _ _ _ hg
  rw [setCell_eq_setRow _ g (a + k) _ _ _ _ h2, memL_set _ _ _ (by omega)]
  unfold rowW
  rw [setRow_setRow, List.take_succ_eq_append_getElem hk, putF_snoc, List.length_take, Nat.min_eq_left (by omega)]
theorem rowW_cell {w : World} {g : Nat} {f : Nat → UInt8} {rest : List UInt8} (a : Nat) (l : List UInt8) (hg : w.heap[g]? = some (.cells (bytesV (memL f ++ rest)) 5 (0, 0))) (k i : Nat) (hi : i < 32768) :
    ∃ v, (rowW w g f rest a l k).cell? ⟨g, i, none⟩ = some v ∧ (rowW w g f rest a l k).frozen? ⟨g, i, none⟩ = false := by
  have h2 : (rowW w g f rest a l k).heap[g]? = some (.cells (bytesV (memL (putF f a (l.take k)) ++ rest)) 5 (0, 0)) := setRow_heap w g _ _ _ _ hg
  have h3 : (rowW w g f rest a l k).frozen? ⟨g, i, none⟩ = false := by simp [World.frozen?, h2]
  have h4 : (rowW w g f rest a l k).cell? ⟨g, i, none⟩ = some (.int .u8 ((putF f a (l.take k) i).toNat : Int)) := by
    simp only [World.cell?, h2]
    rw [if_neg (by simp), memV_get _ _ i hi]
  exact ⟨_, h4, h3⟩
theorem rowW_head {w : World} {p g : Nat} {o : Obj} {f : Nat → UInt8} {rest : List UInt8} (a : Nat) (l : List UInt8) (hp : w.heap[p]? = some o) (hne : p ≠ g) (k : Nat) : (rowW w g f rest a l k).heap[p]? = some o := by
  unfold rowW; rw [setRow_other _ _ _ _ hne]; exact hp
theorem rowW_fin {w : World} {p g : Nat} {T : TypeId} {f : Nat → UInt8} {rest : List UInt8} (a : Nat) (l : List UInt8) (hne : p ≠ g)
    (hp : w.heap[p]? = some (.cells #[.slice (some ⟨g, 0, none⟩) 32768 (32768 + rest.length)] T (0, 0))) (hg : w.heap[g]? = some (.cells (bytesV (memL f ++ rest)) 5 (0, 0))) (d : Nat) :
    Upd w ((rowW w g f rest a l l.length).drewN d) g ∧ IsMem ((rowW w g f rest a l l.length).drewN d) p g T (putF f a l) := by
  refine ⟨(Upd.row w g _).trans ⟨rfl, rfl, rfl, Nat.le_refl _, fun _ _ _ => rfl⟩, ?_⟩
  have h := IsMem.set (f' := putF f a (l.take l.length)) hne hp hg
  rw [List.take_length] at h
  obtain ⟨r, h1, h2⟩ := h
  refine ⟨r, ?_, ?_⟩
  · show (rowW w g f rest a l l.length).heap[p]? = _; unfold rowW; rw [List.take_length]; exact h1
  · show (rowW w g f rest a l l.length).heap[g]? = _; unfold rowW; rw [List.take_length]; exact h2
set_option maxHeartbeats 1000000 in
set_option maxRecDepth 100000 in
theorem rwrite_any {p g : Nat} {f : Nat → UInt8} (a : BitVec 64) (n : Nat) (v : BitVec 64) (w : World) (hM : IsMem w p g 85 f) (hc : codeOf a n = 0) :
    Calls Try.prog 46 #[.pointer (some ⟨p, 0, none⟩), U a, .int .i64 n, U v] w fun e w' => e = .returned (.tuple #[]) ∧ Upd w w' g ∧ IsMem w' p g 85 (putF f a.toNat (bytesL v n)) := by
  obtain ⟨hn, hm, ha, hr⟩ := codeOf_zero hc
  have hne := hM.ne
  obtain ⟨rest, hp, hg⟩ := hM
  have hlen := bytesL_length v n (by omega)
  obtain ⟨l, hl⟩ : ∃ l, l = bytesL v n := ⟨_, rfl⟩
  have hll : l.length = n := by rw [hl]; exact hlen
  have hby : ∀ k (h : k < l.length), ((l[k]).toNat : Int) = (v.toNat : Int) / 2 ^ (8 * k) % 256 := fun k h => by
    rw [byte_val]
    have e : l[k]? = some (byteU v k) := by
      rw [hl]; unfold bytesL
      rw [List.getElem?_take, if_pos (by omega), List.getElem?_map, List.getElem?_range (by omega)]; rfl
    rw [List.getElem?_eq_getElem h] at e
    rw [Option.some.inj e]
  have FIN := Lib.hid (rowW_fin (f := f) (w := w) a.toNat l hne hp hg)
  have STEP := Lib.hid (fun k hk => rowW_step (f := f) a.toNat l hg k hk (by omega))
  have CELL := Lib.hid (fun k i hi => rowW_cell (f := f) a.toNat l hg k i hi)
  have HEAD := Lib.hid (fun k => rowW_head (f := f) (rest := rest) a.toNat l hp hne k)
  have ZERO := Lib.hid (rowW_zero a.toNat l hg)
  have HL := Lib.hid hll
  have BY := Lib.hid hby
  rw [← hl]
  have hn8 : (n : Int) ≤ 8 := by omega
  clear hl hll hby hlen hp hg hm hc hn
  go_enter Try.func46, Try.ntmps46
  go_wp2
  go_loopw [8] (fun i wr => ∃ k : Nat, k ≤ n ∧ i = .int .i64 k ∧ wr = rowW w g f rest a.toNat l k) (fun i _ => n - (intOf i).toNat)
  case atStart => exact ⟨0, by omega, rfl, ZERO.out⟩
  case round =>
    obtain ⟨k, hk, rfl, hwr⟩ := hrel
    by_cases hkn : k < n
    · have hh : wr.cell? ⟨p, 0, none⟩ = some (.slice (some ⟨g, 0, none⟩) 32768 (32768 + rest.length)) := by rw [hwr]; simp [World.cell?, HEAD.out k]
      obtain ⟨old, hc1, hc2⟩ := CELL.out k (a.toNat + k) (by omega)
      rw [← hwr] at hc1 hc2
      have HWR := Lib.hid hwr
      clear hwr
      go_wp2
      go_roundw
      case rel =>
        refine ⟨k + 1, by omega, by go_num, ?_⟩
        rw [HWR.out, ← STEP.out k (by rw [HL.out]; exact hkn), BY.out]
      case measure => simp [intOf]; omega
    · obtain rfl : k = n := by omega
      have HWR := Lib.hid hwr
      clear hwr
      go_wp2
      go_end0
      refine ⟨rfl, ?_⟩
      have h := FIN.out 0
      rw [HL.out] at h
      rw [HWR.out]
      exact h
end Go.Proofs.Ytkjbhjmjfacjcaa
