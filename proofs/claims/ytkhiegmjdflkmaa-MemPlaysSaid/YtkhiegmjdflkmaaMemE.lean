/- The memory's contracts at every input, and the contract of the memory laws' own 'known'. -/
import Derived.Test.YtkhiegmjdflkmaaMemD
namespace Go.Proofs.Ytkhiegmjdflkmaa
open Go.RowKit Go.BigFrame
set_option linter.unusedSimpArgs false
set_option linter.unusedVariables false
set_option maxRecDepth 100000

def rdF (f : Nat → UInt8) (a : BitVec 64) (n : Int) : BitVec 64 := if codeOf a n = 0 then readF f a.toNat n else 0#64
def wrF (f : Nat → UInt8) (a : BitVec 64) (n : Int) (v : BitVec 64) : Nat → UInt8 := if codeOf a n = 0 then putF f a.toNat (bytesL v n.toNat) else f
def layF (f : Nat → UInt8) (a : BitVec 64) (s : ByteArray) : Nat → UInt8 := if layFits a s = true then putF f a.toNat s.data.toList else f
def frF (f : Nat → UInt8) (k : Int) : ByteArray := if 0 ≤ k ∧ k < 128 then strAt f (k.toNat * 256) 256 else ⟨#[]⟩
theorem Below.of_drew {w : World} (k : Nat) : Below w.heap.size w (w.drewN k) := ⟨rfl, rfl, rfl, Nat.le_refl _, fun _ _ => rfl⟩

theorem read_all {p g : Nat} {f : Nat → UInt8} (a : BitVec 64) (n : Int) (w : World) (hM : IsMem w p g 45 f) :
    Calls Try.prog 11 #[.pointer (some ⟨p, 0, none⟩), U a, .int .i64 n] w fun e w' => e = .returned (.tuple #[U (rdF f a n), .int .i64 (codeOf a n)]) ∧ Below w.heap.size w w' := by
  by_cases hc : codeOf a n = 0
  · obtain ⟨hn, _⟩ := codeOf_zero hc
    obtain ⟨m, rfl⟩ : ∃ m : Nat, n = (m : Int) := ⟨n.toNat, by omega⟩
    unfold rdF
    rw [if_pos hc, hc]
    exact read_yes a m w hM hc
  · unfold rdF
    rw [if_neg hc]
    exact (read_no (g := g) (f := f) a n w hc).mono fun e w' ⟨h1, h2⟩ => ⟨h1, by rw [h2]; exact Below.refl _ _⟩
theorem write_all {p g : Nat} {f : Nat → UInt8} (a : BitVec 64) (n : Int) (v : BitVec 64) (w : World) (hM : IsMem w p g 45 f) :
    Calls Try.prog 9 #[.pointer (some ⟨p, 0, none⟩), U a, .int .i64 n, U v] w fun e w' => e = .returned (.int .i64 (codeOf a n)) ∧ Upd w w' g ∧ IsMem w' p g 45 (wrF f a n v) := by
  by_cases hc : codeOf a n = 0
  · obtain ⟨hn, _⟩ := codeOf_zero hc
    obtain ⟨m, rfl⟩ : ∃ m : Nat, n = (m : Int) := ⟨n.toNat, by omega⟩
    unfold wrF
    rw [if_pos hc, hc, Int.toNat_natCast]
    exact write_yes a m v w hM hc
  · unfold wrF
    rw [if_neg hc]
    exact (write_no a n v w hc).mono fun e w' ⟨h1, h2⟩ => ⟨h1, by rw [← h2]; exact ⟨Upd.of_below (Below.refl _ _) _, hM⟩⟩
theorem lay_all {p g : Nat} {f : Nat → UInt8} (a : BitVec 64) (s : ByteArray) (w : World) (hM : IsMem w p g 45 f) (hs : s.size ≤ maxLen) :
    Calls Try.prog 13 #[.pointer (some ⟨p, 0, none⟩), U a, .string s] w fun e w' => e = .returned (.int .i64 (if layFits a s = true then 0 else 60)) ∧ Upd w w' g ∧ IsMem w' p g 45 (layF f a s) := by
  unfold layF
  by_cases hc : layFits a s = true
  · rw [if_pos hc, if_pos hc]; exact lay_yes a s w hM hc
  · rw [if_neg hc, if_neg hc]
    exact (lay_no a s w (by simpa using hc) hs).mono fun e w' ⟨h1, h2⟩ => ⟨h1, by rw [← h2]; exact ⟨Upd.of_below (Below.refl _ _) _, hM⟩⟩
theorem frame_all {p g : Nat} {f : Nat → UInt8} (k : Int) (w : World) (hM : IsMem w p g 45 f) :
    Calls Try.prog 15 #[.pointer (some ⟨p, 0, none⟩), .int .i64 k] w fun e w' => e = .returned (.string (frF f k)) ∧ Below w.heap.size w w' := by
  unfold frF
  by_cases hk : 0 ≤ k ∧ k < 128
  · rw [if_pos hk]
    obtain ⟨m, rfl⟩ : ∃ m : Nat, k = (m : Int) := ⟨k.toNat, by omega⟩
    exact (frame_yes m w hM (by omega)).mono fun e w' ⟨h1, n, h2⟩ => ⟨h1, by rw [h2]; exact Below.of_drew n⟩
  · rw [if_neg hk]
    exact (frame_no k w (by omega)).mono fun e w' ⟨h1, h2⟩ => ⟨h1, by rw [h2]; exact Below.refl _ _⟩
theorem rframe_all {p g : Nat} {f : Nat → UInt8} (k : Int) (w : World) (hM : IsMem w p g 47 f) :
    Calls Try.prog 16 #[.pointer (some ⟨p, 0, none⟩), .int .i64 k] w fun e w' => e = .returned (.string (frF f k)) ∧ w = w' := by
  unfold frF
  by_cases hk : 0 ≤ k ∧ k < 128
  · rw [if_pos hk]
    obtain ⟨m, rfl⟩ : ∃ m : Nat, k = (m : Int) := ⟨k.toNat, by omega⟩
    exact rframe_yes m w hM (by omega)
  · rw [if_neg hk]
    exact rframe_no k w hM (by omega)
/-- What New leaves. -/
def NewPost (T : TypeId) (w : World) (e : Ending) (w' : World) : Prop :=
  ∃ p g, e = .returned (.pointer (some ⟨p, 0, none⟩)) ∧ w.heap.size ≤ p ∧ w.heap.size ≤ g ∧ p < w'.heap.size ∧ g < w'.heap.size ∧ IsMem w' p g T (fun _ => 0) ∧ Below w.heap.size w w'
theorem new_post {w w' : World} {T : TypeId} {e : Ending} (h1 : e = .returned (.pointer (some ⟨w.heap.size + 1, 0, none⟩)))
    (h2 : w' = (w.alloc (.cells (bytesV (memL fun _ => 0)) 5)).alloc (.cells #[.slice (some ⟨w.heap.size, 0, none⟩) 32768 32768] T)) : NewPost T w e w' := by
  have hp : w'.heap[w.heap.size + 1]? = some (.cells #[.slice (some ⟨w.heap.size, 0, none⟩) 32768 (32768 + 0)] T (0, 0)) := by
    rw [h2, show w.heap.size + 1 = (w.alloc (.cells (bytesV (memL fun _ => 0)) 5)).heap.size by simp]; exact (MapKept.heap_alloc _ _).1
  have hg : w'.heap[w.heap.size]? = some (.cells (bytesV ((memL fun _ => 0) ++ [])) 5 (0, 0)) := by
    rw [List.append_nil, h2, Below.heap_alloc _ _ _ (by simp)]; exact (MapKept.heap_alloc _ _).1
  exact ⟨w.heap.size + 1, w.heap.size, h1, by omega, by omega, blk_lt hp, blk_lt hg, ⟨[], hp, hg⟩, by rw [h2]; exact ((Below.refl _ _).alloc (Nat.le_refl _) _).alloc (by simp) _⟩
theorem new_all (w : World) : Calls Try.prog 5 #[] w (NewPost 45 w) := (new_any w).mono fun _ _ ⟨h1, h2⟩ => new_post h1 h2
theorem rnew_all (w : World) : Calls Try.prog 6 #[] w (NewPost 47 w) := (rnew_any w).mono fun _ _ ⟨h1, h2⟩ => new_post h1 h2
theorem same_false {f h : Nat → UInt8} (i : Nat) (hi : i < 32768) (hne : f i ≠ h i) : sameF f h = false := by
  unfold sameF
  refine decide_eq_false fun e => hne ?_
  have h1 := memL_get f i hi
  rw [e, memL_get h i hi] at h1
  exact (Option.some.inj h1).symm
theorem same_true (f : Nat → UInt8) : sameF f f = true := decide_eq_true rfl

/-- Behind what was made so far. -/
theorem HBstep {w0 w w' : World} (h : Below w0.heap.size w0 w) (k : Below w.heap.size w w') : Below w0.heap.size w0 w' := h.trans (k.mono h.size)

theorem readF_zero (a : Nat) (n : Int) : readF (fun _ => 0) a n = 0#64 := by
  unfold readF
  rw [join_congr (g := fun _ => 0#64) 8 (fun i hi => by split <;> rfl), join_zero]
theorem rdF_zero (a : BitVec 64) (n : Int) : rdF (fun _ => 0) a n = 0#64 := by
  unfold rdF; split
  · exact readF_zero _ _
  · rfl
theorem bytesL_zero (n : Nat) : bytesL 0#64 n = List.replicate (min n 8) 0 := by
  unfold bytesL
  have e : (List.range 8).map (byteU 0#64) = List.replicate 8 0 := by decide +kernel
  rw [e, List.take_replicate]
theorem wrF_zero (a : BitVec 64) (n : Int) : wrF (fun _ => 0) a n 0#64 = fun _ => 0 := by
  unfold wrF; split
  · funext i
    unfold putF
    split
    · rw [bytesL_zero, List.getD_eq_getElem?_getD, List.getElem?_replicate]; split <;> rfl
    · rfl
  · rfl
set_option maxHeartbeats 4000000 in
set_option maxRecDepth 100000 in
theorem known6_b : Gives Try.prog 4 #[] (.bool true) := by
  intro w
  obtain ⟨f1, hf1⟩ : ∃ f1, f1 = wrF (fun _ => 0) 8#64 4 16909060#64 := ⟨_, rfl⟩
  have c1 : codeOf 8#64 4 = 0 := by decide +kernel
  have c2 : codeOf 8#64 8 = 0 := by decide +kernel
  have c3 : codeOf 3#64 2 = 61 := by decide +kernel
  have c4 : codeOf 32768#64 1 = 60 := by decide +kernel
  have v1 : rdF f1 8#64 8 = 16909060#64 := by rw [hf1]; decide +kernel
  have l1 : layFits 32767#64 ⟨#[97, 98]⟩ = false := by decide +kernel
  have l2 : layF f1 32767#64 ⟨#[97, 98]⟩ = f1 := by unfold layF; rw [l1]; rfl
  have s1 : sameF f1 (fun _ => 0) = false := same_false 8 (by omega) (by rw [hf1]; decide +kernel)
  have s2 : sameF (fun _ => 0) (fun _ => 0) = true := same_true _
  have fr1 : frF f1 127 = strAt f1 32512 256 := by unfold frF; rw [if_pos (by omega)]; rfl
  have fr2 : frF f1 128 = ⟨#[]⟩ := by unfold frF; rw [if_neg (by omega)]
  have fr3 : frF f1 0 = strAt f1 0 256 := by unfold frF; rw [if_pos (by omega)]; rfl
  have z1 := strAt_size f1 32512 256
  have z2 := strAt_size f1 0 256
  have b1 : ∀ h : 8 < (strAt f1 0 256).size, (strAt f1 0 256)[8]'h = 4 := fun h => by
    have e : (strAt f1 0 256).data.toList.getD 8 0 = f1 (0 + 8) := strAt_get f1 0 256 8 (by omega)
    rw [List.getD_eq_getElem?_getD, List.getElem?_eq_getElem (by exact h)] at e
    have e2 : (strAt f1 0 256)[8]'h = f1 (0 + 8) := e
    rw [e2, hf1]; decide +kernel
  have W := Lib.hid hf1
  clear hf1
  have HB := Below.refl w.heap.size w
  go_enter Try.func4, Try.ntmps4
  go_wp2_with fail
  refine (new_all _).mono ?_
  rintro e w1 ⟨p, g, rfl, hp, hg, hpl, hgl, M1, hb⟩
  replace HB := HBstep HB hb
  clear hb
  go_wp2_with fail
  have key : Calls Try.prog 9 #[.pointer (some ⟨p, 0, none⟩), .int .u64 8, .int .i64 4, .int .u64 16909060] w1 _ := write_all 8#64 4 16909060#64 w1 M1
  rw [← W.out, c1] at key
  refine key.mono ?_
  clear key
  rintro e w2 ⟨rfl, hu, M2⟩
  replace HB := Upd.below HB hu HB.size hg
  clear M1 hu
  go_wp2_with fail
  have key : Calls Try.prog 11 #[.pointer (some ⟨p, 0, none⟩), .int .u64 8, .int .i64 8] w2 _ := read_all 8#64 8 w2 M2
  rw [v1, c2] at key
  refine key.mono ?_
  clear key
  rintro e w3 ⟨rfl, hb⟩
  have M3 := M2.below hb
  replace HB := HBstep HB hb
  clear M2 hb
  go_wp2_with fail
  have key : Calls Try.prog 11 #[.pointer (some ⟨p, 0, none⟩), .int .u64 3, .int .i64 2] w3 _ := read_all 3#64 2 w3 M3
  rw [c3] at key
  refine key.mono ?_
  clear key
  rintro e w4 ⟨rfl, hb⟩
  have M4 := M3.below hb
  replace HB := HBstep HB hb
  clear M3 hb
  go_wp2_with fail
  have key : Calls Try.prog 11 #[.pointer (some ⟨p, 0, none⟩), .int .u64 32768, .int .i64 1] w4 _ := read_all 32768#64 1 w4 M4
  rw [c4] at key
  refine key.mono ?_
  clear key
  rintro e w5 ⟨rfl, hb⟩
  have M5 := M4.below hb
  replace HB := HBstep HB hb
  clear M4 hb
  go_wp2_with fail
  have key : Calls Try.prog 13 #[.pointer (some ⟨p, 0, none⟩), .int .u64 32767, .string ⟨#[97, 98]⟩] w5 _ := lay_all 32767#64 ⟨#[97, 98]⟩ w5 M5 (by decide)
  rw [l2, l1] at key
  refine key.mono ?_
  clear key
  rintro e w6 ⟨rfl, hu, M6⟩
  replace HB := Upd.below HB hu HB.size hg
  clear M5 hu
  go_wp2_with fail
  have key : Calls Try.prog 15 #[.pointer (some ⟨p, 0, none⟩), .int .i64 127] w6 _ := frame_all 127 w6 M6
  rw [fr1] at key
  refine key.mono ?_
  clear key
  rintro e w7 ⟨rfl, hb⟩
  have M7 := M6.below hb
  replace HB := HBstep HB hb
  clear M6 hb
  go_wp2_with fail
  have key : Calls Try.prog 15 #[.pointer (some ⟨p, 0, none⟩), .int .i64 128] w7 _ := frame_all 128 w7 M7
  rw [fr2] at key
  refine key.mono ?_
  clear key
  rintro e w8 ⟨rfl, hb⟩
  have M8 := M7.below hb
  replace HB := HBstep HB hb
  clear M7 hb
  go_wp2_with fail
  have key : Calls Try.prog 15 #[.pointer (some ⟨p, 0, none⟩), .int .i64 0] w8 _ := frame_all 0 w8 M8
  rw [fr3] at key
  refine key.mono ?_
  clear key
  rintro e w9 ⟨rfl, hb⟩
  have M9 := M8.below hb
  replace HB := HBstep HB hb
  clear M8 hb
  go_wp2_with fail
  have key : Calls Try.prog 15 #[.pointer (some ⟨p, 0, none⟩), .int .i64 0] w9 _ := frame_all 0 w9 M9
  rw [fr3] at key
  refine key.mono ?_
  clear key
  rintro e w10 ⟨rfl, hb⟩
  have M10 := M9.below hb
  replace HB := HBstep HB hb
  clear M9 hb
  go_wp2_with fail
  have key : Calls Try.prog 17 #[.pointer (some ⟨p, 0, none⟩), .pointer none] w10 _ := same_nil w10 M10
  rw [s1] at key
  refine key.mono ?_
  clear key
  rintro e w11 ⟨rfl, hb⟩
  have M11 := M10.below hb
  replace HB := HBstep HB hb
  clear M10 hb
  go_wp2_with fail
  refine (new_all _).mono ?_
  rintro e w12 ⟨p2, g2, rfl, hp2, hg2, hpl2, hgl2, N, hb⟩
  replace HB := HBstep HB hb
  clear hb
  go_wp2_with fail
  have key : Calls Try.prog 17 #[.pointer (some ⟨p2, 0, none⟩), .pointer none] w12 _ := same_nil w12 N
  rw [s2] at key
  refine key.mono ?_
  clear key
  rintro e w13 ⟨rfl, hb⟩
  replace HB := HBstep HB hb
  clear hb
  go_wp2_with fail
  go_ret
  exact ⟨rfl, HB⟩
end Go.Proofs.Ytkhiegmjdflkmaa
