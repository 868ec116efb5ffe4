/- Part 15 of the texts behind the law: contracts and lemmas, each proved; no condition but what each names. -/
import Derived.WalkKit
import Derived.Deep.QuietTactic
import Derived.BigQuiet
import Derived.Outline
import Derived.Handy
import Derived.WalkLawsBesides
import Derived.Lib.Hide
import Derived.Test.YtfehilinnalflaaGreatQ01
import Derived.Test.YtfehilinnalflaaGreatQ03
import Derived.Test.YtfehilinnalflaaGreatQ07
import Derived.Test.YtfehilinnalflaaGreatQ14
namespace Go.Proofs.YtfehilinnalflaaGreat
open Go.RowKit Go.BigFrame
set_option linter.unusedSimpArgs false
set_option linter.unusedVariables false
set_option maxRecDepth 100000
noncomputable def t__pipe_Pipe_begins (S : HS) (b0 : St) (b1 : Nat) (b2 : Nat) (b3 : Option Addr × Nat × Nat) (b4 : Option Addr) (b5 : BitVec 64) (b6 : Bool) (b7 : Int) (a8 : Int) : Tr := evFX Tryz.prog PlE 120 Tryz.f49 [.p 0 0, .d (.s (.x false (.int .i64 a8)))] ⟨[⟨80, [.S b0, .x false (.pointer (some ⟨b1, 0, none⟩)), .x false (.pointer (some ⟨b2, 0, none⟩)), .x false (.slice b3.1 b3.2.1 b3.2.2), .x false (.pointer b4), .u false b5, .x false (.bool b6), .x false (.int .i64 b7)]⟩], some S, true, 1⟩
set_option maxHeartbeats 4000000 in
theorem is__pipe_Pipe_begins (S : HS) (b0 : St) (b1 : Nat) (b2 : Nat) (b3 : Option Addr × Nat × Nat) (b4 : Option Addr) (b5 : BitVec 64) (b6 : Bool) (b7 : Int) (a8 : Int) : (t__pipe_Pipe_begins S b0 b1 b2 b3 b4 b5 b6 b7 a8).is ([.g [.u, .i .u32, .u, .u, .u, .b, .b, .i .i64, .i .i64, .i .i64, .i .i64, .i .i64, .i .i64, .b, .i .i64, .i .i64]]) = true := by kernel_rfl
set_option maxHeartbeats 4000000 in
theorem m__pipe_Pipe_begins (S : HS) (b0 : St) (b1 : Nat) (b2 : Nat) (b3 : Option Addr × Nat × Nat) (b4 : Option Addr) (b5 : BitVec 64) (b6 : Bool) (b7 : Int) (a8 : Int) : (t__pipe_Pipe_begins S b0 b1 b2 b3 b4 b5 b6 b7 a8).setM S = t__pipe_Pipe_begins S b0 b1 b2 b3 b4 b5 b6 b7 a8 := by kernel_rfl
noncomputable def s__pipe_Pipe_begins (avs : List AV) (H : Hp) : Option (Bool × AV × HS) :=
  match avs, H.m, H.rw with
  | [.p k0 0, .d (.s c8)], some S, true => match H.bs[k0]? with
    | some ⟨T0, [d0, d1, d2, d3, d4, d5, d6, d7]⟩ => if T0 = 80 ∧ True then (cS d0).bind fun b0 => (cP d1).bind fun b1 => (cP d2).bind fun b2 => (cL d3).bind fun b3 => (cPo d4).bind fun b4 => (cU d5).bind fun b5 => (cB d6).bind fun b6 => (cI .i64 d7).bind fun b7 => (cI .i64 c8).bind fun a8 => (told (t__pipe_Pipe_begins S b0 b1 b2 b3 b4 b5 b6 b7 a8) [.g [.u, .i .u32, .u, .u, .u, .b, .b, .i .i64, .i .i64, .i .i64, .i .i64, .i .i64, .i .i64, .b, .i .i64, .i .i64]]).map fun r => (r.1, r.2, Tr.theM (t__pipe_Pipe_begins S b0 b1 b2 b3 b4 b5 b6 b7 a8) S) else none
    | _ => none
  | _, _, _ => none
noncomputable def E__pipe_Pipe_begins : Env := PlE.addM 49 s__pipe_Pipe_begins
set_option maxHeartbeats 4000000 in
theorem E__pipe_Pipe_begins_ok : EnvOk Tryz.prog E__pipe_Pipe_begins := PlE_ok.addM _ _ (fun xs => by kernel_rfl) (by
  intro avs H n av H' h hn
  unfold s__pipe_Pipe_begins at h
  split at h
  · rename_i k0 c8 S hS hrw
    split at h
    · rename_i T0 d0 d1 d2 d3 d4 d5 d6 d7 hbk
      split at h
      · rename_i hT0
        obtain ⟨b0, g0, h⟩ := bind_some h
        obtain ⟨b1, g1, h⟩ := bind_some h
        obtain ⟨b2, g2, h⟩ := bind_some h
        obtain ⟨b3, g3, h⟩ := bind_some h
        obtain ⟨b4, g4, h⟩ := bind_some h
        obtain ⟨b5, g5, h⟩ := bind_some h
        obtain ⟨b6, g6, h⟩ := bind_some h
        obtain ⟨b7, g7, h⟩ := bind_some h
        obtain ⟨a8, h8, h⟩ := bind_some h
        obtain ⟨⟨n0, av0⟩, hq, he⟩ := Option.map_eq_some_iff.1 h
        clear h
        cases he
        exact turnM_ok (n := 120) (avs := [.p k0 0, .d (.s c8)]) (args := [.p 0 0, .d (.s (.x false (.int .i64 a8)))]) (t := (t__pipe_Pipe_begins S b0 b1 b2 b3 b4 b5 b6 b7 a8)) (sh := [.g [.u, .i .u32, .u, .u, .u, .b, .b, .i .i64, .i .i64, .i .i64, .i .i64, .i .i64, .i .i64, .b, .i .i64, .i .i64]]) PlE_ok hmix Tryz.func49 (Sub.one hbk hT0.1 (by simp only [flat, (cS_ok g0).1, (cP_ok g1).1, (cP_ok g2).1, (cL_ok g3).1, (cPo_ok g4).1, (cU_ok g5).1, (cB_ok g6).1, (cI_ok g7).1]) _ (fun T h => hS.trans h) true 1) rfl rfl hrw hS ⟨⟨rfl, rfl⟩, (by show Dv.val _ = Dv.val _; simp only [Dv.val, flat, (cI_ok h8).2]), trivial⟩ rfl (is__pipe_Pipe_begins S b0 b1 b2 b3 b4 b5 b6 b7 a8) (m__pipe_Pipe_begins S b0 b1 b2 b3 b4 b5 b6 b7 a8) hq hn
      · cases h
    · cases h
  · cases h)
noncomputable def FnYE : Env := E__pipe_Pipe_begins
theorem FnYE_ok : EnvOk Tryz.prog FnYE := E__pipe_Pipe_begins_ok
end Go.Proofs.YtfehilinnalflaaGreat
namespace Go.Proofs.YtfehilinnalflaaGreat
open Go.RowKit Go.BigFrame
set_option linter.unusedSimpArgs false
set_option linter.unusedVariables false
set_option maxRecDepth 100000
noncomputable def t__pipe_Pipe_flush (S : HS) (b0 : St) (b1 : Nat) (b2 : Nat) (b3 : Option Addr × Nat × Nat) (b4 : Option Addr) (b5 : BitVec 64) (b6 : Bool) (b7 : Int) : Tr := evFX Tryz.prog FnYE 120 Tryz.f41 [.p 0 0] ⟨[⟨80, [.S b0, .x false (.pointer (some ⟨b1, 0, none⟩)), .x false (.pointer (some ⟨b2, 0, none⟩)), .x false (.slice b3.1 b3.2.1 b3.2.2), .x false (.pointer b4), .u false b5, .x false (.bool b6), .x false (.int .i64 b7)]⟩], some S, false, 0⟩
set_option maxHeartbeats 4000000 in
theorem is__pipe_Pipe_flush (S : HS) (b0 : St) (b1 : Nat) (b2 : Nat) (b3 : Option Addr × Nat × Nat) (b4 : Option Addr) (b5 : BitVec 64) (b6 : Bool) (b7 : Int) : (t__pipe_Pipe_flush S b0 b1 b2 b3 b4 b5 b6 b7).is ([] ++ bsh [(80, [.S, .v, .v, .v, .v, .u, .b, .i .i64])]) = true := by kernel_rfl
set_option maxHeartbeats 4000000 in
theorem v2__pipe_Pipe_flush (S : HS) (b0 : St) (b1 : Nat) (b2 : Nat) (b3 : Option Addr × Nat × Nat) (b4 : Option Addr) (b5 : BitVec 64) (b6 : Bool) (b7 : Int) : (t__pipe_Pipe_flush S b0 b1 b2 b3 b4 b5 b6 b7).setV 0 2 b2 = t__pipe_Pipe_flush S b0 b1 b2 b3 b4 b5 b6 b7 := by kernel_rfl
set_option maxHeartbeats 4000000 in
theorem v1__pipe_Pipe_flush (S : HS) (b0 : St) (b1 : Nat) (b2 : Nat) (b3 : Option Addr × Nat × Nat) (b4 : Option Addr) (b5 : BitVec 64) (b6 : Bool) (b7 : Int) : (t__pipe_Pipe_flush S b0 b1 b2 b3 b4 b5 b6 b7).setV 0 1 b1 = t__pipe_Pipe_flush S b0 b1 b2 b3 b4 b5 b6 b7 := by kernel_rfl
end Go.Proofs.YtfehilinnalflaaGreat
namespace Go.Proofs.YtfehilinnalflaaGreat
open Go.RowKit Go.BigFrame
set_option linter.unusedSimpArgs false
set_option linter.unusedVariables false
set_option maxRecDepth 100000
theorem set_at {α : Type} {l : List α} {k : Nat} {x : α} (h : l[k]? = some x) : l.set k x = l := by
  apply List.ext_getElem?
  intro j
  by_cases e : j = k
  · subst e; rw [List.getElem?_set_self (List.getElem?_eq_some_iff.1 h).1, h]
  · rw [List.getElem?_set_ne (fun x => e x.symm)]
structure InV where
  op : Int
  rd : Int
  rs1 : Int
  rs2 : Int
  imm : Int
  csr : Int
def inL (i : InV) : List Value := [.int .i64 i.op, .int .i64 i.rd, .int .i64 i.rs1, .int .i64 i.rs2, .int .i64 i.imm, .int .i64 i.csr]
structure SlV where
  pc : BitVec 64
  w : Int
  f1 : BitVec 64
  f2 : BitVec 64
  f3 : BitVec 64
  f4 : Bool
  ok : Bool
  i : InV
  is : Bool
  stage : Int
  left : Int
def slL (x : SlV) : List Value := [U x.pc, .int .u32 x.w, U x.f1, U x.f2, U x.f3, .bool x.f4, .bool x.ok, .int .i64 x.i.op, .int .i64 x.i.rd, .int .i64 x.i.rs1, .int .i64 x.i.rs2, .int .i64 x.i.imm, .int .i64 x.i.csr, .bool x.is, .int .i64 x.stage, .int .i64 x.left]
def SlAt (w : World) (L off c : Nat) (l : List SlV) : Prop :=
  ∃ arr : Array Value, w.heap[L]? = some (.cells arr 130 (0, 0)) ∧ off + c * 16 ≤ arr.size ∧ l.length ≤ c ∧ ∀ (k : Nat) (x : SlV), l[k]? = some x → ∀ (j : Nat) (v : Value), (slL x)[j]? = some v → arr[off + k * 16 + j]? = some v
theorem slL_len (x : SlV) : (slL x).length = 16 := rfl
theorem SlAt.cell {w : World} {L off c : Nat} {l : List SlV} (h : SlAt w L off c l) {k : Nat} {x : SlV} (hk : l[k]? = some x) {j : Nat} {v : Value} (hj : (slL x)[j]? = some v) : w.cell? ⟨L, off + k * 16 + j, none⟩ = some v := by
  obtain ⟨arr, h1, h2, h3, h4⟩ := h
  simp [World.cell?, h1, h4 k x hk j v hj]
theorem SlAt.free {w : World} {L off c : Nat} {l : List SlV} (h : SlAt w L off c l) (o : Nat) : w.frozen? ⟨L, o, none⟩ = false := by
  obtain ⟨arr, h1, h2, h3, h4⟩ := h
  simp [World.frozen?, h1]
theorem SlAt.keep {w w' : World} {L off c : Nat} {l : List SlV} (h : SlAt w L off c l) (e : w'.heap[L]? = w.heap[L]?) : SlAt w' L off c l := by
  obtain ⟨arr, h1, h2⟩ := h
  exact ⟨arr, by rw [e]; exact h1, h2⟩
theorem SlAt.lt {w : World} {L off c : Nat} {l : List SlV} (h : SlAt w L off c l) : L < w.heap.size := by
  obtain ⟨arr, h1, _⟩ := h
  exact blk_lt h1
theorem SlAt.beyond {w : World} {L off c : Nat} {l : List SlV} (h : SlAt w L off c l) (s : Beyond w) : SlAt s.to L off c l := h.keep (s.ok.block L h.lt)
theorem SlAt.set {w : World} {L off c : Nat} {l : List SlV} (h : SlAt w L off c l) {k : Nat} {x x' : SlV} (hk : l[k]? = some x) {j : Nat} {v : Value} (hj : j < 16) (hx : slL x' = (slL x).set j v) : SlAt (w.setCell ⟨L, off + k * 16 + j, none⟩ v) L off c (l.set k x') := by
  obtain ⟨arr, h1, h2, h3, h4⟩ := h
  have hkl := (List.getElem?_eq_some_iff.1 hk).1
  have hb : off + k * 16 + j < arr.size := by omega
  refine ⟨arr.set! (off + k * 16 + j) v, set_block h1 hb, by simpa using h2, by simpa using h3, fun k' y hy j' u hu => ?_⟩
  have hj' : j' < 16 := by have := (List.getElem?_eq_some_iff.1 hu).1; rw [slL_len] at this; exact this
  rw [Array.set!_eq_setIfInBounds]
  by_cases e : k' = k
  · subst e
    rw [List.getElem?_set_self hkl] at hy
    cases hy
    rw [hx] at hu
    by_cases e2 : j' = j
    · subst e2
      rw [List.getElem?_set_self (by rw [slL_len]; exact hj)] at hu
      cases hu
      rw [Array.getElem?_setIfInBounds_self, if_pos hb]
    · rw [List.getElem?_set_ne (fun e => e2 e.symm)] at hu
      rw [Array.getElem?_setIfInBounds_ne (by omega)]
      exact h4 k' x hk j' u hu
  · rw [List.getElem?_set_ne (fun x => e x.symm)] at hy
    rw [Array.getElem?_setIfInBounds_ne (by omega)]
    exact h4 k' y hy j' u hu
def pipA (s : St) (b t : Nat) (a : Option Addr) (n c : Nat) (nx : Option Addr) (at_ : BitVec 64) (stops : Bool) (cy : Int) : Array Value :=
  (stL s ++ [.pointer (some ⟨b, 0, none⟩), .pointer (some ⟨t, 0, none⟩), .slice a n c, .pointer nx, U at_, .bool stops, .int .i64 cy]).toArray
theorem stL_len' (s : St) : (stL s).length = 65 := by have := stA_size s; unfold stA at this; simpa using this
theorem pip_cell {w : World} {P : Nat} {s : St} {b t : Nat} {a : Option Addr} {n c : Nat} {nx : Option Addr} {at_ : BitVec 64} {stops : Bool} {cy : Int} (h : w.heap[P]? = some (.cells (pipA s b t a n c nx at_ stops cy) 80 (0, 0))) (j : Nat) {v : Value}
    (hj : [Value.pointer (some ⟨b, 0, none⟩), .pointer (some ⟨t, 0, none⟩), .slice a n c, .pointer nx, U at_, .bool stops, .int .i64 cy][j]? = some v) : w.cell? ⟨P, 65 + j, none⟩ = some v := by
  have e : (stL s ++ [Value.pointer (some ⟨b, 0, none⟩), .pointer (some ⟨t, 0, none⟩), .slice a n c, .pointer nx, U at_, .bool stops, .int .i64 cy])[65 + j]? = some v := by
    rw [List.getElem?_append_right (by rw [stL_len']; omega), stL_len', show 65 + j - 65 = j by omega]; exact hj
  simp [World.cell?, h, pipA, e]
def blocked (wt : InV → InV → Bool) (prev : Option SlV) (x : SlV) : Bool :=
  match prev with
  | some p => decide (p.stage ≤ x.stage + 1) || (decide (x.stage = 1) && wt p.i x.i)
  | none => false
def moveOne (wt : InV → InV → Bool) (sz : InV → Bool) (late : Int) (prev : Option SlV) (x : SlV) : SlV :=
  if x.stage = 3 then { x with left := if x.left - 1 < 0 then 0 else x.left - 1 }
  else if blocked wt prev x = true then x
  else if x.stage + 1 = 3 ∧ sz x.i = true then { x with stage := x.stage + 1, left := late }
  else { x with stage := x.stage + 1 }
def movesV (wt : InV → InV → Bool) (sz : InV → Bool) (late : Int) : Option SlV → List SlV → List SlV
  | _, [] => []
  | prev, x :: l => let y := moveOne wt sz late prev x; y :: movesV wt sz late (some y) l
theorem movesV_len (wt : InV → InV → Bool) (sz : InV → Bool) (late : Int) : ∀ (p : Option SlV) (l : List SlV), (movesV wt sz late p l).length = l.length
  | _, [] => rfl
  | p, x :: l => by show (movesV wt sz late _ l).length + 1 = _; rw [movesV_len wt sz late _ l]; rfl
def movedTo (wt : InV → InV → Bool) (sz : InV → Bool) (late : Int) (l : List SlV) (m : Nat) : List SlV := (movesV wt sz late none l).take m ++ l.drop m
def prevAt (p : Option SlV) (l : List SlV) : Nat → Option SlV
  | 0 => p
  | k + 1 => l[k]?
theorem movesV_at (wt : InV → InV → Bool) (sz : InV → Bool) (late : Int) : ∀ (l : List SlV) (p : Option SlV) (m : Nat) (x : SlV), l[m]? = some x →
    (movesV wt sz late p l)[m]? = some (moveOne wt sz late (prevAt p (movesV wt sz late p l) m) x)
  | [], p, m, x, h => by cases h
  | y :: l, p, m, x, h => by
    cases m with
    | zero => cases h; rfl
    | succ m =>
      have h' : l[m]? = some x := h
      show (movesV wt sz late (some (moveOne wt sz late p y)) l)[m]? = _
      rw [movesV_at wt sz late l _ m x h']
      cases m with
      | zero => rfl
      | succ k => rfl
theorem moveOne_i (wt : InV → InV → Bool) (sz : InV → Bool) (late : Int) (p : Option SlV) (x : SlV) : (moveOne wt sz late p x).i = x.i := by
  unfold moveOne
  split
  · rfl
  · split
    · rfl
    · split <;> rfl
theorem movesV_i (wt : InV → InV → Bool) (sz : InV → Bool) (late : Int) : ∀ (l : List SlV) (p : Option SlV) (k : Nat) (y : SlV), (movesV wt sz late p l)[k]? = some y → ∃ x ∈ l, y.i = x.i
  | [], p, k, y, h => by cases h
  | x :: l, p, k, y, h => by
    cases k with
    | zero => cases h; exact ⟨x, by simp, moveOne_i wt sz late p x⟩
    | succ k =>
      obtain ⟨z, h1, h2⟩ := movesV_i wt sz late l _ k y h
      exact ⟨z, by simp [h1], h2⟩
theorem movedTo_i (wt : InV → InV → Bool) (sz : InV → Bool) (late : Int) (l : List SlV) (m k : Nat) (y : SlV) (h : (movedTo wt sz late l m)[k]? = some y) : ∃ x ∈ l, y.i = x.i := by
  have h1 := List.mem_of_getElem? h
  unfold movedTo at h1
  rcases List.mem_append.1 h1 with h2 | h2
  · obtain ⟨j, hj⟩ := List.mem_iff_getElem?.1 (List.mem_of_mem_take h2)
    exact movesV_i wt sz late l none j y hj
  · exact ⟨y, List.mem_of_mem_drop h2, rfl⟩
theorem movedTo_zero (wt : InV → InV → Bool) (sz : InV → Bool) (late : Int) (l : List SlV) : movedTo wt sz late l 0 = l := by simp [movedTo]
theorem movedTo_all (wt : InV → InV → Bool) (sz : InV → Bool) (late : Int) (l : List SlV) : movedTo wt sz late l l.length = movesV wt sz late none l := by
  unfold movedTo; rw [List.drop_length, List.append_nil, List.take_of_length_le (by rw [movesV_len]; exact Nat.le_refl _)]
theorem movedTo_len (wt : InV → InV → Bool) (sz : InV → Bool) (late : Int) (l : List SlV) (m : Nat) (h : m ≤ l.length) : (movedTo wt sz late l m).length = l.length := by
  unfold movedTo; simp [movesV_len]; omega
theorem movedTo_cur (wt : InV → InV → Bool) (sz : InV → Bool) (late : Int) (l : List SlV) (m : Nat) (h : m < l.length) : (movedTo wt sz late l m)[m]? = l[m]? := by
  unfold movedTo
  rw [List.getElem?_append_right (by simp; omega)]
  simp [movesV_len, Nat.min_eq_left (Nat.le_of_lt h)]
theorem movedTo_old (wt : InV → InV → Bool) (sz : InV → Bool) (late : Int) (l : List SlV) (m k : Nat) (h : m ≤ l.length) (hk : k < m) : (movedTo wt sz late l m)[k]? = (movesV wt sz late none l)[k]? := by
  unfold movedTo
  rw [List.getElem?_append_left (by simp [movesV_len]; omega), List.getElem?_take_of_lt hk]
theorem movedTo_step (wt : InV → InV → Bool) (sz : InV → Bool) (late : Int) (l : List SlV) (m : Nat) (x : SlV) (hx : l[m]? = some x) :
    movedTo wt sz late l (m + 1) = (movedTo wt sz late l m).set m (moveOne wt sz late (prevAt none (movedTo wt sz late l m) m) x) := by
  have hm := (List.getElem?_eq_some_iff.1 hx).1
  have e : prevAt none (movedTo wt sz late l m) m = prevAt none (movesV wt sz late none l) m := by
    cases m with
    | zero => rfl
    | succ k => exact movedTo_old wt sz late l (k + 1) k (by omega) (by omega)
  rw [e]
  have hv := movesV_at wt sz late l none m x hx
  apply List.ext_getElem?
  intro j
  by_cases hj : j = m
  · subst hj
    rw [List.getElem?_set_self (by rw [movedTo_len _ _ _ _ _ (by omega)]; exact hm), movedTo_old wt sz late l (j + 1) j (by omega) (by omega)]
    exact hv
  · rw [List.getElem?_set_ne (fun e => hj e.symm)]
    by_cases h2 : j < m
    · rw [movedTo_old wt sz late l (m + 1) j (by omega) (by omega), movedTo_old wt sz late l m j (by omega) h2]
    · unfold movedTo
      rw [List.getElem?_append_right (by simp [movesV_len]; omega), List.getElem?_append_right (by simp [movesV_len]; omega)]
      simp only [List.length_take, movesV_len, List.getElem?_drop, Nat.min_eq_left (show m + 1 ≤ l.length by omega), Nat.min_eq_left (show m ≤ l.length by omega)]
      congr 1; omega
end Go.Proofs.YtfehilinnalflaaGreat
namespace Go.Proofs.YtfehilinnalflaaGreat
open Go.RowKit Go.BigFrame
set_option linter.unusedSimpArgs false
set_option linter.unusedVariables false
set_option maxRecDepth 100000
def Waits (Q : InV → Prop) (wt : InV → InV → Bool) : Prop := ∀ a b : InV, Q a → Q b → Gives Tryz.prog 47 #[.agg (inL a).toArray, .agg (inL b).toArray] (.bool (wt a b))
def Sizes (Q : InV → Prop) (sz : Int → Int) : Prop := ∀ i : InV, Q i → Gives Tryz.prog 73 #[.int .i64 i.op] (.int .i64 (sz i.op))
theorem asks_b {sz : Int → Int} {op : Int} (s0 : Gives Tryz.prog 73 #[.int .i64 op] (.int .i64 (sz op))) (L o : Nat) (w : World) (h : w.cell? ⟨L, o + 7, none⟩ = some (.int .i64 op)) :
    Calls Tryz.prog 48 #[.pointer (some ⟨L, o, none⟩)] w fun e w' => e = .returned (.bool (decide (0 < sz op))) ∧ Below w.heap.size w w' := by
  have HB := Below.refl w.heap.size w
  go_enter Tryz.func48, Tryz.ntmps48
  go_wp2_with fail
  (with_reducible refine (s0.on HB).mono ?_)
  rintro e w1 ⟨rfl, HB⟩
  go_wp2_with fail
  go_ret
  exact ⟨rfl, HB⟩
theorem moves_nil (w : World) (P : Nat) (s : St) (b t : Nat) (a : Option Addr) (n c : Nat) (nx : Option Addr) (at_ : BitVec 64) (stops : Bool) (cy late : Int) (hn : n = 0) (hP : w.heap[P]? = some (.cells (pipA s b t a n c nx at_ stops cy) 80 (0, 0))) :
    Calls Tryz.prog 31 #[.pointer (some ⟨P, 0, none⟩), .int .i64 late] w fun e w' => e = .returned (.tuple #[]) ∧ w = w' := by
  have c3 : w.cell? ⟨P, 67, none⟩ = some (.slice a n c) := pip_cell hP 2 rfl
  have HN := Lib.hid hn
  clear hP hn
  go_enter Tryz.func31, Tryz.ntmps31
  go_wp2_with fail
  go_loopw [11] (fun i wr => i = .int .i64 0 ∧ w = wr) (fun i _ => 0)
  case atStart => exact ⟨rfl, rfl⟩
  case round =>
    obtain ⟨rfl, rfl⟩ := hrel
    have g0 : decide (0 < n) = false := decide_eq_false (by have := HN.out; omega)
    go_wp2_with fail
    all_goals first | (exfalso; have := HN.out; omega) | (go_end0; exact ⟨rfl, rfl⟩)
set_option maxHeartbeats 2000000 in
theorem moves_b {Q : InV → Prop} {wt : InV → InV → Bool} {sz : Int → Int} (hW : Waits Q wt) (hZ : Sizes Q sz) (w : World) (P L : Nat) (s : St) (b t off n c : Nat) (nx : Option Addr) (at_ : BitVec 64) (stops : Bool) (cy late : Int) (l : List SlV) (hl : l.length = n) (hn : n ≤ 4)
    (hP : w.heap[P]? = some (.cells (pipA s b t (some ⟨L, off, none⟩) n c nx at_ stops cy) 80 (0, 0))) (hS : SlAt w L off c l) (hPL : P ≠ L) (hQ : ∀ x ∈ l, Q x.i) (hb : ∀ x ∈ l, 0 ≤ x.stage ∧ x.stage ≤ 3 ∧ 0 ≤ x.left ∧ x.left ≤ 7) :
    Calls Tryz.prog 31 #[.pointer (some ⟨P, 0, none⟩), .int .i64 late] w fun e w' => e = .returned (.tuple #[]) ∧ SlAt w' L off c (movesV wt (fun i => decide (0 < sz i.op)) late none l) ∧ Upd w w' L := by
  have c3 : w.cell? ⟨P, 67, none⟩ = some (.slice (some ⟨L, off, none⟩) n c) := pip_cell hP 2 rfl
  have hPl := blk_lt hP
  have HP := Lib.hid hP
  have HS := Lib.hid hS
  clear hP hS
  go_enter Tryz.func31, Tryz.ntmps31
  go_wp2_with fail
  go_loopw [11] (fun i wr => ∃ m : Nat, m ≤ n ∧ i = .int .i64 m ∧ SlAt wr L off c (movedTo wt (fun i => decide (0 < sz i.op)) late l m) ∧ Upd w wr L) (fun i _ => n - (intOf i).toNat)
  case atStart => exact ⟨0, by omega, rfl, by rw [movedTo_zero]; exact HS.out, Upd.of_below (Below.refl _ _) L⟩
  case round =>
    obtain ⟨m, hm, rfl, hS, hU⟩ := hrel
    have c3 : wr.cell? ⟨P, 67, none⟩ = some (.slice (some ⟨L, off, none⟩) n c) := pip_cell ((hU.block P hPl hPL).trans HP.out) 2 rfl
    by_cases hmn : m < n
    · obtain ⟨x, hx⟩ : ∃ x, l[m]? = some x := ⟨l[m]'(by omega), by simp⟩
      have hxb := hb x (List.mem_of_getElem? hx)
      have HQX := Lib.hid (hQ x (List.mem_of_getElem? hx))
      have HZX := Lib.hid (hZ x.i HQX.out)
      have hcur : (movedTo wt (fun i => decide (0 < sz i.op)) late l m)[m]? = some x := by rw [movedTo_cur _ _ _ _ _ (by omega)]; exact hx
      have c14 : wr.cell? ⟨L, off + m * 16 + 14, none⟩ = some (.int .i64 x.stage) := hS.cell hcur rfl
      have c15 : wr.cell? ⟨L, off + m * 16 + 15, none⟩ = some (.int .i64 x.left) := hS.cell hcur rfl
      have c7 : wr.cell? ⟨L, off + m * 16 + 7, none⟩ = some (.int .i64 x.i.op) := hS.cell hcur rfl
      have c8 : wr.cell? ⟨L, off + m * 16 + 8, none⟩ = some (.int .i64 x.i.rd) := hS.cell hcur rfl
      have c9 : wr.cell? ⟨L, off + m * 16 + 9, none⟩ = some (.int .i64 x.i.rs1) := hS.cell hcur rfl
      have c10 : wr.cell? ⟨L, off + m * 16 + 10, none⟩ = some (.int .i64 x.i.rs2) := hS.cell hcur rfl
      have c11 : wr.cell? ⟨L, off + m * 16 + 11, none⟩ = some (.int .i64 x.i.imm) := hS.cell hcur rfl
      have c12 : wr.cell? ⟨L, off + m * 16 + 12, none⟩ = some (.int .i64 x.i.csr) := hS.cell hcur rfl
      have hfree : ∀ o, wr.frozen? ⟨L, o, none⟩ = false := fun o => hS.free o
      have HS2 := Lib.hid hS
      have HU := Lib.hid hU
      clear hS hU
      by_cases h3 : x.stage = 3
      · rw [h3] at c14
        go_wp2_with fail
        refine ⟨⟨m + 1, by omega, rfl, ?_, HU.out.trans (set_upd _ _ _ _)⟩, by simp [intOf]; omega⟩
        rw [movedTo_step _ _ _ _ _ x hx]
        refine HS2.out.set hcur (by omega) ?_
        unfold moveOne
        rw [if_pos h3]; rfl
      · have t3 : (x.stage == 3) = false := beq_eq_false_iff_ne.2 h3
        have e14 : ∀ q : Beyond wr, q.to.cell? ⟨L, off + m * 16 + 14, none⟩ = some (.int .i64 x.stage) := fun q => (HS2.out.beyond q).cell hcur rfl
        have e7 : ∀ q : Beyond wr, q.to.cell? ⟨L, off + m * 16 + 7, none⟩ = some (.int .i64 x.i.op) := fun q => (HS2.out.beyond q).cell hcur rfl
        have e8 : ∀ q : Beyond wr, q.to.cell? ⟨L, off + m * 16 + 8, none⟩ = some (.int .i64 x.i.rd) := fun q => (HS2.out.beyond q).cell hcur rfl
        have e9 : ∀ q : Beyond wr, q.to.cell? ⟨L, off + m * 16 + 9, none⟩ = some (.int .i64 x.i.rs1) := fun q => (HS2.out.beyond q).cell hcur rfl
        have e10 : ∀ q : Beyond wr, q.to.cell? ⟨L, off + m * 16 + 10, none⟩ = some (.int .i64 x.i.rs2) := fun q => (HS2.out.beyond q).cell hcur rfl
        have e11 : ∀ q : Beyond wr, q.to.cell? ⟨L, off + m * 16 + 11, none⟩ = some (.int .i64 x.i.imm) := fun q => (HS2.out.beyond q).cell hcur rfl
        have e12 : ∀ q : Beyond wr, q.to.cell? ⟨L, off + m * 16 + 12, none⟩ = some (.int .i64 x.i.csr) := fun q => (HS2.out.beyond q).cell hcur rfl
        have e3 : ∀ q : Beyond wr, q.to.cell? ⟨P, 67, none⟩ = some (.slice (some ⟨L, off, none⟩) n c) := fun q => pip_cell ((q.ok.block P (Nat.lt_of_lt_of_le hPl HU.out.size)).trans ((HU.out.block P hPl hPL).trans HP.out)) 2 rfl
        by_cases hm0 : m = 0
        · have g0 : decide (0 < m) = false := decide_eq_false (by omega)
          have HG := Lib.hid (show blocked wt (prevAt none (movedTo wt (fun i => decide (0 < sz i.op)) late l m) (m)) x = false by rw [hm0]; rfl)
          have HM0 := Lib.hid hm0
          clear hm0
          go_wp2_with fail
          refine wp_region_below (W := wr) (by kernel_rfl) (by kernel_rfl) (Below.refl _ _) ?_
          repeat (first | go_big_quiet_step (fail) | rw [g0])
          refine wpQuiet_nil ?_
          intro w4 hb4
          have HS4 := Lib.hid (HS2.out.keep (hb4.block L HS2.out.lt))
          have d14 : w4.cell? ⟨L, off + m * 16 + 14, none⟩ = some (.int .i64 x.stage) := HS4.out.cell hcur rfl
          have hfree4 : ∀ o, w4.frozen? ⟨L, o, none⟩ = false := fun o => HS4.out.free o
          have HB4 := Lib.hid hb4
          clear hb4 e14 e7 e8 e9 e10 e11 e12 e3 hfree HS2 c14 c15 c7 c8 c9 c10 c11 c12
          by_cases h2 : x.stage = 2
          · rw [h2] at d14
            go_wp2_with fail
            obtain ⟨w5, hw5⟩ : ∃ w5, w5 = w4.setCell ⟨L, off + m * 16 + 14, none⟩ (.int .i64 3) := ⟨_, rfl⟩
            rw [← hw5]
            have S5 : SlAt w5 L off c ((movedTo wt (fun i => decide (0 < sz i.op)) late l m).set (m) { x with stage := 3 }) := by rw [hw5]; exact HS4.out.set hcur (by omega) rfl
            have U5 : Upd w w5 L := by rw [hw5]; exact (HU.out.trans (Upd.of_below HB4.out L)).trans (set_upd _ _ _ _)
            have hcur5 : ((movedTo wt (fun i => decide (0 < sz i.op)) late l m).set (m) { x with stage := 3 })[m]? = some { x with stage := 3 } := List.getElem?_set_self (by rw [movedTo_len _ _ _ _ _ (by omega)]; omega)
            (with_reducible refine (asks_b HZX.out L (off + (m) * 16) w5 (S5.cell hcur5 (j := 7) rfl)).mono ?_)
            rintro e w6 ⟨rfl, hb6⟩
            have S6 := Lib.hid (S5.keep (hb6.block L S5.lt))
            have U6 := Lib.hid (U5.trans (Upd.of_below hb6 L))
            have hfree6 : ∀ o, w6.frozen? ⟨L, o, none⟩ = false := fun o => S6.out.free o
            have d15 : w6.cell? ⟨L, off + m * 16 + 15, none⟩ = some (.int .i64 x.left) := S6.out.cell hcur5 rfl
            clear hw5 S5 U5 hb6 hfree4 d14
            cases hz : decide (0 < sz x.i.op)
            · go_wp2_with fail
              refine ⟨⟨m + 1, by omega, by simp, ?_, U6.out⟩, by simp [intOf]; omega⟩
              rw [movedTo_step _ _ _ _ _ x hx]
              have e : moveOne wt (fun i => decide (0 < sz i.op)) late (prevAt none (movedTo wt (fun i => decide (0 < sz i.op)) late l m) (m)) x = { x with stage := 3 } := by
                unfold moveOne
                rw [if_neg h3, if_neg (by rw [HG.out]; decide), if_neg (by show ¬ (x.stage + 1 = 3 ∧ decide (0 < sz x.i.op) = true); rw [hz]; simp), h2]; rfl
              rw [e]; exact S6.out
            · go_wp2_with fail
              refine ⟨⟨m + 1, by omega, by simp, ?_, U6.out.trans (set_upd _ _ _ _)⟩, by simp [intOf]; omega⟩
              rw [movedTo_step _ _ _ _ _ x hx]
              have e : moveOne wt (fun i => decide (0 < sz i.op)) late (prevAt none (movedTo wt (fun i => decide (0 < sz i.op)) late l m) (m)) x = { x with stage := 3, left := late } := by
                unfold moveOne
                rw [if_neg h3, if_neg (by rw [HG.out]; decide), if_pos ⟨by rw [h2]; rfl, hz⟩, h2]; rfl
              rw [e]
              have := S6.out.set hcur5 (j := 15) (v := .int .i64 late) (x' := { x with stage := 3, left := late }) (by omega) rfl
              rw [List.set_set] at this
              exact this
          · have t2 : (x.stage + 1 == 3) = false := beq_eq_false_iff_ne.2 (by omega)
            go_wp2_with fail
            refine ⟨⟨m + 1, by omega, by simp, ?_, (HU.out.trans (Upd.of_below HB4.out L)).trans (set_upd _ _ _ _)⟩, by simp [intOf]; omega⟩
            rw [movedTo_step _ _ _ _ _ x hx]
            have e : moveOne wt (fun i => decide (0 < sz i.op)) late (prevAt none (movedTo wt (fun i => decide (0 < sz i.op)) late l m) (m)) x = { x with stage := x.stage + 1 } := by
              unfold moveOne
              rw [if_neg h3, if_neg (by rw [HG.out]; decide), if_neg (by omega)]
            rw [e]
            exact HS4.out.set hcur (by omega) rfl
        · obtain ⟨k, rfl⟩ : ∃ k, m = k + 1 := ⟨m - 1, by omega⟩
          clear hm0
          obtain ⟨y, hy⟩ : ∃ y, (movedTo wt (fun i => decide (0 < sz i.op)) late l (k + 1))[k]? = some y := ⟨_, List.getElem?_eq_getElem (by rw [movedTo_len _ _ _ _ _ (by omega)]; omega)⟩
          have p14 : ∀ q : Beyond wr, q.to.cell? ⟨L, off + k * 16 + 14, none⟩ = some (.int .i64 y.stage) := fun q => (HS2.out.beyond q).cell hy rfl
          have p7 : ∀ q : Beyond wr, q.to.cell? ⟨L, off + k * 16 + 7, none⟩ = some (.int .i64 y.i.op) := fun q => (HS2.out.beyond q).cell hy rfl
          have p8 : ∀ q : Beyond wr, q.to.cell? ⟨L, off + k * 16 + 8, none⟩ = some (.int .i64 y.i.rd) := fun q => (HS2.out.beyond q).cell hy rfl
          have p9 : ∀ q : Beyond wr, q.to.cell? ⟨L, off + k * 16 + 9, none⟩ = some (.int .i64 y.i.rs1) := fun q => (HS2.out.beyond q).cell hy rfl
          have p10 : ∀ q : Beyond wr, q.to.cell? ⟨L, off + k * 16 + 10, none⟩ = some (.int .i64 y.i.rs2) := fun q => (HS2.out.beyond q).cell hy rfl
          have p11 : ∀ q : Beyond wr, q.to.cell? ⟨L, off + k * 16 + 11, none⟩ = some (.int .i64 y.i.imm) := fun q => (HS2.out.beyond q).cell hy rfl
          have p12 : ∀ q : Beyond wr, q.to.cell? ⟨L, off + k * 16 + 12, none⟩ = some (.int .i64 y.i.csr) := fun q => (HS2.out.beyond q).cell hy rfl
          have hprev : prevAt none (movedTo wt (fun i => decide (0 < sz i.op)) late l (k + 1)) (k + 1) = some y := hy
          have HY := Lib.hid hy
          have HQY := Lib.hid (show Q y.i by obtain ⟨z, hz1, hz2⟩ := movedTo_i _ _ _ _ _ _ _ hy; rw [hz2]; exact hQ z hz1)
          by_cases g1 : y.stage ≤ x.stage + 1
          · have t1 : decide (y.stage ≤ x.stage + 1) = true := decide_eq_true g1
            have HG := Lib.hid (show blocked wt (prevAt none (movedTo wt (fun i => decide (0 < sz i.op)) late l (k + 1)) ((k + 1))) x = true by rw [hprev]; show (decide (y.stage ≤ x.stage + 1) || (decide (x.stage = 1) && wt y.i x.i)) = _; simp [g1])
            have HPV := Lib.hid hprev
            clear hprev hy
            go_wp2_with fail
            refine wp_region_below (W := wr) (by kernel_rfl) (by kernel_rfl) (Below.refl _ _) ?_
            repeat (first | go_big_quiet_step (fail) | rw [t1])
            refine wpQuiet_nil ?_
            intro w4 hb4
            have HS4 := Lib.hid (HS2.out.keep (hb4.block L HS2.out.lt))
            have HB4 := Lib.hid hb4
            clear hb4 e14 e7 e8 e9 e10 e11 e12 e3 hfree HS2 c14 c15 c7 c8 c9 c10 c11 c12
            go_wp2_with fail
            refine ⟨⟨(k + 1) + 1, by omega, by simp, ?_, HU.out.trans (Upd.of_below HB4.out L)⟩, by simp [intOf]; omega⟩
            rw [movedTo_step _ _ _ _ _ x hx]
            have e : moveOne wt (fun i => decide (0 < sz i.op)) late (prevAt none (movedTo wt (fun i => decide (0 < sz i.op)) late l (k + 1)) ((k + 1))) x = x := by
              unfold moveOne
              rw [if_neg h3, if_pos (by rw [HG.out])]
            rw [e, set_at hcur]
            exact HS4.out
          · have t1 : decide (y.stage ≤ x.stage + 1) = false := decide_eq_false g1
            by_cases h1 : x.stage = 1
            · have u1 : (x.stage == 1) = true := beq_iff_eq.2 h1
              cases hw : wt y.i x.i
              · have s0 : Gives Tryz.prog 47 #[.agg #[.int .i64 y.i.op, .int .i64 y.i.rd, .int .i64 y.i.rs1, .int .i64 y.i.rs2, .int .i64 y.i.imm, .int .i64 y.i.csr], .agg #[.int .i64 x.i.op, .int .i64 x.i.rd, .int .i64 x.i.rs1, .int .i64 x.i.rs2, .int .i64 x.i.imm, .int .i64 x.i.csr]] (.bool (wt y.i x.i)) := hW y.i x.i HQY.out HQX.out
                rw [hw] at s0
                have HG := Lib.hid (show blocked wt (prevAt none (movedTo wt (fun i => decide (0 < sz i.op)) late l (k + 1)) ((k + 1))) x = false by rw [hprev]; show (decide (y.stage ≤ x.stage + 1) || (decide (x.stage = 1) && wt y.i x.i)) = _; simp [g1, h1, hw]; omega)
                clear h1
                have HPV := Lib.hid hprev
                clear hprev hy
                go_wp2_with fail
                refine wp_region_below (W := wr) (by kernel_rfl) (by kernel_rfl) (Below.refl _ _) ?_
                repeat (first | go_big_quiet_step ((go_at_call 47; with_reducible exact (s0.at_ _))) | rw [t1] | rw [u1])
                refine wpQuiet_nil ?_
                intro w4 hb4
                have HS4 := Lib.hid (HS2.out.keep (hb4.block L HS2.out.lt))
                have d14 : w4.cell? ⟨L, off + (k + 1) * 16 + 14, none⟩ = some (.int .i64 x.stage) := HS4.out.cell hcur rfl
                have hfree4 : ∀ o, w4.frozen? ⟨L, o, none⟩ = false := fun o => HS4.out.free o
                have HB4 := Lib.hid hb4
                clear hb4 e14 e7 e8 e9 e10 e11 e12 e3 hfree HS2 c14 c15 c7 c8 c9 c10 c11 c12
                by_cases h2 : x.stage = 2
                · rw [h2] at d14
                  go_wp2_with fail
                  obtain ⟨w5, hw5⟩ : ∃ w5, w5 = w4.setCell ⟨L, off + (k + 1) * 16 + 14, none⟩ (.int .i64 3) := ⟨_, rfl⟩
                  rw [← hw5]
                  have S5 : SlAt w5 L off c ((movedTo wt (fun i => decide (0 < sz i.op)) late l (k + 1)).set ((k + 1)) { x with stage := 3 }) := by rw [hw5]; exact HS4.out.set hcur (by omega) rfl
                  have U5 : Upd w w5 L := by rw [hw5]; exact (HU.out.trans (Upd.of_below HB4.out L)).trans (set_upd _ _ _ _)
                  have hcur5 : ((movedTo wt (fun i => decide (0 < sz i.op)) late l (k + 1)).set ((k + 1)) { x with stage := 3 })[(k + 1)]? = some { x with stage := 3 } := List.getElem?_set_self (by rw [movedTo_len _ _ _ _ _ (by omega)]; omega)
                  (with_reducible refine (asks_b HZX.out L (off + ((k + 1)) * 16) w5 (S5.cell hcur5 (j := 7) rfl)).mono ?_)
                  rintro e w6 ⟨rfl, hb6⟩
                  have S6 := Lib.hid (S5.keep (hb6.block L S5.lt))
                  have U6 := Lib.hid (U5.trans (Upd.of_below hb6 L))
                  have hfree6 : ∀ o, w6.frozen? ⟨L, o, none⟩ = false := fun o => S6.out.free o
                  have d15 : w6.cell? ⟨L, off + (k + 1) * 16 + 15, none⟩ = some (.int .i64 x.left) := S6.out.cell hcur5 rfl
                  clear hw5 S5 U5 hb6 hfree4 d14
                  cases hz : decide (0 < sz x.i.op)
                  · go_wp2_with fail
                    refine ⟨⟨(k + 1) + 1, by omega, by simp, ?_, U6.out⟩, by simp [intOf]; omega⟩
                    rw [movedTo_step _ _ _ _ _ x hx]
                    have e : moveOne wt (fun i => decide (0 < sz i.op)) late (prevAt none (movedTo wt (fun i => decide (0 < sz i.op)) late l (k + 1)) ((k + 1))) x = { x with stage := 3 } := by
                      unfold moveOne
                      rw [if_neg h3, if_neg (by rw [HG.out]; decide), if_neg (by show ¬ (x.stage + 1 = 3 ∧ decide (0 < sz x.i.op) = true); rw [hz]; simp), h2]; rfl
                    rw [e]; exact S6.out
                  · go_wp2_with fail
                    refine ⟨⟨(k + 1) + 1, by omega, by simp, ?_, U6.out.trans (set_upd _ _ _ _)⟩, by simp [intOf]; omega⟩
                    rw [movedTo_step _ _ _ _ _ x hx]
                    have e : moveOne wt (fun i => decide (0 < sz i.op)) late (prevAt none (movedTo wt (fun i => decide (0 < sz i.op)) late l (k + 1)) ((k + 1))) x = { x with stage := 3, left := late } := by
                      unfold moveOne
                      rw [if_neg h3, if_neg (by rw [HG.out]; decide), if_pos ⟨by rw [h2]; rfl, hz⟩, h2]; rfl
                    rw [e]
                    have := S6.out.set hcur5 (j := 15) (v := .int .i64 late) (x' := { x with stage := 3, left := late }) (by omega) rfl
                    rw [List.set_set] at this
                    exact this
                · have t2 : (x.stage + 1 == 3) = false := beq_eq_false_iff_ne.2 (by omega)
                  go_wp2_with fail
                  refine ⟨⟨(k + 1) + 1, by omega, by simp, ?_, (HU.out.trans (Upd.of_below HB4.out L)).trans (set_upd _ _ _ _)⟩, by simp [intOf]; omega⟩
                  rw [movedTo_step _ _ _ _ _ x hx]
                  have e : moveOne wt (fun i => decide (0 < sz i.op)) late (prevAt none (movedTo wt (fun i => decide (0 < sz i.op)) late l (k + 1)) ((k + 1))) x = { x with stage := x.stage + 1 } := by
                    unfold moveOne
                    rw [if_neg h3, if_neg (by rw [HG.out]; decide), if_neg (by omega)]
                  rw [e]
                  exact HS4.out.set hcur (by omega) rfl
              · have s0 : Gives Tryz.prog 47 #[.agg #[.int .i64 y.i.op, .int .i64 y.i.rd, .int .i64 y.i.rs1, .int .i64 y.i.rs2, .int .i64 y.i.imm, .int .i64 y.i.csr], .agg #[.int .i64 x.i.op, .int .i64 x.i.rd, .int .i64 x.i.rs1, .int .i64 x.i.rs2, .int .i64 x.i.imm, .int .i64 x.i.csr]] (.bool (wt y.i x.i)) := hW y.i x.i HQY.out HQX.out
                rw [hw] at s0
                have HG := Lib.hid (show blocked wt (prevAt none (movedTo wt (fun i => decide (0 < sz i.op)) late l (k + 1)) ((k + 1))) x = true by rw [hprev]; show (decide (y.stage ≤ x.stage + 1) || (decide (x.stage = 1) && wt y.i x.i)) = _; simp [h1, hw])
                clear h1
                have HPV := Lib.hid hprev
                clear hprev hy
                go_wp2_with fail
                refine wp_region_below (W := wr) (by kernel_rfl) (by kernel_rfl) (Below.refl _ _) ?_
                repeat (first | go_big_quiet_step ((go_at_call 47; with_reducible exact (s0.at_ _))) | rw [t1] | rw [u1])
                refine wpQuiet_nil ?_
                intro w4 hb4
                have HS4 := Lib.hid (HS2.out.keep (hb4.block L HS2.out.lt))
                have HB4 := Lib.hid hb4
                clear hb4 e14 e7 e8 e9 e10 e11 e12 e3 hfree HS2 c14 c15 c7 c8 c9 c10 c11 c12
                go_wp2_with fail
                refine ⟨⟨(k + 1) + 1, by omega, by simp, ?_, HU.out.trans (Upd.of_below HB4.out L)⟩, by simp [intOf]; omega⟩
                rw [movedTo_step _ _ _ _ _ x hx]
                have e : moveOne wt (fun i => decide (0 < sz i.op)) late (prevAt none (movedTo wt (fun i => decide (0 < sz i.op)) late l (k + 1)) ((k + 1))) x = x := by
                  unfold moveOne
                  rw [if_neg h3, if_pos (by rw [HG.out])]
                rw [e, set_at hcur]
                exact HS4.out
            · have u1 : (x.stage == 1) = false := beq_eq_false_iff_ne.2 h1
              have HG := Lib.hid (show blocked wt (prevAt none (movedTo wt (fun i => decide (0 < sz i.op)) late l (k + 1)) ((k + 1))) x = false by rw [hprev]; show (decide (y.stage ≤ x.stage + 1) || (decide (x.stage = 1) && wt y.i x.i)) = _; simp [g1, h1])
              have HPV := Lib.hid hprev
              clear hprev hy
              go_wp2_with fail
              refine wp_region_below (W := wr) (by kernel_rfl) (by kernel_rfl) (Below.refl _ _) ?_
              repeat (first | go_big_quiet_step (fail) | rw [t1] | rw [u1])
              refine wpQuiet_nil ?_
              intro w4 hb4
              have HS4 := Lib.hid (HS2.out.keep (hb4.block L HS2.out.lt))
              have d14 : w4.cell? ⟨L, off + (k + 1) * 16 + 14, none⟩ = some (.int .i64 x.stage) := HS4.out.cell hcur rfl
              have hfree4 : ∀ o, w4.frozen? ⟨L, o, none⟩ = false := fun o => HS4.out.free o
              have HB4 := Lib.hid hb4
              clear hb4 e14 e7 e8 e9 e10 e11 e12 e3 hfree HS2 c14 c15 c7 c8 c9 c10 c11 c12
              by_cases h2 : x.stage = 2
              · rw [h2] at d14
                go_wp2_with fail
                obtain ⟨w5, hw5⟩ : ∃ w5, w5 = w4.setCell ⟨L, off + (k + 1) * 16 + 14, none⟩ (.int .i64 3) := ⟨_, rfl⟩
                rw [← hw5]
                have S5 : SlAt w5 L off c ((movedTo wt (fun i => decide (0 < sz i.op)) late l (k + 1)).set ((k + 1)) { x with stage := 3 }) := by rw [hw5]; exact HS4.out.set hcur (by omega) rfl
                have U5 : Upd w w5 L := by rw [hw5]; exact (HU.out.trans (Upd.of_below HB4.out L)).trans (set_upd _ _ _ _)
                have hcur5 : ((movedTo wt (fun i => decide (0 < sz i.op)) late l (k + 1)).set ((k + 1)) { x with stage := 3 })[(k + 1)]? = some { x with stage := 3 } := List.getElem?_set_self (by rw [movedTo_len _ _ _ _ _ (by omega)]; omega)
                (with_reducible refine (asks_b HZX.out L (off + ((k + 1)) * 16) w5 (S5.cell hcur5 (j := 7) rfl)).mono ?_)
                rintro e w6 ⟨rfl, hb6⟩
                have S6 := Lib.hid (S5.keep (hb6.block L S5.lt))
                have U6 := Lib.hid (U5.trans (Upd.of_below hb6 L))
                have hfree6 : ∀ o, w6.frozen? ⟨L, o, none⟩ = false := fun o => S6.out.free o
                have d15 : w6.cell? ⟨L, off + (k + 1) * 16 + 15, none⟩ = some (.int .i64 x.left) := S6.out.cell hcur5 rfl
                clear hw5 S5 U5 hb6 hfree4 d14
                cases hz : decide (0 < sz x.i.op)
                · go_wp2_with fail
                  refine ⟨⟨(k + 1) + 1, by omega, by simp, ?_, U6.out⟩, by simp [intOf]; omega⟩
                  rw [movedTo_step _ _ _ _ _ x hx]
                  have e : moveOne wt (fun i => decide (0 < sz i.op)) late (prevAt none (movedTo wt (fun i => decide (0 < sz i.op)) late l (k + 1)) ((k + 1))) x = { x with stage := 3 } := by
                    unfold moveOne
                    rw [if_neg h3, if_neg (by rw [HG.out]; decide), if_neg (by show ¬ (x.stage + 1 = 3 ∧ decide (0 < sz x.i.op) = true); rw [hz]; simp), h2]; rfl
                  rw [e]; exact S6.out
                · go_wp2_with fail
                  refine ⟨⟨(k + 1) + 1, by omega, by simp, ?_, U6.out.trans (set_upd _ _ _ _)⟩, by simp [intOf]; omega⟩
                  rw [movedTo_step _ _ _ _ _ x hx]
                  have e : moveOne wt (fun i => decide (0 < sz i.op)) late (prevAt none (movedTo wt (fun i => decide (0 < sz i.op)) late l (k + 1)) ((k + 1))) x = { x with stage := 3, left := late } := by
                    unfold moveOne
                    rw [if_neg h3, if_neg (by rw [HG.out]; decide), if_pos ⟨by rw [h2]; rfl, hz⟩, h2]; rfl
                  rw [e]
                  have := S6.out.set hcur5 (j := 15) (v := .int .i64 late) (x' := { x with stage := 3, left := late }) (by omega) rfl
                  rw [List.set_set] at this
                  exact this
              · have t2 : (x.stage + 1 == 3) = false := beq_eq_false_iff_ne.2 (by omega)
                go_wp2_with fail
                refine ⟨⟨(k + 1) + 1, by omega, by simp, ?_, (HU.out.trans (Upd.of_below HB4.out L)).trans (set_upd _ _ _ _)⟩, by simp [intOf]; omega⟩
                rw [movedTo_step _ _ _ _ _ x hx]
                have e : moveOne wt (fun i => decide (0 < sz i.op)) late (prevAt none (movedTo wt (fun i => decide (0 < sz i.op)) late l (k + 1)) ((k + 1))) x = { x with stage := x.stage + 1 } := by
                  unfold moveOne
                  rw [if_neg h3, if_neg (by rw [HG.out]; decide), if_neg (by omega)]
                rw [e]
                exact HS4.out.set hcur (by omega) rfl
    · obtain rfl : m = n := by omega
      have HS := Lib.hid hS
      have HU := Lib.hid hU
      clear hS hU
      go_wp2_with fail
      go_end0
      refine ⟨rfl, ?_, HU.out⟩
      have := HS.out
      rw [← hl, movedTo_all] at this
      exact this
end Go.Proofs.YtfehilinnalflaaGreat
namespace Go.Proofs.YtfehilinnalflaaGreat
open Go.RowKit Go.BigFrame
set_option linter.unusedSimpArgs false
set_option linter.unusedVariables false
set_option maxRecDepth 100000
def pipL (s : St) (b t : Nat) (a : Option Addr × Nat × Nat) (nx : Option Addr) (at_ : BitVec 64) (stops : Bool) (cy : Int) : List Value :=
  stL s ++ [.pointer (some ⟨b, 0, none⟩), .pointer (some ⟨t, 0, none⟩), .slice a.1 a.2.1 a.2.2, .pointer nx, U at_, .bool stops, .int .i64 cy]
def pipCh (s : St) (b t : Nat) (a : Option Addr × Nat × Nat) (nx : Option Addr) (at_ : BitVec 64) (stops : Bool) (cy : Int) : List Ch :=
  [.S s, .x false (.pointer (some ⟨b, 0, none⟩)), .x false (.pointer (some ⟨t, 0, none⟩)), .x false (.slice a.1 a.2.1 a.2.2), .x false (.pointer nx), .u false at_, .x false (.bool stops), .x false (.int .i64 cy)]
theorem flat_pipCh (s : St) (b t : Nat) (a : Option Addr × Nat × Nat) (nx : Option Addr) (at_ : BitVec 64) (stops : Bool) (cy : Int) : flat (pipCh s b t a nx at_ stops cy) = pipL s b t a nx at_ stops cy := rfl
def SlotsAt (w : World) (G F : Nat → Prop) (P : Nat) (a : Option Addr × Nat × Nat) (l : List SlV) : Prop :=
  (a.1 = none ∧ l = [] ∧ a.2.2 = 0) ∨ ∃ L off, a.1 = some ⟨L, off, none⟩ ∧ SlAt w L off a.2.2 l ∧ G L ∧ ¬ F L ∧ L ≠ P
def NextAt (w : World) (G F : Nat → Prop) (P : Nat) (a : Option Addr × Nat × Nat) (nx : Option Addr) (nv : Option SlV) : Prop :=
  (nx = none ∧ nv = none) ∨ ∃ N x, nx = some ⟨N, 0, none⟩ ∧ nv = some x ∧ w.heap[N]? = some (.cells (slL x).toArray 130 (0, 0)) ∧ G N ∧ ¬ F N ∧ N ≠ P ∧ ∀ L off, a.1 = some ⟨L, off, none⟩ → N ≠ L
structure PW (w : World) (G F : Nat → Prop) (P : Nat) (s : St) (S : HS) (a : Option Addr × Nat × Nat) (nx : Option Addr) (at_ : BitVec 64) (stops : Bool) (cy : Int) (l : List SlV) (nv : Option SlV) : Prop where
  mach : Mach w F S
  fg : ∀ b, F b → G b
  fp : ¬ F P
  gp : G P
  blk : w.heap[P]? = some (.cells (pipL s S.b S.t a nx at_ stops cy).toArray 80 (0, 0))
  len : l.length = a.2.1
  sl : SlotsAt w G F P a l
  nxt : NextAt w G F P a nx nv
  lt : ∀ b, G b → b < w.heap.size
def pipH (s : St) (S : HS) (a : Option Addr × Nat × Nat) (nx : Option Addr) (at_ : BitVec 64) (stops : Bool) (cy : Int) : Hp := ⟨[⟨80, pipCh s S.b S.t a nx at_ stops cy⟩], some S, true, 0⟩
section
variable {w : World} {G F : Nat → Prop} {P : Nat} {s : St} {S : HS} {a : Option Addr × Nat × Nat} {nx : Option Addr} {at_ : BitVec 64} {stops : Bool} {cy : Int} {l : List SlV} {nv : Option SlV}
theorem PW.mrel (h : PW w G F P s S a nx at_ stops cy l nv) : MRel (fun b => F b ∨ b = P) ⟨w, [P], true, [80]⟩ [P] (pipH s S a nx at_ stops cy) w := by
  refine ⟨Fr.refl _ _, fun k c hk hr => ?_, fun k b h => h, rfl, fun j b' bk' h1 h2 => ?_, fun i j b' h1 h2 => ?_, fun T hT => ?_, fun _ => rfl, fun k T hT => ?_⟩
  · cases k with
    | zero => cases hk; exact .inl (.inr rfl)
    | succ k => cases hk
  · cases j with
    | zero => cases h1; cases h2; rw [h.blk, flat_pipCh]
    | succ j => cases h1
  · cases i with
    | zero => cases j with
      | zero => rfl
      | succ j => cases h2
    | succ i => cases h1
  · have hT' : some S = some T := hT
    cases hT'
    refine ⟨F, h.mach, fun _ b hb => .inl (.inl hb), fun k b hk => ?_⟩
    cases k with
    | zero => cases hk; exact h.fp
    | succ k => cases hk
  · cases k with
    | zero => cases hT; exact ⟨_, rfl, rfl⟩
    | succ k => cases hT
theorem SlotsAt.keep {w w' : World} {G F G' F' X : Nat → Prop} {P : Nat} {a : Option Addr × Nat × Nat} {l : List SlV} (h : SlotsAt w G F P a l) (fr : Fr X w w') (hX : ∀ b, X b → F b ∨ b = P) (hG : ∀ b, G b → G' b) (hF : ∀ b, F' b → F b ∨ b = P ∨ w.heap.size ≤ b) : SlotsAt w' G' F' P a l := by
  rcases h with h | ⟨L, off, h1, h2, h3, h4, h5⟩
  · exact .inl h
  · refine .inr ⟨L, off, h1, h2.keep (fr.block L h2.lt fun hx => (hX L hx).elim h4 h5), hG L h3, fun hf => ?_, h5⟩
    have := h2.lt
    rcases hF L hf with h | h | h
    · exact h4 h
    · exact h5 h
    · omega
theorem NextAt.keep {w w' : World} {G F G' F' X : Nat → Prop} {P : Nat} {a : Option Addr × Nat × Nat} {nx : Option Addr} {nv : Option SlV} (h : NextAt w G F P a nx nv) (fr : Fr X w w') (hX : ∀ b, X b → F b ∨ b = P) (hG : ∀ b, G b → G' b) (hF : ∀ b, F' b → F b ∨ b = P ∨ w.heap.size ≤ b) : NextAt w' G' F' P a nx nv := by
  rcases h with h | ⟨N, x, h1, h2, h3, h4, h5, h6, h7⟩
  · exact .inl h
  · refine .inr ⟨N, x, h1, h2, (fr.block N (blk_lt h3) fun hx => (hX N hx).elim h5 h6).trans h3, hG N h4, fun hf => ?_, h6, h7⟩
    have := blk_lt h3
    rcases hF N hf with h | h | h
    · exact h5 h
    · exact h6 h
    · omega
theorem PW.back (h : PW w G F P s S a nx at_ stops cy l nv) {w' : World} {H' : Hp} (M' : MRel (fun b => F b ∨ b = P) ⟨w, [P], true, [80]⟩ [P] H' w') {S' : HS} (hS : H'.m = some S') (hb : S'.b = S.b) (ht : S'.t = S.t)
    {cs : List Ch} (hbk : H'.bs[0]? = some ⟨80, cs⟩) {s' : St} {a' : Option Addr × Nat × Nat} {nx' : Option Addr} {at' : BitVec 64} {stops' : Bool} {cy' : Int} {l' : List SlV} {nv' : Option SlV} (hcs : flat cs = pipL s' S.b S.t a' nx' at' stops' cy')
    (hlen : l'.length = a'.2.1) (hsl : SlotsAt w G F P a' l') (hnx : NextAt w G F P a' nx' nv') :
    ∃ F', PW w' (fun b => G b ∨ F' b) F' P s' S' a' nx' at' stops' cy' l' nv' ∧ (∀ b, F' b → F b ∨ w.heap.size ≤ b) ∧ Fr G w w' := by
  obtain ⟨F', g1, g2, g3⟩ := M'.mach S' hS
  have hP : ¬ F' P := g3 0 P rfl
  have hF : ∀ b, F' b → F b ∨ b = P ∨ w.heap.size ≤ b := fun b hb => by
    rcases g2 rfl b hb with (h | h) | h
    · exact .inl h
    · exact .inr (.inl h)
    · exact .inr (.inr h)
  have hF2 : ∀ b, F' b → F b ∨ w.heap.size ≤ b := fun b hb => by
    rcases hF b hb with h | h | h
    · exact .inl h
    · exact absurd (h ▸ hb) hP
    · exact .inr h
  refine ⟨F', ⟨g1, fun b hb => .inr hb, hP, .inl h.gp, ?_, hlen, hsl.keep M'.fr (fun b h => h) (fun b h => .inl h) hF, hnx.keep M'.fr (fun b h => h) (fun b h => .inl h) hF, fun b hb => ?_⟩, hF2, M'.fr.mono fun b hb => hb.elim (h.fg b) fun e => e ▸ h.gp⟩
  · have := M'.blk 0 P _ rfl hbk
    rw [this, hb, ht, hcs]
  · rcases hb with hb | hb
    · exact Nat.lt_of_lt_of_le (h.lt b hb) M'.fr.size
    · exact g1.fl b hb
theorem PW.more (h : PW w G F P s S a nx at_ stops cy l nv) {G' : Nat → Prop} (hG : ∀ b, G b → G' b) (hl : ∀ b, G' b → b < w.heap.size) : PW w G' F P s S a nx at_ stops cy l nv := by
  refine { h with fg := fun b hb => hG b (h.fg b hb), gp := hG _ h.gp, sl := ?_, nxt := ?_, lt := hl }
  · rcases h.sl with k | ⟨L, off, h1, h2, h3, h4, h5⟩
    · exact .inl k
    · exact .inr ⟨L, off, h1, h2, hG L h3, h4, h5⟩
  · rcases h.nxt with k | ⟨N, x, h1, h2, h3, h4, h5, h6, h7⟩
    · exact .inl k
    · exact .inr ⟨N, x, h1, h2, h3, hG N h4, h5, h6, h7⟩
theorem PW.below (h : PW w G F P s S a nx at_ stops cy l nv) {w' : World} (u : Below w.heap.size w w') : PW w' G F P s S a nx at_ stops cy l nv := by
  refine ⟨h.mach.below u, h.fg, h.fp, h.gp, (u.block P (blk_lt h.blk)).trans h.blk, h.len, ?_, ?_, fun b hb => Nat.lt_of_lt_of_le (h.lt b hb) u.size⟩
  · rcases h.sl with k | ⟨L, off, h1, h2, h3, h4, h5⟩
    · exact .inl k
    · exact .inr ⟨L, off, h1, h2.keep (u.block L h2.lt), h3, h4, h5⟩
  · rcases h.nxt with k | ⟨N, x, h1, h2, h3, h4, h5, h6, h7⟩
    · exact .inl k
    · exact .inr ⟨N, x, h1, h2, (u.block N (blk_lt h3)).trans h3, h4, h5, h6, h7⟩
theorem PW.cell (h : PW w G F P s S a nx at_ stops cy l nv) (j : Nat) {v : Value} (hj : [Value.pointer (some ⟨S.b, 0, none⟩), .pointer (some ⟨S.t, 0, none⟩), .slice a.1 a.2.1 a.2.2, .pointer nx, U at_, .bool stops, .int .i64 cy][j]? = some v) : w.cell? ⟨P, 65 + j, none⟩ = some v :=
  pip_cell h.blk j hj
theorem PW.scell (h : PW w G F P s S a nx at_ stops cy l nv) {j : Nat} {v : Value} (hj : (stA s)[j]? = some v) : w.cell? ⟨P, j, none⟩ = some v := by
  have hl : j < 65 := by have := (Array.getElem?_eq_some_iff.1 hj).1; rw [stA_size] at this; exact this
  have e : (pipL s S.b S.t a nx at_ stops cy)[j]? = some v := by
    unfold pipL
    rw [List.getElem?_append_left (by rw [stL_len]; exact hl)]
    exact stL_at s j v hj
  simp [World.cell?, h.blk, e]
theorem PW.free (h : PW w G F P s S a nx at_ stops cy l nv) (o : Nat) : w.frozen? ⟨P, o, none⟩ = false := by
  simp [World.frozen?, h.blk]
end
end Go.Proofs.YtfehilinnalflaaGreat
namespace Go.Proofs.YtfehilinnalflaaGreat
open Go.RowKit Go.BigFrame
set_option linter.unusedSimpArgs false
set_option linter.unusedVariables false
set_option maxRecDepth 100000
theorem MRel.same {X : Nat → Prop} {w0 : W0} {σ : List Nat} {H H' : Hp} {w : World} (M : MRel X w0 σ H w) (hl : H'.bs.length = H.bs.length) (hb : ∀ (k : Nat) (bk' : Bk), H'.bs[k]? = some bk' → ∃ bk, H.bs[k]? = some bk ∧ bk.T = bk'.T ∧ flat bk.cs = flat bk'.cs) (hm : H'.m = H.m) (hrw : H'.rw = H.rw) (hro : H'.ro = H.ro) :
    MRel X w0 σ H' w := by
  refine ⟨M.fr, fun k b h hr => M.own k b h (by rw [← hro]; exact hr), M.pre, by rw [hl]; exact M.len, fun k b bk' h1 h2 => ?_, M.inj, fun S hS => M.mach S (by rw [← hm]; exact hS), fun h => M.rwk (by rw [← hrw]; exact h), fun k T hT => ?_⟩
  · obtain ⟨bk, h3, h4, h5⟩ := hb k bk' h2
    rw [← h4, ← h5]; exact M.blk k b bk h1 h3
  · obtain ⟨bk, h1, h2⟩ := M.ty k T hT
    have hk : k < H'.bs.length := by rw [hl]; exact (List.getElem?_eq_some_iff.1 h1).1
    obtain ⟨bk2, h3, h4, _⟩ := hb k _ (List.getElem?_eq_getElem hk)
    rw [h1] at h3; cases h3
    exact ⟨_, List.getElem?_eq_getElem hk, h4.symm.trans h2⟩
theorem set_same {bs : List Bk} {k0 : Nat} {A B : Bk} (hT : A.T = B.T) (hf : flat A.cs = flat B.cs) : ∀ (k : Nat) (bk' : Bk), (bs.set k0 B)[k]? = some bk' → ∃ bk, (bs.set k0 A)[k]? = some bk ∧ bk.T = bk'.T ∧ flat bk.cs = flat bk'.cs := by
  intro k bk' h
  by_cases e : k = k0
  · subst e
    have hl : k < bs.length := by have := (List.getElem?_eq_some_iff.1 h).1; simpa using this
    rw [List.getElem?_set_self hl] at h
    cases h
    exact ⟨A, List.getElem?_set_self hl, hT, hf⟩
  · rw [List.getElem?_set_ne (fun x => e x.symm)] at h
    exact ⟨bk', by rw [List.getElem?_set_ne (fun x => e x.symm)]; exact h, rfl, rfl⟩
def flCh (s : St) (b t : Nat) (cy : Int) : List Ch := [.S s, .x false (.pointer (some ⟨b, 0, none⟩)), .x false (.pointer (some ⟨t, 0, none⟩)), .x true (.slice none 0 0), .x true (.pointer none), .u false s.pc, .x true (.bool false), .x false (.int .i64 cy)]
theorem c_flush (S : HS) (b0 : St) (b1 : Nat) (b2 : Nat) (b3 : Option Addr × Nat × Nat) (b4 : Option Addr) (b5 : BitVec 64) (b6 : Bool) (b7 : Int) : flat (selG (t__pipe_Pipe_flush S b0 b1 b2 b3 b4 b5 b6 b7) 0 0 [.S, .k b1, .k b2, .v, .v, .u, .b, .i .i64]) = flat (flCh b0 b1 b2 b7) := by kernel_rfl
theorem n_flush (S : HS) (b0 : St) (b1 : Nat) (b2 : Nat) (b3 : Option Addr × Nat × Nat) (b4 : Option Addr) (b5 : BitVec 64) (b6 : Bool) (b7 : Int) : told (t__pipe_Pipe_flush S b0 b1 b2 b3 b4 b5 b6 b7) [] = some (true, .t []) := by kernel_rfl
def s_flush (avs : List AV) (H : Hp) : Option (Bool × AV × Hp) :=
  match avs, H.m with
  | [.p k0 0], some S => match H.bs[k0]? with
    | some ⟨T0, [d0, d1, d2, d3, d4, d5, d6, d7]⟩ => if T0 = 80 ∧ H.ro ≤ k0 then (cS d0).bind fun b0 => (cP d1).bind fun b1 => (cP d2).bind fun b2 => (cL d3).bind fun b3 => (cPo d4).bind fun b4 => (cU d5).bind fun b5 => (cB d6).bind fun b6 => (cI .i64 d7).bind fun b7 => some (true, .t [], ⟨H.bs.set k0 ⟨80, flCh b0 b1 b2 b7⟩, H.m, H.rw, H.ro⟩) else none
    | _ => none
  | _, _ => none
noncomputable def PfE : Env := FnYE.addX 41 s_flush
theorem PfE_ok : EnvOk Tryz.prog PfE := FnYE_ok.addX _ _ (fun xs => by kernel_rfl) (by
  intro avs H n av H' h hn
  unfold s_flush at h
  split at h
  · rename_i k0 S hS
    split at h
    · rename_i T0 d0 d1 d2 d3 d4 d5 d6 d7 hbk
      split at h
      · rename_i hT0
        obtain ⟨b0, g0, h⟩ := bind_some h
        obtain ⟨b1, g1, h⟩ := bind_some h
        obtain ⟨b2, g2, h⟩ := bind_some h
        obtain ⟨b3, g3, h⟩ := bind_some h
        obtain ⟨b4, g4, h⟩ := bind_some h
        obtain ⟨b5, g5, h⟩ := bind_some h
        obtain ⟨b6, g6, h⟩ := bind_some h
        obtain ⟨b7, g7, h⟩ := bind_some h
        cases h
        have key := turn0_ok (n := 120) (avs := [.p k0 0]) (args := [.p 0 0]) (t := (t__pipe_Pipe_flush S b0 b1 b2 b3 b4 b5 b6 b7)) (sh := []) FnYE_ok hmix Tryz.func41 (Sub.one hbk hT0.1 (by simp only [flat, (cS_ok g0).1, (cP_ok g1).1, (cP_ok g2).1, (cL_ok g3).1, (cPo_ok g4).1, (cU_ok g5).1, (cB_ok g6).1, (cI_ok g7).1]) _ (fun T h => hS.trans h) false 0) rfl (Shp.one _ _ _ _ _) (wr_one hT0.2) ⟨⟨rfl, rfl⟩, trivial⟩ rfl (is__pipe_Pipe_flush S b0 b1 b2 b3 b4 b5 b6 b7) (l' := [(80, [.S, .k b1, .k b2, .v, .v, .u, .b, .i .i64])]) ⟨⟨rfl, ⟨.inl rfl, ⟨.inr ⟨rfl, _, rfl, v1__pipe_Pipe_flush S b0 b1 b2 b3 b4 b5 b6 b7⟩, ⟨.inr ⟨rfl, _, rfl, v2__pipe_Pipe_flush S b0 b1 b2 b3 b4 b5 b6 b7⟩, ⟨.inl rfl, ⟨.inl rfl, ⟨.inl rfl, ⟨.inl rfl, ⟨.inl rfl, trivial⟩⟩⟩⟩⟩⟩⟩⟩⟩, trivial⟩ (n_flush S b0 b1 b2 b3 b4 b5 b6 b7) rfl
        intro X w0 σ w args F M
        refine (key X w0 σ w args F M).mono ?_
        rintro e w' ⟨v, he, hv, hM⟩
        exact ⟨v, he, hv, hM.same (by simp [putAll_len]) (set_same (A := ⟨80, selG (t__pipe_Pipe_flush S b0 b1 b2 b3 b4 b5 b6 b7) 0 0 [.S, .k b1, .k b2, .v, .v, .u, .b, .i .i64]⟩) rfl (c_flush S b0 b1 b2 b3 b4 b5 b6 b7)) rfl rfl rfl⟩
      · cases h
    · cases h
  · cases h)
end Go.Proofs.YtfehilinnalflaaGreat
namespace Go.Proofs.YtfehilinnalflaaGreat
open Go.RowKit Go.BigFrame
set_option linter.unusedSimpArgs false
set_option linter.unusedVariables false
set_option maxRecDepth 100000
noncomputable def t__pipe_Pipe_does (S : HS) (b0 : St) (b1 : Nat) (b2 : Nat) (b3 : Option Addr × Nat × Nat) (b4 : Option Addr) (b5 : BitVec 64) (b6 : Bool) (b7 : Int) (a8 : BitVec 64) (a9 : Int) (a10 : BitVec 64) (a11 : BitVec 64) (a12 : BitVec 64) (a13 : Bool) (a14 : Bool) (a15 : Int) (a16 : Int) (a17 : Int) (a18 : Int) (a19 : Int) (a20 : Int) (a21 : Bool) (a22 : Int) (a23 : Int) (a24 : Bool) : Tr := evFX Tryz.prog PfE 120 Tryz.f46 [.p 0 0, .d (.g [.u false a8, .x false (.int .u32 a9), .u false a10, .u false a11, .u false a12, .x false (.bool a13), .x false (.bool a14), .x false (.int .i64 a15), .x false (.int .i64 a16), .x false (.int .i64 a17), .x false (.int .i64 a18), .x false (.int .i64 a19), .x false (.int .i64 a20), .x false (.bool a21), .x false (.int .i64 a22), .x false (.int .i64 a23)]), .d (.s (.x false (.bool a24)))] ⟨[⟨80, [.S b0, .x false (.pointer (some ⟨b1, 0, none⟩)), .x false (.pointer (some ⟨b2, 0, none⟩)), .x false (.slice b3.1 b3.2.1 b3.2.2), .x false (.pointer b4), .u false b5, .x false (.bool b6), .x false (.int .i64 b7)]⟩], some S, true, 0⟩
set_option maxHeartbeats 4000000 in
theorem is__pipe_Pipe_does (S : HS) (b0 : St) (b1 : Nat) (b2 : Nat) (b3 : Option Addr × Nat × Nat) (b4 : Option Addr) (b5 : BitVec 64) (b6 : Bool) (b7 : Int) (a8 : BitVec 64) (a9 : Int) (a10 : BitVec 64) (a11 : BitVec 64) (a12 : BitVec 64) (a13 : Bool) (a14 : Bool) (a15 : Int) (a16 : Int) (a17 : Int) (a18 : Int) (a19 : Int) (a20 : Int) (a21 : Bool) (a22 : Int) (a23 : Int) (a24 : Bool) : (t__pipe_Pipe_does S b0 b1 b2 b3 b4 b5 b6 b7 a8 a9 a10 a11 a12 a13 a14 a15 a16 a17 a18 a19 a20 a21 a22 a23 a24).is ([.g [.u, .i .u32, .i .i64, .u, .b, .u, .u, .u, .b, .i .i64, .b, .b]] ++ bsh [(80, [.S, .v, .v, .v, .v, .u, .b, .i .i64])]) = true := by kernel_rfl
set_option maxHeartbeats 4000000 in
theorem m__pipe_Pipe_does (S : HS) (b0 : St) (b1 : Nat) (b2 : Nat) (b3 : Option Addr × Nat × Nat) (b4 : Option Addr) (b5 : BitVec 64) (b6 : Bool) (b7 : Int) (a8 : BitVec 64) (a9 : Int) (a10 : BitVec 64) (a11 : BitVec 64) (a12 : BitVec 64) (a13 : Bool) (a14 : Bool) (a15 : Int) (a16 : Int) (a17 : Int) (a18 : Int) (a19 : Int) (a20 : Int) (a21 : Bool) (a22 : Int) (a23 : Int) (a24 : Bool) : (t__pipe_Pipe_does S b0 b1 b2 b3 b4 b5 b6 b7 a8 a9 a10 a11 a12 a13 a14 a15 a16 a17 a18 a19 a20 a21 a22 a23 a24).setM S = t__pipe_Pipe_does S b0 b1 b2 b3 b4 b5 b6 b7 a8 a9 a10 a11 a12 a13 a14 a15 a16 a17 a18 a19 a20 a21 a22 a23 a24 := by kernel_rfl
set_option maxHeartbeats 4000000 in
theorem v2__pipe_Pipe_does (S : HS) (b0 : St) (b1 : Nat) (b2 : Nat) (b3 : Option Addr × Nat × Nat) (b4 : Option Addr) (b5 : BitVec 64) (b6 : Bool) (b7 : Int) (a8 : BitVec 64) (a9 : Int) (a10 : BitVec 64) (a11 : BitVec 64) (a12 : BitVec 64) (a13 : Bool) (a14 : Bool) (a15 : Int) (a16 : Int) (a17 : Int) (a18 : Int) (a19 : Int) (a20 : Int) (a21 : Bool) (a22 : Int) (a23 : Int) (a24 : Bool) : (t__pipe_Pipe_does S b0 b1 b2 b3 b4 b5 b6 b7 a8 a9 a10 a11 a12 a13 a14 a15 a16 a17 a18 a19 a20 a21 a22 a23 a24).setV 1 2 b2 = t__pipe_Pipe_does S b0 b1 b2 b3 b4 b5 b6 b7 a8 a9 a10 a11 a12 a13 a14 a15 a16 a17 a18 a19 a20 a21 a22 a23 a24 := by kernel_rfl
set_option maxHeartbeats 4000000 in
theorem v1__pipe_Pipe_does (S : HS) (b0 : St) (b1 : Nat) (b2 : Nat) (b3 : Option Addr × Nat × Nat) (b4 : Option Addr) (b5 : BitVec 64) (b6 : Bool) (b7 : Int) (a8 : BitVec 64) (a9 : Int) (a10 : BitVec 64) (a11 : BitVec 64) (a12 : BitVec 64) (a13 : Bool) (a14 : Bool) (a15 : Int) (a16 : Int) (a17 : Int) (a18 : Int) (a19 : Int) (a20 : Int) (a21 : Bool) (a22 : Int) (a23 : Int) (a24 : Bool) : (t__pipe_Pipe_does S b0 b1 b2 b3 b4 b5 b6 b7 a8 a9 a10 a11 a12 a13 a14 a15 a16 a17 a18 a19 a20 a21 a22 a23 a24).setV 1 1 b1 = t__pipe_Pipe_does S b0 b1 b2 b3 b4 b5 b6 b7 a8 a9 a10 a11 a12 a13 a14 a15 a16 a17 a18 a19 a20 a21 a22 a23 a24 := by kernel_rfl
noncomputable def s__pipe_Pipe_does (avs : List AV) (H : Hp) : Option (Bool × AV × Hp) :=
  match avs, H.m, H.rw with
  | [.p k0 0, .d (.g [c8, c9, c10, c11, c12, c13, c14, c15, c16, c17, c18, c19, c20, c21, c22, c23]), .d (.s c24)], some S, true => match H.bs[k0]? with
    | some ⟨T0, [d0, d1, d2, d3, d4, d5, d6, d7]⟩ => if T0 = 80 ∧ H.ro ≤ k0 then (cS d0).bind fun b0 => (cP d1).bind fun b1 => (cP d2).bind fun b2 => (cL d3).bind fun b3 => (cPo d4).bind fun b4 => (cU d5).bind fun b5 => (cB d6).bind fun b6 => (cI .i64 d7).bind fun b7 => (cU c8).bind fun a8 => (cI .u32 c9).bind fun a9 => (cU c10).bind fun a10 => (cU c11).bind fun a11 => (cU c12).bind fun a12 => (cB c13).bind fun a13 => (cB c14).bind fun a14 => (cI .i64 c15).bind fun a15 => (cI .i64 c16).bind fun a16 => (cI .i64 c17).bind fun a17 => (cI .i64 c18).bind fun a18 => (cI .i64 c19).bind fun a19 => (cI .i64 c20).bind fun a20 => (cB c21).bind fun a21 => (cI .i64 c22).bind fun a22 => (cI .i64 c23).bind fun a23 => (cB c24).bind fun a24 => (told (t__pipe_Pipe_does S b0 b1 b2 b3 b4 b5 b6 b7 a8 a9 a10 a11 a12 a13 a14 a15 a16 a17 a18 a19 a20 a21 a22 a23 a24) [.g [.u, .i .u32, .i .i64, .u, .b, .u, .u, .u, .b, .i .i64, .b, .b]]).map fun r => (r.1, r.2, ⟨putAll [k0] (blks (t__pipe_Pipe_does S b0 b1 b2 b3 b4 b5 b6 b7 a8 a9 a10 a11 a12 a13 a14 a15 a16 a17 a18 a19 a20 a21 a22 a23 a24) 1 [(80, [.S, .k b1, .k b2, .v, .v, .u, .b, .i .i64])]) H.bs, some (Tr.theM (t__pipe_Pipe_does S b0 b1 b2 b3 b4 b5 b6 b7 a8 a9 a10 a11 a12 a13 a14 a15 a16 a17 a18 a19 a20 a21 a22 a23 a24) S), H.rw, H.ro⟩) else none
    | _ => none
  | _, _, _ => none
noncomputable def E__pipe_Pipe_does : Env := PfE.addX 46 s__pipe_Pipe_does
set_option maxHeartbeats 4000000 in
theorem E__pipe_Pipe_does_ok : EnvOk Tryz.prog E__pipe_Pipe_does := PfE_ok.addX _ _ (fun xs => by kernel_rfl) (by
  intro avs H n av H' h hn
  unfold s__pipe_Pipe_does at h
  split at h
  · rename_i k0 c8 c9 c10 c11 c12 c13 c14 c15 c16 c17 c18 c19 c20 c21 c22 c23 c24 S hS hrw
    split at h
    · rename_i T0 d0 d1 d2 d3 d4 d5 d6 d7 hbk
      split at h
      · rename_i hT0
        obtain ⟨b0, g0, h⟩ := bind_some h
        obtain ⟨b1, g1, h⟩ := bind_some h
        obtain ⟨b2, g2, h⟩ := bind_some h
        obtain ⟨b3, g3, h⟩ := bind_some h
        obtain ⟨b4, g4, h⟩ := bind_some h
        obtain ⟨b5, g5, h⟩ := bind_some h
        obtain ⟨b6, g6, h⟩ := bind_some h
        obtain ⟨b7, g7, h⟩ := bind_some h
        obtain ⟨a8, h8, h⟩ := bind_some h
        obtain ⟨a9, h9, h⟩ := bind_some h
        obtain ⟨a10, h10, h⟩ := bind_some h
        obtain ⟨a11, h11, h⟩ := bind_some h
        obtain ⟨a12, h12, h⟩ := bind_some h
        obtain ⟨a13, h13, h⟩ := bind_some h
        obtain ⟨a14, h14, h⟩ := bind_some h
        obtain ⟨a15, h15, h⟩ := bind_some h
        obtain ⟨a16, h16, h⟩ := bind_some h
        obtain ⟨a17, h17, h⟩ := bind_some h
        obtain ⟨a18, h18, h⟩ := bind_some h
        obtain ⟨a19, h19, h⟩ := bind_some h
        obtain ⟨a20, h20, h⟩ := bind_some h
        obtain ⟨a21, h21, h⟩ := bind_some h
        obtain ⟨a22, h22, h⟩ := bind_some h
        obtain ⟨a23, h23, h⟩ := bind_some h
        obtain ⟨a24, h24, h⟩ := bind_some h
        obtain ⟨⟨n0, av0⟩, hq, he⟩ := Option.map_eq_some_iff.1 h
        clear h
        cases he
        exact turn_ok (n := 120) (avs := [.p k0 0, .d (.g [c8, c9, c10, c11, c12, c13, c14, c15, c16, c17, c18, c19, c20, c21, c22, c23]), .d (.s c24)]) (args := [.p 0 0, .d (.g [.u false a8, .x false (.int .u32 a9), .u false a10, .u false a11, .u false a12, .x false (.bool a13), .x false (.bool a14), .x false (.int .i64 a15), .x false (.int .i64 a16), .x false (.int .i64 a17), .x false (.int .i64 a18), .x false (.int .i64 a19), .x false (.int .i64 a20), .x false (.bool a21), .x false (.int .i64 a22), .x false (.int .i64 a23)]), .d (.s (.x false (.bool a24)))]) (t := (t__pipe_Pipe_does S b0 b1 b2 b3 b4 b5 b6 b7 a8 a9 a10 a11 a12 a13 a14 a15 a16 a17 a18 a19 a20 a21 a22 a23 a24)) (sh := [.g [.u, .i .u32, .i .i64, .u, .b, .u, .u, .u, .b, .i .i64, .b, .b]]) PfE_ok hmix Tryz.func46 (Sub.one hbk hT0.1 (by simp only [flat, (cS_ok g0).1, (cP_ok g1).1, (cP_ok g2).1, (cL_ok g3).1, (cPo_ok g4).1, (cU_ok g5).1, (cB_ok g6).1, (cI_ok g7).1]) _ (fun T h => hS.trans h) true 0) rfl hrw hS (Shp.one _ _ _ _ _) (wr_one hT0.2) ⟨⟨rfl, rfl⟩, (by show Dv.val _ = Dv.val _; simp only [Dv.val, flat, (cU_ok h8).1, (cI_ok h9).1, (cU_ok h10).1, (cU_ok h11).1, (cU_ok h12).1, (cB_ok h13).1, (cB_ok h14).1, (cI_ok h15).1, (cI_ok h16).1, (cI_ok h17).1, (cI_ok h18).1, (cI_ok h19).1, (cI_ok h20).1, (cB_ok h21).1, (cI_ok h22).1, (cI_ok h23).1]), (by show Dv.val _ = Dv.val _; simp only [Dv.val, flat, (cB_ok h24).2]), trivial⟩ rfl (is__pipe_Pipe_does S b0 b1 b2 b3 b4 b5 b6 b7 a8 a9 a10 a11 a12 a13 a14 a15 a16 a17 a18 a19 a20 a21 a22 a23 a24) (l' := [(80, [.S, .k b1, .k b2, .v, .v, .u, .b, .i .i64])]) ⟨⟨rfl, ⟨.inl rfl, ⟨.inr ⟨rfl, _, rfl, v1__pipe_Pipe_does S b0 b1 b2 b3 b4 b5 b6 b7 a8 a9 a10 a11 a12 a13 a14 a15 a16 a17 a18 a19 a20 a21 a22 a23 a24⟩, ⟨.inr ⟨rfl, _, rfl, v2__pipe_Pipe_does S b0 b1 b2 b3 b4 b5 b6 b7 a8 a9 a10 a11 a12 a13 a14 a15 a16 a17 a18 a19 a20 a21 a22 a23 a24⟩, ⟨.inl rfl, ⟨.inl rfl, ⟨.inl rfl, ⟨.inl rfl, ⟨.inl rfl, trivial⟩⟩⟩⟩⟩⟩⟩⟩⟩, trivial⟩ (m__pipe_Pipe_does S b0 b1 b2 b3 b4 b5 b6 b7 a8 a9 a10 a11 a12 a13 a14 a15 a16 a17 a18 a19 a20 a21 a22 a23 a24) hq hn
      · cases h
    · cases h
  · cases h)
noncomputable def FnXE : Env := E__pipe_Pipe_does
theorem FnXE_ok : EnvOk Tryz.prog FnXE := E__pipe_Pipe_does_ok
end Go.Proofs.YtfehilinnalflaaGreat
namespace Go.Proofs.YtfehilinnalflaaGreat
open Go.RowKit Go.BigFrame
set_option linter.unusedSimpArgs false
set_option linter.unusedVariables false
set_option maxRecDepth 100000
def kAt (o : Nat) : CK := if o = 33 then .i .i64 else if o = 34 then .b else .u
def stK : List CK := (List.range 65).map kAt
theorem stK_at (o : Nat) (h : o < 65) : stK[o]? = some (kAt o) := by simp [stK, h]
theorem isAll_len : ∀ {cs : List Ch} {ks : List CK}, isAll cs ks = true → cs.length = ks.length
  | [], [], _ => rfl
  | [], _ :: _, h => by cases h
  | _ :: _, [], h => by cases h
  | c :: cs, k :: ks, h => by
    have h' : c.is k = true ∧ isAll cs ks = true := by simpa [isAll] using h
    simp [isAll_len h'.2]
theorem isAll_at : ∀ {cs : List Ch} {ks : List CK}, isAll cs ks = true → ∀ (i : Nat) (c : Ch) (k : CK), cs[i]? = some c → ks[i]? = some k → c.is k = true
  | [], _, _, i, c, k, h1, _ => by cases h1
  | _ :: _, [], h, _, _, _, _, _ => by cases h
  | c :: cs, k :: ks, h, i, c', k', h1, h2 => by
    have h' : c.is k = true ∧ isAll cs ks = true := by simpa [isAll] using h
    cases i with
    | zero => cases h1; cases h2; exact h'.1
    | succ i => exact isAll_at h'.2 i c' k' h1 h2
theorem flat_sc : ∀ (cs : List Ch), (∀ c ∈ cs, c.sc = true) → flat cs = cs.map Ch.one
  | [], _ => rfl
  | c :: cs, h => by
    show c.cells ++ flat cs = c.one :: cs.map Ch.one
    rw [Ch.sc_cells (h c (by simp)), flat_sc cs (fun c hc => h c (by simp [hc]))]; rfl
theorem is_sc {c : Ch} {o : Nat} (h : c.is (kAt o) = true) : c.sc = true := by
  cases c with
  | S s =>
    unfold kAt at h
    split at h
    · cases h
    · split at h <;> cases h
  | _ => rfl
def unSt (cs : List Ch) : St := { x := fun i => (cs.getD i zeroI).U, pc := (cs.getD 32 zeroI).U, lev := (cs.getD 33 zeroI).I, v := (cs.getD 34 zeroI).B, c := fun i => (cs.getD (35 + i) zeroI).U, done := (cs.getD 64 zeroI).U }
theorem stK_sc {cs : List Ch} (h : isAll cs stK = true) : ∀ c ∈ cs, c.sc = true := by
  intro c hc
  obtain ⟨i, hi⟩ := List.mem_iff_getElem?.1 hc
  have hl : i < 65 := by have h1 := (List.getElem?_eq_some_iff.1 hi).1; have h2 := isAll_len h; simp [stK] at h2; omega
  exact is_sc (isAll_at h i c _ hi (stK_at i hl))
theorem unSt_ok {cs : List Ch} (h : isAll cs stK = true) : flat cs = stL (unSt cs) := by
  have hl : cs.length = 65 := by have := isAll_len h; simpa [stK] using this
  rw [flat_sc cs (stK_sc h)]
  apply List.ext_getElem?
  intro o
  by_cases ho : o < 65
  · rw [List.getElem?_map, List.getElem?_eq_getElem (by omega), stGet_ok _ o ho]
    have hk := isAll_at h o (cs[o]'(by omega)) _ (List.getElem?_eq_getElem (by omega)) (stK_at o ho)
    have hg : ∀ d, cs.getD o d = cs[o]'(by omega) := fun d => by rw [List.getD_eq_getElem?_getD, List.getElem?_eq_getElem (by omega)]; rfl
    show some (cs[o]'(by omega)).one = some (stGet (unSt cs) o).one
    congr 1
    generalize hc : cs[o]'(by omega) = c at hk hg
    have hu : c.is .u = true → c.one = U c.U := by intro h; cases c <;> first | (cases h; done) | rfl | (rename_i st v; cases v <;> cases h)
    unfold kAt at hk
    unfold stGet
    by_cases h33 : o = 33
    · subst h33
      rw [if_pos rfl] at hk
      have e : (unSt cs).lev = c.I := by show (cs.getD 33 zeroI).I = _; rw [hg]
      rw [if_neg (by omega), if_neg (by omega), if_pos rfl, e]
      cases c with
      | x st v =>
        cases v <;> first | (cases hk; done) | skip
        rename_i k n
        have e : k = .i64 := by simpa [Ch.is] using hk
        subst e; rfl
      | _ => cases hk
    rw [if_neg h33] at hk
    by_cases h34 : o = 34
    · subst h34
      rw [if_pos rfl] at hk
      have e : (unSt cs).v = c.B := by show (cs.getD 34 zeroI).B = _; rw [hg]
      rw [if_neg (by omega), if_neg (by omega), if_neg (by omega), if_pos rfl, e]
      cases c with
      | x st v => cases v <;> first | (cases hk; done) | rfl
      | _ => cases hk
    rw [if_neg h34] at hk
    rw [hu hk]
    by_cases h1 : o < 32
    · rw [if_pos h1]
      show U c.U = U (cs.getD o zeroI).U
      rw [hg]
    rw [if_neg h1]
    by_cases h2 : o = 32
    · subst h2
      rw [if_pos rfl]
      show U c.U = U (cs.getD 32 zeroI).U
      rw [hg]
    rw [if_neg h2, if_neg h33, if_neg h34]
    by_cases h3 : o < 64
    · rw [if_pos h3]
      show U c.U = U (cs.getD (35 + (o - 35)) zeroI).U
      rw [show 35 + (o - 35) = o by omega, hg]
    · rw [if_neg h3]
      obtain rfl : o = 64 := by omega
      show U c.U = U (cs.getD 64 zeroI).U
      rw [hg]
  · rw [List.getElem?_eq_none (by simp; omega), List.getElem?_eq_none (by rw [stL_len]; omega)]
theorem flat_setCh {cs : List Ch} (h : ∀ c ∈ cs, c.sc = true) (o : Nat) {c : Ch} (hc : c.sc = true) : flat (cs.set o c) = (flat cs).set o c.one := by
  rw [flat_sc cs h, flat_sc (cs.set o c) (fun d hd => by
    rcases List.mem_or_eq_of_mem_set hd with h1 | h1
    · exact h d h1
    · exact h1 ▸ hc), List.map_set]
theorem stL_setC (S : St) (i : Nat) (v : BitVec 64) (h : i < 29) : (stL S).set (35 + i) (U v) = stL { S with c := updC S.c i v } := by
  have := stA_setC S i v h
  unfold stA at this
  have := congrArg Array.toList this
  simpa using this
end Go.Proofs.YtfehilinnalflaaGreat
namespace Go.Proofs.YtfehilinnalflaaGreat
open Go.RowKit Go.BigFrame
set_option linter.unusedSimpArgs false
set_option linter.unusedVariables false
set_option maxRecDepth 100000
noncomputable def t_csr_Mask (a0 : Int) : Tr := evF Tryz.prog FnXE 120 Tryz.f57 [.s (.x true (.int .i64 a0))]
theorem is_csr_Mask (a0 : Int) (h : (decide (0 ≤ a0) && decide (a0 < 29)) = true) : (t_csr_Mask a0).is [.s (.u)] = true ∧ (t_csr_Mask a0).L = (t_csr_Mask a0).R := by
  have h29 : a0 = 0 ∨ a0 = 1 ∨ a0 = 2 ∨ a0 = 3 ∨ a0 = 4 ∨ a0 = 5 ∨ a0 = 6 ∨ a0 = 7 ∨ a0 = 8 ∨ a0 = 9 ∨ a0 = 10 ∨ a0 = 11 ∨ a0 = 12 ∨ a0 = 13 ∨ a0 = 14 ∨ a0 = 15 ∨ a0 = 16 ∨ a0 = 17 ∨ a0 = 18 ∨ a0 = 19 ∨ a0 = 20 ∨ a0 = 21 ∨ a0 = 22 ∨ a0 = 23 ∨ a0 = 24 ∨ a0 = 25 ∨ a0 = 26 ∨ a0 = 27 ∨ a0 = 28 := by
    simp only [Bool.and_eq_true, decide_eq_true_eq] at h
    omega
  rcases h29 with rfl | rfl | rfl | rfl | rfl | rfl | rfl | rfl | rfl | rfl | rfl | rfl | rfl | rfl | rfl | rfl | rfl | rfl | rfl | rfl | rfl | rfl | rfl | rfl | rfl | rfl | rfl | rfl | rfl <;> exact ⟨by kernel_rfl, by kernel_rfl⟩
noncomputable def s_csr_Mask (args : List Dv) : Option (Bool × AV) :=
  match args with
  | [.s (.x true (.int .i64 a0))] => if (decide (0 ≤ a0) && decide (a0 < 29)) = true then told (t_csr_Mask a0) [.s (.u)] else none
  | _ => none
noncomputable def E_csr_Mask : Env := FnXE.add 57 s_csr_Mask
theorem E_csr_Mask_ok : EnvOk Tryz.prog E_csr_Mask := FnXE_ok.add _ _ (by
  intro args n av h hn
  unfold s_csr_Mask at h
  split at h
  · rename_i a0
    split at h
    · rename_i hc
      exact told_ok (n := 120) (t := t_csr_Mask a0) (sh := [.s (.u)]) FnXE_ok hmix Tryz.func57 (xs0 := [.s (.x true (.int .i64 a0))]) rfl rfl (is_csr_Mask a0 hc).1 (fun xs => by kernel_rfl) h hn (is_csr_Mask a0 hc).2
    · cases h
  · cases h)
def wv (k : Int) (m v old : BitVec 64) : BitVec 64 := old &&& ~~~m ||| (bif (k == 0) && (bitsB (v &&& m) (loOf 11) (nOf 11 2) == BitVec.ofInt 64 2) then setB (v &&& m) (loOf 11) (nOf 11 2) (BitVec.ofInt 64 0) else v &&& m)
theorem with_told (S : St) (k : Int) (m v : BitVec 64) (h : (decide (0 ≤ k) && decide (k < 29)) = true) : (t_csr_With S k m v).needB = true ∧ (t_csr_With S k m v).sel St0 (fun vs => (pickC vs 0 0).T) = { S with c := updC S.c k.toNat (wv k m v (S.c k.toNat)) } := by
  have h1 : (t_csr_With S k m v).needB = bif (k == 0) then bif (bitsB (v &&& m) (loOf 11) (nOf 11 2) == BitVec.ofInt 64 2) then ((decide (0 ≤ k) && decide (k < 29)) && ((decide (0 ≤ k) && decide (k < 29)) && true)) else ((decide (0 ≤ k) && decide (k < 29)) && ((decide (0 ≤ k) && decide (k < 29)) && true)) else ((decide (0 ≤ k) && decide (k < 29)) && ((decide (0 ≤ k) && decide (k < 29)) && true)) := by kernel_rfl
  have h2 : (t_csr_With S k m v).sel St0 (fun vs => (pickC vs 0 0).T) = bif (k == 0) then bif (bitsB (v &&& m) (loOf 11) (nOf 11 2) == BitVec.ofInt 64 2) then { S with c := updC S.c k.toNat (S.c k.toNat &&& ~~~m ||| setB (v &&& m) (loOf 11) (nOf 11 2) (BitVec.ofInt 64 0)) } else { S with c := updC S.c k.toNat (S.c k.toNat &&& ~~~m ||| v &&& m) } else { S with c := updC S.c k.toNat (S.c k.toNat &&& ~~~m ||| v &&& m) } := by kernel_rfl
  rw [h1, h2, h]
  unfold wv
  cases (k == 0) <;> cases (bitsB (v &&& m) (loOf 11) (nOf 11 2) == BitVec.ofInt 64 2) <;> exact ⟨rfl, rfl⟩
def s_With2 (args : List Dv) : Option (Bool × AV) :=
  match args with
  | [.g cs, .s (.x true (.int .i64 k)), .s c2, .s c3] => if (isAll cs stK && (decide (0 ≤ k) && decide (k < 29))) = true then (cU c2).bind fun m => (cU c3).bind fun v => some (true, .d (.g (cs.set (35 + k.toNat) (.u false (wv k m v (cs.getD (35 + k.toNat) zeroI).U))))) else none
  | _ => none
noncomputable def E_With2 : Env := E_csr_Mask.add 56 s_With2
theorem E_With2_ok : EnvOk Tryz.prog E_With2 := E_csr_Mask_ok.add _ _ (by
  intro args n av h hn
  unfold s_With2 at h
  split at h
  · rename_i cs k c2 c3
    split at h
    · rename_i hc
      obtain ⟨hk, hr⟩ := (Bool.and_eq_true _ _).mp hc
      obtain ⟨m, h2, h⟩ := bind_some h
      obtain ⟨v, h3, h⟩ := bind_some h
      cases h
      obtain ⟨w1, w2⟩ := with_told (unSt cs) k m v hr
      obtain ⟨hq, x, hx, hg⟩ := E_csr_Mask_ok.spec 56 [.s (.S (unSt cs)), .s (.x false (.int .i64 k)), .s (.u false m), .s (.u false v)] (t_csr_With (unSt cs) k m v).needB (.d (selD (t_csr_With (unSt cs) k m v) 0 (.s .S))) rfl w1
      refine ⟨hq, x, ?_, ?_⟩
      · intro σ
        have e : x = .agg (stA ((t_csr_With (unSt cs) k m v).sel St0 (fun vs => (pickC vs 0 0).T))) := hx σ
        show x = .agg (flat (cs.set (35 + k.toNat) (.u false (wv k m v (cs.getD (35 + k.toNat) zeroI).U)))).toArray
        have hk29 : k.toNat < 29 := by simp only [Bool.and_eq_true, decide_eq_true_eq] at hr; omega
        rw [e, w2, flat_setCh (stK_sc hk) _ rfl, unSt_ok hk]
        show Value.agg (stL _).toArray = _
        have e2 := stL_setC (unSt cs) k.toNat (wv k m v ((unSt cs).c k.toNat)) hk29
        rw [← e2]; rfl
      · have e1 : Dv.val (.g cs) = Dv.val (.s (.S (unSt cs))) := by show Value.agg (flat cs).toArray = .agg (stL _).toArray; rw [unSt_ok hk]
        have : [Dv.g cs, .s (.x true (.int .i64 k)), .s c2, .s c3].map Dv.val = [Dv.s (.S (unSt cs)), .s (.x false (.int .i64 k)), .s (.u false m), .s (.u false v)].map Dv.val := by
          simp only [List.map_cons, List.map_nil, e1]
          simp only [Dv.val, (cU_ok h2).2, (cU_ok h3).2]
          rfl
        rw [this]; exact hg
    · cases h
  · cases h)
noncomputable def t_isa_Clean (S : St) : Tr := evF Tryz.prog E_With2 120 Tryz.f39 [.g (stCh S)]
set_option maxHeartbeats 4000000 in
theorem is_isa_Clean (S : St) : (t_isa_Clean S).is [.g stK] = true := by kernel_rfl
end Go.Proofs.YtfehilinnalflaaGreat
