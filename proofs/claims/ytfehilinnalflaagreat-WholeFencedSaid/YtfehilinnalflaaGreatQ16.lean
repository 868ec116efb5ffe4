/- Part 16 of the texts behind the law: contracts and lemmas, each proved; no condition but what each names. -/
import Derived.Deep.AppendSrc
import Derived.Deep.RegionLaw
import Derived.Test.YtfehilinnalflaaGreatQ01
import Derived.Test.YtfehilinnalflaaGreatQ07
import Derived.Test.YtfehilinnalflaaGreatQ14
import Derived.Test.YtfehilinnalflaaGreatQ15
namespace Go.Proofs.YtfehilinnalflaaGreat
open Go.RowKit Go.BigFrame
set_option linter.unusedSimpArgs false
set_option linter.unusedVariables false
set_option maxRecDepth 100000
section
variable {w : World} {G F : Nat → Prop} {P : Nat} {s : St} {S : HS} {a : Option Addr × Nat × Nat} {nx : Option Addr} {at_ : BitVec 64} {stops : Bool} {cy : Int} {l : List SlV} {nv : Option SlV}
theorem settime_w (h : PW w G F P s S a nx at_ stops cy l nv) (x : BitVec 64) :
    Calls Tryz.prog 45 #[.pointer (some ⟨S.b, 0, none⟩), U x] w fun e w' => e = .returned (.tuple #[]) ∧ ∃ F', PW w' (fun b => G b ∨ F' b) F' P s { bus := { S.bus with t := x }, tl := S.tl, b := S.b, p := S.p, t := S.t } a nx at_ stops cy l nv ∧ (∀ b, F' b → F b ∨ w.heap.size ≤ b) ∧ Fr G w w' := by
  obtain ⟨_, hT⟩ := E_setTime_ok.specM 45 [.d (.s (.x false (.pointer (some ⟨S.b, 0, none⟩)))), .d (.s (.u false x))] (pipH s S a nx at_ stops cy) (decide (S.b = S.b)) (.t []) { bus := { S.bus with t := x }, tl := S.tl, b := S.b, p := S.p, t := S.t } rfl (by simp)
  refine (hT _ _ _ w [.pointer (some ⟨S.b, 0, none⟩), U x] (FRel.cons rfl (FRel.cons rfl ⟨rfl, fun i av hi => by cases hi⟩)) h.mrel).mono ?_
  rintro e w' ⟨v, rfl, hv, M'⟩
  have hv' : v = .tuple #[] := hv
  refine ⟨by rw [hv'], ?_⟩
  exact h.back M' rfl rfl rfl rfl (flat_pipCh ..) h.len h.sl h.nxt
end
theorem retires_nil {w : World} {G F : Nat → Prop} {P : Nat} {s : St} {S : HS} {L off n c : Nat} {nx : Option Addr} {at_ : BitVec 64} {stops : Bool} {cy : Int} {x : SlV} {l : List SlV} {nv : Option SlV} (h : PW w G F P s S (some ⟨L, off, none⟩, n, c) nx at_ stops cy (x :: l) nv) (hx : (x.stage != 3) = true ∨ (decide (0 < x.left)) = true) (line : Bool) :
    Calls Tryz.prog 30 #[.pointer (some ⟨P, 0, none⟩), .bool line] w fun e w' => e = .returned (.slice none 0 0) ∧ Below w.heap.size w w' := by
  have HB := Below.refl w.heap.size w
  have c67 : w.cell? ⟨P, 67, none⟩ = some (.slice (some ⟨L, off, none⟩) n c) := h.cell 2 rfl
  have hn : 0 < n := by have : (x :: l).length = n := h.len; simp at this; omega
  obtain ⟨L', off', e1, hS, _⟩ : ∃ L' off', (some ⟨L, off, none⟩ : Option Addr) = some ⟨L', off', none⟩ ∧ SlAt w L' off' c (x :: l) ∧ True := by
    rcases h.sl with ⟨k, _⟩ | ⟨L', off', h1, h2, _⟩
    · cases k
    · exact ⟨L', off', h1, h2, trivial⟩
  cases e1
  have s0 : w.cell? ⟨L, off, none⟩ = some (U x.pc) := by have := hS.cell (k := 0) rfl (j := 0) (v := U x.pc) rfl; simpa using this
  have s1 : w.cell? ⟨L, off + 1, none⟩ = some (.int .u32 x.w) := by have := hS.cell (k := 0) rfl (j := 1) (v := .int .u32 x.w) rfl; simpa using this
  have s2 : w.cell? ⟨L, off + 2, none⟩ = some (U x.f1) := by have := hS.cell (k := 0) rfl (j := 2) (v := U x.f1) rfl; simpa using this
  have s3 : w.cell? ⟨L, off + 3, none⟩ = some (U x.f2) := by have := hS.cell (k := 0) rfl (j := 3) (v := U x.f2) rfl; simpa using this
  have s4 : w.cell? ⟨L, off + 4, none⟩ = some (U x.f3) := by have := hS.cell (k := 0) rfl (j := 4) (v := U x.f3) rfl; simpa using this
  have s5 : w.cell? ⟨L, off + 5, none⟩ = some (.bool x.f4) := by have := hS.cell (k := 0) rfl (j := 5) (v := .bool x.f4) rfl; simpa using this
  have s6 : w.cell? ⟨L, off + 6, none⟩ = some (.bool x.ok) := by have := hS.cell (k := 0) rfl (j := 6) (v := .bool x.ok) rfl; simpa using this
  have s7 : w.cell? ⟨L, off + 7, none⟩ = some (.int .i64 x.i.op) := by have := hS.cell (k := 0) rfl (j := 7) (v := .int .i64 x.i.op) rfl; simpa using this
  have s8 : w.cell? ⟨L, off + 8, none⟩ = some (.int .i64 x.i.rd) := by have := hS.cell (k := 0) rfl (j := 8) (v := .int .i64 x.i.rd) rfl; simpa using this
  have s9 : w.cell? ⟨L, off + 9, none⟩ = some (.int .i64 x.i.rs1) := by have := hS.cell (k := 0) rfl (j := 9) (v := .int .i64 x.i.rs1) rfl; simpa using this
  have s10 : w.cell? ⟨L, off + 10, none⟩ = some (.int .i64 x.i.rs2) := by have := hS.cell (k := 0) rfl (j := 10) (v := .int .i64 x.i.rs2) rfl; simpa using this
  have s11 : w.cell? ⟨L, off + 11, none⟩ = some (.int .i64 x.i.imm) := by have := hS.cell (k := 0) rfl (j := 11) (v := .int .i64 x.i.imm) rfl; simpa using this
  have s12 : w.cell? ⟨L, off + 12, none⟩ = some (.int .i64 x.i.csr) := by have := hS.cell (k := 0) rfl (j := 12) (v := .int .i64 x.i.csr) rfl; simpa using this
  have s13 : w.cell? ⟨L, off + 13, none⟩ = some (.bool x.is) := by have := hS.cell (k := 0) rfl (j := 13) (v := .bool x.is) rfl; simpa using this
  have s14 : w.cell? ⟨L, off + 14, none⟩ = some (.int .i64 x.stage) := by have := hS.cell (k := 0) rfl (j := 14) (v := .int .i64 x.stage) rfl; simpa using this
  have s15 : w.cell? ⟨L, off + 15, none⟩ = some (.int .i64 x.left) := by have := hS.cell (k := 0) rfl (j := 15) (v := .int .i64 x.left) rfl; simpa using this
  clear h hS
  have fin : ∀ cs T, Below w.heap.size w (w.alloc (.cells cs T)) := fun cs T => (Below.refl _ _).alloc (Nat.le_refl _) _
  have FI := Lib.hid fin
  clear fin HB
  by_cases h3 : x.stage = 3
  · have hl : decide (0 < x.left) = true := by
      rcases hx with hx | hx
      · rw [h3] at hx; cases hx
      · exact hx
    rw [h3] at s14
    clear hx h3
    go_enter Tryz.func30, Tryz.ntmps30
    go_wp2_with fail
    go_ret
    exact ⟨rfl, FI.out _ _⟩
  · have t3 : (x.stage != 3) = true := bne_iff_ne.2 h3
    clear hx h3
    go_enter Tryz.func30, Tryz.ntmps30
    go_wp2_with fail
    go_ret
    exact ⟨rfl, FI.out _ _⟩
structure RetV where
  pc : BitVec 64
  w : Int
  rd : Int
  value : BitVec 64
  trap : Bool
  f1 : BitVec 64
  f2 : BitVec 64
  f3 : BitVec 64
  f4 : Bool
  lev : Int
  v : Bool
  line : Bool
def retL (r : RetV) : List Value := [U r.pc, .int .u32 r.w, .int .i64 r.rd, U r.value, .bool r.trap, U r.f1, U r.f2, U r.f3, .bool r.f4, .int .i64 r.lev, .bool r.v, .bool r.line]
def DoesOk (w0 : World) (G0 F0 : Nat → Prop) (P : Nat) (s : St) (S : HS) (a : Option Addr × Nat × Nat) (nx : Option Addr) (at_ : BitVec 64) (stops : Bool) (cy : Int) (x : SlV) (l : List SlV) (nv : Option SlV) (line : Bool) (r : RetV) (s' : St) (S' : HS) (a' : Option Addr × Nat × Nat) (nx' : Option Addr) (at' : BitVec 64) (stops' : Bool) (cy' : Int) (l' : List SlV) (nv' : Option SlV) : Prop :=
  ∀ (w : World) (G F : Nat → Prop), PW w G F P s S a nx at_ stops cy (x :: l) nv →
    Calls Tryz.prog 46 #[.pointer (some ⟨P, 0, none⟩), .agg (slL x).toArray, .bool line] w fun e w' => e = .returned (.agg (retL r).toArray) ∧ ∃ F', PW w' (fun b => G b ∨ F' b) F' P s' S' a' nx' at' stops' cy' l' nv' ∧ (∀ b, F' b → F b ∨ w.heap.size ≤ b) ∧ Fr G w w'
theorem retires_run {w : World} {G F : Nat → Prop} {P : Nat} {s : St} {S : HS} {L off n c : Nat} {nx : Option Addr} {at_ : BitVec 64} {stops : Bool} {cy : Int} {x : SlV} {l : List SlV} {nv : Option SlV} (h : PW w G F P s S (some ⟨L, off, none⟩, n, c) nx at_ stops cy (x :: l) nv) (h3 : x.stage = 3) (h0 : x.left = 0) (line : Bool)
    {r : RetV} {s' : St} {S' : HS} {a' : Option Addr × Nat × Nat} {nx' : Option Addr} {at' : BitVec 64} {stops' : Bool} {cy' : Int} {l' : List SlV} {nv' : Option SlV}
    (hD : DoesOk w G F P s { bus := { S.bus with t := s.done }, tl := S.tl, b := S.b, p := S.p, t := S.t } (some ⟨L, off, none⟩, n, c) nx at_ stops cy x l nv line r s' S' a' nx' at' stops' cy' l' nv') :
    Calls Tryz.prog 30 #[.pointer (some ⟨P, 0, none⟩), .bool line] w fun e w' => ∃ (k : Nat) (G' F' : Nat → Prop), e = .returned (.slice (some ⟨k, 0, none⟩) 1 1) ∧ w'.heap[k]? = some (.cells (retL { r with line := line }).toArray 47 (0, 0)) ∧ w.heap.size ≤ k ∧ ¬ G' k ∧
      PW w' G' F' P s' S' a' nx' at' stops' cy' l' nv' ∧ (∀ b, G b → G' b) ∧ (∀ b, G' b → G b ∨ w.heap.size ≤ b) ∧ Fr G w w' := by
  have c67 : w.cell? ⟨P, 67, none⟩ = some (.slice (some ⟨L, off, none⟩) n c) := h.cell 2 rfl
  have hn : 0 < n := by have : (x :: l).length = n := h.len; simp at this; omega
  obtain ⟨L', off', e1, hS, _⟩ : ∃ L' off', (some ⟨L, off, none⟩ : Option Addr) = some ⟨L', off', none⟩ ∧ SlAt w L' off' c (x :: l) ∧ True := by
    rcases h.sl with ⟨k, _⟩ | ⟨L', off', h1, h2, _⟩
    · cases k
    · exact ⟨L', off', h1, h2, trivial⟩
  cases e1
  have s0 : w.cell? ⟨L, off, none⟩ = some (U x.pc) := by have := hS.cell (k := 0) rfl (j := 0) (v := U x.pc) rfl; simpa using this
  have s1 : w.cell? ⟨L, off + 1, none⟩ = some (.int .u32 x.w) := by have := hS.cell (k := 0) rfl (j := 1) (v := .int .u32 x.w) rfl; simpa using this
  have s2 : w.cell? ⟨L, off + 2, none⟩ = some (U x.f1) := by have := hS.cell (k := 0) rfl (j := 2) (v := U x.f1) rfl; simpa using this
  have s3 : w.cell? ⟨L, off + 3, none⟩ = some (U x.f2) := by have := hS.cell (k := 0) rfl (j := 3) (v := U x.f2) rfl; simpa using this
  have s4 : w.cell? ⟨L, off + 4, none⟩ = some (U x.f3) := by have := hS.cell (k := 0) rfl (j := 4) (v := U x.f3) rfl; simpa using this
  have s5 : w.cell? ⟨L, off + 5, none⟩ = some (.bool x.f4) := by have := hS.cell (k := 0) rfl (j := 5) (v := .bool x.f4) rfl; simpa using this
  have s6 : w.cell? ⟨L, off + 6, none⟩ = some (.bool x.ok) := by have := hS.cell (k := 0) rfl (j := 6) (v := .bool x.ok) rfl; simpa using this
  have s7 : w.cell? ⟨L, off + 7, none⟩ = some (.int .i64 x.i.op) := by have := hS.cell (k := 0) rfl (j := 7) (v := .int .i64 x.i.op) rfl; simpa using this
  have s8 : w.cell? ⟨L, off + 8, none⟩ = some (.int .i64 x.i.rd) := by have := hS.cell (k := 0) rfl (j := 8) (v := .int .i64 x.i.rd) rfl; simpa using this
  have s9 : w.cell? ⟨L, off + 9, none⟩ = some (.int .i64 x.i.rs1) := by have := hS.cell (k := 0) rfl (j := 9) (v := .int .i64 x.i.rs1) rfl; simpa using this
  have s10 : w.cell? ⟨L, off + 10, none⟩ = some (.int .i64 x.i.rs2) := by have := hS.cell (k := 0) rfl (j := 10) (v := .int .i64 x.i.rs2) rfl; simpa using this
  have s11 : w.cell? ⟨L, off + 11, none⟩ = some (.int .i64 x.i.imm) := by have := hS.cell (k := 0) rfl (j := 11) (v := .int .i64 x.i.imm) rfl; simpa using this
  have s12 : w.cell? ⟨L, off + 12, none⟩ = some (.int .i64 x.i.csr) := by have := hS.cell (k := 0) rfl (j := 12) (v := .int .i64 x.i.csr) rfl; simpa using this
  have s13 : w.cell? ⟨L, off + 13, none⟩ = some (.bool x.is) := by have := hS.cell (k := 0) rfl (j := 13) (v := .bool x.is) rfl; simpa using this
  have s14 : w.cell? ⟨L, off + 14, none⟩ = some (.int .i64 x.stage) := by have := hS.cell (k := 0) rfl (j := 14) (v := .int .i64 x.stage) rfl; simpa using this
  have s15 : w.cell? ⟨L, off + 15, none⟩ = some (.int .i64 x.left) := by have := hS.cell (k := 0) rfl (j := 15) (v := .int .i64 x.left) rfl; simpa using this
  rw [h3] at s14
  rw [h0] at s15
  have HH := Lib.hid h
  have HD := Lib.hid hD
  have hGs : ∀ b, G b → b < w.heap.size := h.lt
  have HG := Lib.hid hGs
  have H3 := Lib.hid h3
  have H0 := Lib.hid h0
  clear h hS hD hGs h3 h0
  go_enter Tryz.func30, Tryz.ntmps30
  go_wp2_with fail
  obtain ⟨k, hk⟩ : ∃ k, k = w.heap.size := ⟨_, rfl⟩
  obtain ⟨W1, hW1⟩ : ∃ W1, W1 = w.alloc (.cells #[U x.pc, .int .u32 x.w, U x.f1, U x.f2, U x.f3, .bool x.f4, .bool x.ok, .int .i64 x.i.op, .int .i64 x.i.rd, .int .i64 x.i.rs1, .int .i64 x.i.rs2, .int .i64 x.i.imm, .int .i64 x.i.csr, .bool x.is, .int .i64 3, .int .i64 0] 130) := ⟨_, rfl⟩
  have hE1 : W1.heap[k]? = some (.cells #[U x.pc, .int .u32 x.w, U x.f1, U x.f2, U x.f3, .bool x.f4, .bool x.ok, .int .i64 x.i.op, .int .i64 x.i.rd, .int .i64 x.i.rs1, .int .i64 x.i.rs2, .int .i64 x.i.imm, .int .i64 x.i.csr, .bool x.is, .int .i64 3, .int .i64 0] 130 (0, 0)) := by rw [hW1, hk]; exact (MapKept.heap_alloc w _).1
  have B1 : Below w.heap.size w W1 := by rw [hW1]; exact (Below.refl _ _).alloc (Nat.le_refl _) _
  rw [← hW1, ← hk]
  have P1 := HH.out.below B1
  have f65 : ∀ q : Beyond W1, q.to.cell? ⟨P, 65, none⟩ = some (.pointer (some ⟨S.b, 0, none⟩)) := fun q => (P1.below q.ok).cell 0 rfl
  have f64 : ∀ q : Beyond W1, q.to.cell? ⟨P, 64, none⟩ = some (U s.done) := fun q => (P1.below q.ok).scell (stA_done s)
  have HB1 := Lib.hid B1
  have HP1 := Lib.hid P1
  have HE1 := Lib.hid hE1
  have HK := Lib.hid hk
  clear B1 P1 hE1 hW1 hk s0 s1 s2 s3 s4 s5 s6 s7 s8 s9 s10 s11 s12 s13 s14 s15 c67
  refine wp_region_quiet_tail (C := fun w' => ∃ q : Beyond W1, w' = q.to) 9 (by kernel_rfl) (by kernel_rfl) ⟨⟨_, (Below.refl _ _).drew⟩, rfl⟩ ?_
  simp only [List.take_succ_cons, List.take_zero, List.drop_succ_cons, List.drop_zero]
  repeat (go_big_quiet_step (fail))
  refine wpQuiet_nil ?_
  rintro w4 ⟨q, rfl⟩
  clear f65 f64
  have P4 := HP1.out.below q.ok
  have B4 := HBstep HB1.out q.ok
  have E4 := (q.ok.block k (blk_lt HE1.out)).trans HE1.out
  generalize q.to = W4 at P4 B4 E4
  have HP4 := Lib.hid P4
  have HB4 := Lib.hid B4
  have HE4 := Lib.hid E4
  clear P4 B4 E4 HP1 HB1 HE1
  go_wp2_with fail
  (with_reducible refine (settime_w HP4.out s.done).mono ?_)
  rintro e w5 ⟨rfl, F5, P5, hF5, Fr5⟩
  have E5 : w5.heap[k]? = some (.cells #[U x.pc, .int .u32 x.w, U x.f1, U x.f2, U x.f3, .bool x.f4, .bool x.ok, .int .i64 x.i.op, .int .i64 x.i.rd, .int .i64 x.i.rs1, .int .i64 x.i.rs2, .int .i64 x.i.imm, .int .i64 x.i.csr, .bool x.is, .int .i64 3, .int .i64 0] 130 (0, 0)) := (Fr5.block k (blk_lt HE4.out) (fun hg => by have := HG.out k hg; have := HK.out; omega)).trans HE4.out
  have d0 : w5.cell? ⟨k, 0, none⟩ = some (U x.pc) := by simp [World.cell?, E5]
  have d1 : w5.cell? ⟨k, 1, none⟩ = some (.int .u32 x.w) := by simp [World.cell?, E5]
  have d2 : w5.cell? ⟨k, 2, none⟩ = some (U x.f1) := by simp [World.cell?, E5]
  have d3 : w5.cell? ⟨k, 3, none⟩ = some (U x.f2) := by simp [World.cell?, E5]
  have d4 : w5.cell? ⟨k, 4, none⟩ = some (U x.f3) := by simp [World.cell?, E5]
  have d5 : w5.cell? ⟨k, 5, none⟩ = some (.bool x.f4) := by simp [World.cell?, E5]
  have d6 : w5.cell? ⟨k, 6, none⟩ = some (.bool x.ok) := by simp [World.cell?, E5]
  have d7 : w5.cell? ⟨k, 7, none⟩ = some (.int .i64 x.i.op) := by simp [World.cell?, E5]
  have d8 : w5.cell? ⟨k, 8, none⟩ = some (.int .i64 x.i.rd) := by simp [World.cell?, E5]
  have d9 : w5.cell? ⟨k, 9, none⟩ = some (.int .i64 x.i.rs1) := by simp [World.cell?, E5]
  have d10 : w5.cell? ⟨k, 10, none⟩ = some (.int .i64 x.i.rs2) := by simp [World.cell?, E5]
  have d11 : w5.cell? ⟨k, 11, none⟩ = some (.int .i64 x.i.imm) := by simp [World.cell?, E5]
  have d12 : w5.cell? ⟨k, 12, none⟩ = some (.int .i64 x.i.csr) := by simp [World.cell?, E5]
  have d13 : w5.cell? ⟨k, 13, none⟩ = some (.bool x.is) := by simp [World.cell?, E5]
  have d14 : w5.cell? ⟨k, 14, none⟩ = some (.int .i64 3) := by simp [World.cell?, E5]
  have d15 : w5.cell? ⟨k, 15, none⟩ = some (.int .i64 0) := by simp [World.cell?, E5]
  have key := HD.out w5 _ _ P5
  rw [show (slL x).toArray = #[U x.pc, .int .u32 x.w, U x.f1, U x.f2, U x.f3, .bool x.f4, .bool x.ok, .int .i64 x.i.op, .int .i64 x.i.rd, .int .i64 x.i.rs1, .int .i64 x.i.rs2, .int .i64 x.i.imm, .int .i64 x.i.csr, .bool x.is, .int .i64 3, .int .i64 0] by unfold slL; rw [H3.out, H0.out], show (retL r).toArray = #[U r.pc, .int .u32 r.w, .int .i64 r.rd, U r.value, .bool r.trap, U r.f1, U r.f2, U r.f3, .bool r.f4, .int .i64 r.lev, .bool r.v, .bool r.line] from rfl] at key
  have HF5 := Lib.hid hF5
  have HFr5 := Lib.hid Fr5
  have HKey := Lib.hid key
  clear P5 hF5 Fr5 E5 HP4 HE4 key
  go_wp2_with fail
  (with_reducible refine HKey.out.mono ?_)
  rintro e w6 ⟨rfl, F6, P6, hF6, Fr6⟩
  have HP6 := Lib.hid P6
  have HF6 := Lib.hid hF6
  have HFr6 := Lib.hid Fr6
  clear P6 hF6 Fr6 HKey d0 d1 d2 d3 d4 d5 d6 d7 d8 d9 d10 d11 d12 d13 d14 d15
  go_wp2_with fail
  go_ret
  have hB7 : ∀ A B : Obj, Below w6.heap.size w6 ((w6.alloc A).alloc B) := fun A B => ((Below.refl _ _).alloc (Nat.le_refl _) A).alloc (by simp) B
  have hs5 := HFr5.out.size
  have hs6 := HFr6.out.size
  have hs4 := HB4.out.size
  have hF : ∀ b, F5 b → G b ∨ w.heap.size ≤ b := fun b hb => (HF5.out b hb).elim (fun h => .inl (HH.out.fg b h)) (fun h => .inr (by omega))
  have hF' : ∀ b, F6 b → G b ∨ w.heap.size ≤ b := fun b hb => (HF6.out b hb).elim (hF b) (fun h => .inr (by omega))
  refine ⟨w6.heap.size + 1, fun b => (G b ∨ F5 b) ∨ F6 b, F6, rfl, ?_, by omega, fun hg => ?_, HP6.out.below (hB7 _ _), fun b hb => .inl (.inl hb), fun b hb => ?_, ?_⟩
  · have := (MapKept.heap_alloc (w6.alloc (.cells #[U r.pc, .int .u32 r.w, .int .i64 r.rd, U r.value, .bool r.trap, U r.f1, U r.f2, U r.f3, .bool r.f4, .int .i64 r.lev, .bool r.v, .bool line] 47)) (.cells #[U r.pc, .int .u32 r.w, .int .i64 r.rd, U r.value, .bool r.trap, U r.f1, U r.f2, U r.f3, .bool r.f4, .int .i64 r.lev, .bool r.v, .bool line] 47)).1
    have hsz : ∀ A : Obj, (w6.alloc A).heap.size = w6.heap.size + 1 := fun A => by simp
    rw [hsz] at this
    exact this
  · have := HP6.out.lt _ hg
    omega
  · rcases hb with (hb | hb) | hb
    · exact .inl hb
    · exact hF b hb
    · exact hF' b hb
  · exact (((Fr.of_below HB4.out).trans HFr5.out).then_ HFr6.out (fun b hb => hb.elim .inl (hF b))).trans (Fr.of_below (hB7 _ _))
end Go.Proofs.YtfehilinnalflaaGreat
namespace Go.Proofs.YtfehilinnalflaaGreat
open Go.RowKit Go.BigFrame
set_option linter.unusedSimpArgs false
set_option linter.unusedVariables false
set_option maxRecDepth 100000
def Tr.mapV (f : List Dv → List Dv) : Tr → Tr
  | .fail => .fail
  | .ret vs m => .ret (f vs) m
  | .test c y n => .test c (y.mapV f) (n.mapV f)
  | .need c t => .need c (t.mapV f)
  | .both a b => .both (a.mapV f) (b.mapV f)
theorem Tr.leaf : ∀ (t : Tr), t.needB = true → ∃ vs : List Dv, (∀ (α : Type) (d : α) (π : List Dv → α), t.sel d π = π vs) ∧ (∀ sh, t.is sh = true → areAll vs sh = true) ∧ (∀ f : List Dv → List Dv, t.mapV f = t → f vs = vs)
  | .fail, h => by cases h
  | .ret vs m, _ => ⟨vs, fun α d π => rfl, fun sh h => h, fun f h => by
      have h' : Tr.ret (f vs) m = .ret vs m := h
      injection h'⟩
  | .test c y n, h => by
    have h' : (bif c then y.needB else n.needB) = true := h
    cases c with
    | true =>
      obtain ⟨vs, h1, h2, h3⟩ := Tr.leaf y h'
      exact ⟨vs, h1, fun sh hs => h2 sh (by have hs' : (y.is sh && n.is sh) = true := hs; exact ((Bool.and_eq_true _ _).mp hs').1), fun f hf => h3 f (by have hf' : Tr.test true (y.mapV f) (n.mapV f) = .test true y n := hf; injection hf')⟩
    | false =>
      obtain ⟨vs, h1, h2, h3⟩ := Tr.leaf n h'
      exact ⟨vs, h1, fun sh hs => h2 sh (by have hs' : (y.is sh && n.is sh) = true := hs; exact ((Bool.and_eq_true _ _).mp hs').2), fun f hf => h3 f (by have hf' : Tr.test false (y.mapV f) (n.mapV f) = .test false y n := hf; injection hf')⟩
  | .need c t, h => by
    have h' : (c && t.needB) = true := h
    obtain ⟨vs, h1, h2, h3⟩ := Tr.leaf t ((Bool.and_eq_true _ _).mp h').2
    exact ⟨vs, h1, h2, fun f hf => h3 f (by have hf' : Tr.need c (t.mapV f) = .need c t := hf; injection hf')⟩
  | .both a b, h => by
    obtain ⟨vs, h1, h2, h3⟩ := Tr.leaf a h
    exact ⟨vs, h1, h2, fun f hf => h3 f (by have hf' : Tr.both (a.mapV f) (b.mapV f) = .both a b := hf; injection hf')⟩
def retK : List CK := [.u, .i .u32, .i .i64, .u, .b, .u, .u, .u, .b, .i .i64, .b, .b]
def retV (t : Tr) : RetV := ⟨t.sel 0#64 fun vs => (pickC vs 0 0).U, t.sel 0 fun vs => (pickC vs 0 1).I, t.sel 0 fun vs => (pickC vs 0 2).I, t.sel 0#64 fun vs => (pickC vs 0 3).U, t.sel false fun vs => (pickC vs 0 4).B, t.sel 0#64 fun vs => (pickC vs 0 5).U, t.sel 0#64 fun vs => (pickC vs 0 6).U, t.sel 0#64 fun vs => (pickC vs 0 7).U, t.sel false fun vs => (pickC vs 0 8).B, t.sel 0 fun vs => (pickC vs 0 9).I, t.sel false fun vs => (pickC vs 0 10).B, t.sel false fun vs => (pickC vs 0 11).B⟩
theorem flat_ret (t : Tr) : flat (selG t 0 0 retK) = retL (retV t) := rfl
def slCh (x : SlV) : List Ch := [.u false x.pc, .x false (.int .u32 x.w), .u false x.f1, .u false x.f2, .u false x.f3, .x false (.bool x.f4), .x false (.bool x.ok), .x false (.int .i64 x.i.op), .x false (.int .i64 x.i.rd), .x false (.int .i64 x.i.rs1), .x false (.int .i64 x.i.rs2), .x false (.int .i64 x.i.imm), .x false (.int .i64 x.i.csr), .x false (.bool x.is), .x false (.int .i64 x.stage), .x false (.int .i64 x.left)]
noncomputable def doesT (s : St) (S : HS) (a : Option Addr × Nat × Nat) (nx : Option Addr) (at_ : BitVec 64) (stops : Bool) (cy : Int) (x : SlV) (line : Bool) : Tr :=
  t__pipe_Pipe_does S s S.b S.t a nx at_ stops cy x.pc x.w x.f1 x.f2 x.f3 x.f4 x.ok x.i.op x.i.rd x.i.rs1 x.i.rs2 x.i.imm x.i.csr x.is x.stage x.left line
def tailA (a : Option Addr × Nat × Nat) : Option Addr × Nat × Nat := (if a.2.2 = 1 then a.1 else a.1.map fun x => x.add 16, a.2.1 - 1, a.2.2 - 1)
def pipK (b t : Nat) : List CK := [.S, .k b, .k t, .v, .v, .u, .b, .i .i64]
def canonD (b t : Nat) (a : Option Addr × Nat × Nat) (nx : Option Addr) (at_ : BitVec 64) (stops : Bool) (cy : Int) : List Dv → List Dv
  | [r, .g (.S s' :: _ :: _ :: .x st _ :: _)] => [r, .g (bif st then flCh s' b t cy else [.S s', .x false (.pointer (some ⟨b, 0, none⟩)), .x false (.pointer (some ⟨t, 0, none⟩)), .x false (.slice (tailA a).1 (tailA a).2.1 (tailA a).2.2), .x false (.pointer nx), .u false at_, .x false (.bool stops), .x false (.int .i64 cy)])]
  | vs => vs
set_option maxHeartbeats 4000000 in
theorem canon_does (s : St) (S : HS) (a : Option Addr × Nat × Nat) (nx : Option Addr) (at_ : BitVec 64) (stops : Bool) (cy : Int) (x : SlV) (line : Bool) : (doesT s S a nx at_ stops cy x line).mapV (canonD S.b S.t a nx at_ stops cy) = doesT s S a nx at_ stops cy x line := by kernel_rfl
end Go.Proofs.YtfehilinnalflaaGreat
namespace Go.Proofs.YtfehilinnalflaaGreat
open Go.RowKit Go.BigFrame
set_option linter.unusedSimpArgs false
set_option linter.unusedVariables false
set_option maxRecDepth 100000
noncomputable def mkT (a0 : Int) : BitVec 64 := (t_csr_Mask a0).sel 0#64 fun vs => (pickC vs 0 0).U
def clF (vs : List Dv) (m : Option HS) : List Value := match vs with | [.g cs] => flat cs | _ => []
noncomputable def clL (S : St) (lev : Int) (v : Bool) : List Value := stL { x := updC S.x 0 0#64, pc := S.pc &&& ~~~3#64, lev := lev, v := v, c := fun i => wv i (mkT i) (S.c i) 0#64, done := S.done }
set_option maxHeartbeats 4000000 in
theorem cl_skel (S : St) : (t_isa_Clean S).cut clF = .test (S.lev != 0) (.test (S.lev != 1) (.ret (clL S 3 false)) (.ret (clL S S.lev S.v))) (.ret (clL S S.lev S.v)) := by kernel_rfl
set_option maxHeartbeats 4000000 in
theorem cl_need (S : St) : (t_isa_Clean S).needB = bif (S.lev != 0) then bif (S.lev != 1) then true else true else true := by kernel_rfl
theorem mkT_mask (i : Nat) (h : i < 29) : mkT i = maskV i := by
  match i, h with
  | 0, _ => exact (show mkT 0 = maskV 0 by kernel_rfl)
  | 1, _ => exact (show mkT 1 = maskV 1 by kernel_rfl)
  | 2, _ => exact (show mkT 2 = maskV 2 by kernel_rfl)
  | 3, _ => exact (show mkT 3 = maskV 3 by kernel_rfl)
  | 4, _ => exact (show mkT 4 = maskV 4 by kernel_rfl)
  | 5, _ => exact (show mkT 5 = maskV 5 by kernel_rfl)
  | 6, _ => exact (show mkT 6 = maskV 6 by kernel_rfl)
  | 7, _ => exact (show mkT 7 = maskV 7 by kernel_rfl)
  | 8, _ => exact (show mkT 8 = maskV 8 by kernel_rfl)
  | 9, _ => exact (show mkT 9 = maskV 9 by kernel_rfl)
  | 10, _ => exact (show mkT 10 = maskV 10 by kernel_rfl)
  | 11, _ => exact (show mkT 11 = maskV 11 by kernel_rfl)
  | 12, _ => exact (show mkT 12 = maskV 12 by kernel_rfl)
  | 13, _ => exact (show mkT 13 = maskV 13 by kernel_rfl)
  | 14, _ => exact (show mkT 14 = maskV 14 by kernel_rfl)
  | 15, _ => exact (show mkT 15 = maskV 15 by kernel_rfl)
  | 16, _ => exact (show mkT 16 = maskV 16 by kernel_rfl)
  | 17, _ => exact (show mkT 17 = maskV 17 by kernel_rfl)
  | 18, _ => exact (show mkT 18 = maskV 18 by kernel_rfl)
  | 19, _ => exact (show mkT 19 = maskV 19 by kernel_rfl)
  | 20, _ => exact (show mkT 20 = maskV 20 by kernel_rfl)
  | 21, _ => exact (show mkT 21 = maskV 21 by kernel_rfl)
  | 22, _ => exact (show mkT 22 = maskV 22 by kernel_rfl)
  | 23, _ => exact (show mkT 23 = maskV 23 by kernel_rfl)
  | 24, _ => exact (show mkT 24 = maskV 24 by kernel_rfl)
  | 25, _ => exact (show mkT 25 = maskV 25 by kernel_rfl)
  | 26, _ => exact (show mkT 26 = maskV 26 by kernel_rfl)
  | 27, _ => exact (show mkT 27 = maskV 27 by kernel_rfl)
  | 28, _ => exact (show mkT 28 = maskV 28 by kernel_rfl)
  | n + 29, h => exact absurd h (by omega)
theorem set_mpp (x : BitVec 64) : setB x (loOf 11) (nOf 11 2) (BitVec.ofInt 64 0) = x &&& ~~~6144#64 := by
  have e1 : loOf 11 = 11 := by decide
  have e2 : nOf 11 2 = 2 := by decide
  have e3 : maskB 2 <<< 11 = 6144#64 := by decide
  have e4 : ((BitVec.ofInt 64 0) &&& maskB 2) <<< 11 = 0#64 := by decide
  rw [e1, e2]
  unfold setB
  rw [e3, e4, BitVec.or_zero]
theorem wv_clean (i : Nat) (m v : BitVec 64) : wv i m v 0#64 = if i = 0 then mppB (v &&& m) else v &&& m := by
  unfold wv
  rw [BitVec.zero_and, BitVec.zero_or]
  by_cases h : i = 0
  · subst h
    rw [if_pos rfl]
    unfold mppB
    have e0 : (((0 : Nat) : Int) == 0) = true := rfl
    have e1 : loOf 11 = 11 := by decide
    have e2 : nOf 11 2 = 2 := by decide
    rw [e0, Bool.true_and]
    by_cases hb : bitsB (v &&& m) 11 2 = 2#64
    · rw [if_pos hb, e1, e2, show (bitsB (v &&& m) 11 2 == BitVec.ofInt 64 2) = true from beq_iff_eq.2 hb]
      have := set_mpp (v &&& m)
      rw [e1, e2] at this
      exact this
    · rw [if_neg hb, e1, e2, show (bitsB (v &&& m) 11 2 == BitVec.ofInt 64 2) = false from beq_eq_false_iff_ne.2 hb]
      rfl
  · rw [if_neg h, show (((i : Nat) : Int) == 0) = false from beq_eq_false_iff_ne.2 (by omega), Bool.false_and]
    rfl
theorem stL_congr {S S' : St} (hx : ∀ i, i < 32 → S.x i = S'.x i) (hp : S.pc = S'.pc) (hl : S.lev = S'.lev) (hv : S.v = S'.v) (hc : ∀ i, i < 29 → S.c i = S'.c i) (hd : S.done = S'.done) : stL S = stL S' := by
  unfold stL
  rw [List.map_congr_left (f := fun i => U (S.x i)) (g := fun i => U (S'.x i)) (fun i hi => by rw [hx i (List.mem_range.1 hi)]), List.map_congr_left (f := fun i => U (S.c i)) (g := fun i => U (S'.c i)) (fun i hi => by rw [hc i (List.mem_range.1 hi)]), hp, hl, hv, hd]
theorem clL_ok (S : St) (lev : Int) (v : Bool) (h1 : lev = cleanL S.lev) (h2 : v = if cleanL S.lev = 3 then false else S.v) : clL S lev v = stL (cleanS S) := by
  refine stL_congr (fun i _ => rfl) rfl h1 h2 (fun i hi => ?_) rfl
  show wv i (mkT i) (S.c i) 0#64 = if i = 0 then mppB (S.c 0 &&& maskV 0) else S.c i &&& maskV i
  rw [mkT_mask i hi, wv_clean]
  by_cases h : i = 0
  · subst h; rfl
  · rw [if_neg h, if_neg h]
theorem clean_flat (S : St) : flat (selG (t_isa_Clean S) 0 0 stK) = stL (cleanS S) := by
  have hn : (t_isa_Clean S).needB = true := by rw [cl_need]; cases (S.lev != 0) <;> cases (S.lev != 1) <;> rfl
  obtain ⟨vs, h1, h2, _⟩ := (t_isa_Clean S).leaf hn
  have his := h2 _ (is_isa_Clean S)
  have e1 : (outs (t_isa_Clean S) 0 [.g stK]).map Dv.val = vs.map Dv.val := by
    have e : outs (t_isa_Clean S) 0 [.g stK] = outs (.ret vs none) 0 [.g stK] := by
      show [Dv.g (selG (t_isa_Clean S) 0 0 stK)] = [Dv.g (selG (.ret vs none) 0 0 stK)]
      have : ∀ (ks : List CK) (j : Nat), selG (t_isa_Clean S) 0 j ks = selG (.ret vs none) 0 j ks := by
        intro ks
        induction ks with
        | nil => intro j; rfl
        | cons k ks ih =>
          intro j
          show selC (t_isa_Clean S) 0 j k :: selG (t_isa_Clean S) 0 (j + 1) ks = selC (.ret vs none) 0 j k :: selG (.ret vs none) 0 (j + 1) ks
          rw [ih]
          congr 1
          cases k <;> simp only [selC, h1] <;> rfl
      rw [this]
    rw [e]
    exact outs_ret none vs [.g stK] 0 vs (fun m => by rw [Nat.zero_add]) his
  have e2 : clF vs none = flat (selG (t_isa_Clean S) 0 0 stK) := by
    match vs, his, e1 with
    | [.g cs], _, e1 =>
      have e1' : [Dv.val (.g (selG (t_isa_Clean S) 0 0 stK))] = [Dv.val (.g cs)] := e1
      injection e1' with e1' _
      have e1'' : Value.agg (flat (selG (t_isa_Clean S) 0 0 stK)).toArray = .agg (flat cs).toArray := e1'
      injection e1'' with e3
      show flat cs = _
      exact (by simpa using (congrArg Array.toList e3).symm)
    | [], his, _ => cases his
    | [.s c], his, _ => simp [areAll, Dv.is] at his
    | _ :: _ :: _, his, _ => simp [areAll] at his
  have e3 : (t_isa_Clean S).sel [] (fun vs => clF vs none) = ((t_isa_Clean S).cut clF).sel [] id := cut_sel clF [] id _ (fun vs m => rfl) _
  rw [← e2, ← h1 _ [] (fun vs => clF vs none), e3, cl_skel]
  show (bif (S.lev != 0) then (bif (S.lev != 1) then clL S 3 false else clL S S.lev S.v) else clL S S.lev S.v) = _
  by_cases h0 : S.lev = 0
  · rw [show (S.lev != 0) = false from by rw [h0]; rfl]
    have hc : cleanL S.lev = S.lev := by unfold cleanL; rw [if_pos (.inl h0)]
    exact clL_ok S _ _ hc.symm (by rw [hc, if_neg (by rw [h0]; decide)])
  · rw [show (S.lev != 0) = true from bne_iff_ne.2 h0]
    by_cases h1 : S.lev = 1
    · rw [show (S.lev != 1) = false from by rw [h1]; rfl]
      have hc : cleanL S.lev = S.lev := by unfold cleanL; rw [if_pos (.inr (.inl h1))]
      exact clL_ok S _ _ hc.symm (by rw [hc, if_neg (by rw [h1]; decide)])
    · rw [show (S.lev != 1) = true from bne_iff_ne.2 h1]
      have h3 : cleanL S.lev = 3 := by
        unfold cleanL
        by_cases h3 : S.lev = 3
        · rw [if_pos (.inr (.inr h3))]; exact h3
        · rw [if_neg (by omega)]
      exact clL_ok S _ _ h3.symm (by rw [if_pos h3])
theorem iclean_b (S : St) : Gives Tryz.prog 39 #[.agg (stA S)] (.agg (stA (cleanS S))) := by
  have hn : (t_isa_Clean S).needB = true := by rw [cl_need]; cases (S.lev != 0) <;> cases (S.lev != 1) <;> rfl
  obtain ⟨_, v, hv, hg⟩ := told_ok (n := 120) (t := t_isa_Clean S) (sh := [.g stK]) E_With2_ok hmix Tryz.func39 (args := [.g (stCh S)]) (xs0 := [.g (stCh S)]) rfl rfl (is_isa_Clean S) (fun xs => by kernel_rfl) rfl hn
  have e : v = .agg (flat (selG (t_isa_Clean S) 0 0 stK)).toArray := hv []
  rw [e, clean_flat] at hg
  have e2 : ([Dv.g (stCh S)].map Dv.val).toArray = #[.agg (stA S)] := by
    show #[Value.agg (flat (stCh S)).toArray] = _
    rw [flat_stCh]; rfl
  rw [e2] at hg
  exact hg
def s_clean (args : List Dv) : Option (Bool × AV) :=
  match args with
  | [.s c0] => (cS c0).map fun S => (true, .d (.s (.S (cleanS S))))
  | _ => none
noncomputable def ClE : Env := FnXE.add 39 s_clean
theorem ClE_ok : EnvOk Tryz.prog ClE := FnXE_ok.add _ _ (by
  intro args n av h hn
  unfold s_clean at h
  split at h
  · rename_i c0
    obtain ⟨S, hS, he⟩ := Option.map_eq_some_iff.1 h
    cases he
    refine ⟨fun xs => by kernel_rfl, _, fun σ => rfl, ?_⟩
    have := iclean_b S
    simp only [List.map_cons, List.map_nil, Dv.val, (cS_ok hS).2]
    exact this
  · cases h)
end Go.Proofs.YtfehilinnalflaaGreat
namespace Go.Proofs.YtfehilinnalflaaGreat
open Go.RowKit Go.BigFrame
set_option linter.unusedSimpArgs false
set_option linter.unusedVariables false
set_option maxRecDepth 100000
noncomputable def t__pipe_Pipe_Set (S : HS) (b0 : St) (b1 : Nat) (b2 : Nat) (b3 : Option Addr × Nat × Nat) (b4 : Option Addr) (b5 : BitVec 64) (b6 : Bool) (b7 : Int) (a8 : St) : Tr := evFX Tryz.prog ClE 120 Tryz.f24 [.p 0 0, .d (.s (.S a8))] ⟨[⟨80, [.S b0, .x false (.pointer (some ⟨b1, 0, none⟩)), .x false (.pointer (some ⟨b2, 0, none⟩)), .x false (.slice b3.1 b3.2.1 b3.2.2), .x false (.pointer b4), .u false b5, .x false (.bool b6), .x false (.int .i64 b7)]⟩], some S, true, 0⟩
set_option maxHeartbeats 4000000 in
theorem is__pipe_Pipe_Set (S : HS) (b0 : St) (b1 : Nat) (b2 : Nat) (b3 : Option Addr × Nat × Nat) (b4 : Option Addr) (b5 : BitVec 64) (b6 : Bool) (b7 : Int) (a8 : St) : (t__pipe_Pipe_Set S b0 b1 b2 b3 b4 b5 b6 b7 a8).is ([] ++ bsh [(80, [.S, .v, .v, .v, .v, .u, .b, .i .i64])]) = true := by kernel_rfl
set_option maxHeartbeats 4000000 in
theorem m__pipe_Pipe_Set (S : HS) (b0 : St) (b1 : Nat) (b2 : Nat) (b3 : Option Addr × Nat × Nat) (b4 : Option Addr) (b5 : BitVec 64) (b6 : Bool) (b7 : Int) (a8 : St) : (t__pipe_Pipe_Set S b0 b1 b2 b3 b4 b5 b6 b7 a8).setM S = t__pipe_Pipe_Set S b0 b1 b2 b3 b4 b5 b6 b7 a8 := by kernel_rfl
set_option maxHeartbeats 4000000 in
theorem v2__pipe_Pipe_Set (S : HS) (b0 : St) (b1 : Nat) (b2 : Nat) (b3 : Option Addr × Nat × Nat) (b4 : Option Addr) (b5 : BitVec 64) (b6 : Bool) (b7 : Int) (a8 : St) : (t__pipe_Pipe_Set S b0 b1 b2 b3 b4 b5 b6 b7 a8).setV 0 2 b2 = t__pipe_Pipe_Set S b0 b1 b2 b3 b4 b5 b6 b7 a8 := by kernel_rfl
set_option maxHeartbeats 4000000 in
theorem v1__pipe_Pipe_Set (S : HS) (b0 : St) (b1 : Nat) (b2 : Nat) (b3 : Option Addr × Nat × Nat) (b4 : Option Addr) (b5 : BitVec 64) (b6 : Bool) (b7 : Int) (a8 : St) : (t__pipe_Pipe_Set S b0 b1 b2 b3 b4 b5 b6 b7 a8).setV 0 1 b1 = t__pipe_Pipe_Set S b0 b1 b2 b3 b4 b5 b6 b7 a8 := by kernel_rfl
noncomputable def s__pipe_Pipe_Set (avs : List AV) (H : Hp) : Option (Bool × AV × Hp) :=
  match avs, H.m, H.rw with
  | [.p k0 0, .d (.s c8)], some S, true => match H.bs[k0]? with
    | some ⟨T0, [d0, d1, d2, d3, d4, d5, d6, d7]⟩ => if T0 = 80 ∧ H.ro ≤ k0 then (cS d0).bind fun b0 => (cP d1).bind fun b1 => (cP d2).bind fun b2 => (cL d3).bind fun b3 => (cPo d4).bind fun b4 => (cU d5).bind fun b5 => (cB d6).bind fun b6 => (cI .i64 d7).bind fun b7 => (cS c8).bind fun a8 => (told (t__pipe_Pipe_Set S b0 b1 b2 b3 b4 b5 b6 b7 a8) []).map fun r => (r.1, r.2, ⟨putAll [k0] (blks (t__pipe_Pipe_Set S b0 b1 b2 b3 b4 b5 b6 b7 a8) 0 [(80, [.S, .k b1, .k b2, .v, .v, .u, .b, .i .i64])]) H.bs, some (Tr.theM (t__pipe_Pipe_Set S b0 b1 b2 b3 b4 b5 b6 b7 a8) S), H.rw, H.ro⟩) else none
    | _ => none
  | _, _, _ => none
noncomputable def E__pipe_Pipe_Set : Env := ClE.addX 24 s__pipe_Pipe_Set
set_option maxHeartbeats 4000000 in
theorem E__pipe_Pipe_Set_ok : EnvOk Tryz.prog E__pipe_Pipe_Set := ClE_ok.addX _ _ (fun xs => by kernel_rfl) (by
  intro avs H n av H' h hn
  unfold s__pipe_Pipe_Set at h
  split at h
  · rename_i k0 c8 S hS hrw
    split at h
    · rename_i T0 d0 d1 d2 d3 d4 d5 d6 d7 hbk
      split at h
      · rename_i hT0
        obtain ⟨b0, g0, h⟩ := bind_some h
        obtain ⟨b1, g1, h⟩ := bind_some h
        obtain ⟨b2, g2, h⟩ := bind_some h
        obtain ⟨b3, g3, h⟩ := bind_some h
        obtain ⟨b4, g4, h⟩ := bind_some h
        obtain ⟨b5, g5, h⟩ := bind_some h
        obtain ⟨b6, g6, h⟩ := bind_some h
        obtain ⟨b7, g7, h⟩ := bind_some h
        obtain ⟨a8, h8, h⟩ := bind_some h
        obtain ⟨⟨n0, av0⟩, hq, he⟩ := Option.map_eq_some_iff.1 h
        clear h
        cases he
        exact turn_ok (n := 120) (avs := [.p k0 0, .d (.s c8)]) (args := [.p 0 0, .d (.s (.S a8))]) (t := (t__pipe_Pipe_Set S b0 b1 b2 b3 b4 b5 b6 b7 a8)) (sh := []) ClE_ok hmix Tryz.func24 (Sub.one hbk hT0.1 (by simp only [flat, (cS_ok g0).1, (cP_ok g1).1, (cP_ok g2).1, (cL_ok g3).1, (cPo_ok g4).1, (cU_ok g5).1, (cB_ok g6).1, (cI_ok g7).1]) _ (fun T h => hS.trans h) true 0) rfl hrw hS (Shp.one _ _ _ _ _) (wr_one hT0.2) ⟨⟨rfl, rfl⟩, (by show Dv.val _ = Dv.val _; simp only [Dv.val, flat, (cS_ok h8).2]), trivial⟩ rfl (is__pipe_Pipe_Set S b0 b1 b2 b3 b4 b5 b6 b7 a8) (l' := [(80, [.S, .k b1, .k b2, .v, .v, .u, .b, .i .i64])]) ⟨⟨rfl, ⟨.inl rfl, ⟨.inr ⟨rfl, _, rfl, v1__pipe_Pipe_Set S b0 b1 b2 b3 b4 b5 b6 b7 a8⟩, ⟨.inr ⟨rfl, _, rfl, v2__pipe_Pipe_Set S b0 b1 b2 b3 b4 b5 b6 b7 a8⟩, ⟨.inl rfl, ⟨.inl rfl, ⟨.inl rfl, ⟨.inl rfl, ⟨.inl rfl, trivial⟩⟩⟩⟩⟩⟩⟩⟩⟩, trivial⟩ (m__pipe_Pipe_Set S b0 b1 b2 b3 b4 b5 b6 b7 a8) hq hn
      · cases h
    · cases h
  · cases h)
noncomputable def FnZE : Env := E__pipe_Pipe_Set
theorem FnZE_ok : EnvOk Tryz.prog FnZE := E__pipe_Pipe_Set_ok
end Go.Proofs.YtfehilinnalflaaGreat
namespace Go.Proofs.YtfehilinnalflaaGreat
open Go.RowKit Go.BigFrame
set_option linter.unusedSimpArgs false
set_option linter.unusedVariables false
set_option maxRecDepth 100000
noncomputable def t__pipe_Pipe_State (b0 : St) (b1 : Nat) (b2 : Nat) (b3 : Option Addr × Nat × Nat) (b4 : Option Addr) (b5 : BitVec 64) (b6 : Bool) (b7 : Int) : Tr := evFX Tryz.prog FnZE 120 Tryz.f15 [.p 0 0] ⟨[⟨80, [.S b0, .x false (.pointer (some ⟨b1, 0, none⟩)), .x false (.pointer (some ⟨b2, 0, none⟩)), .x false (.slice b3.1 b3.2.1 b3.2.2), .x false (.pointer b4), .u false b5, .x false (.bool b6), .x false (.int .i64 b7)]⟩], none, false, 1⟩
theorem is__pipe_Pipe_State (b0 : St) (b1 : Nat) (b2 : Nat) (b3 : Option Addr × Nat × Nat) (b4 : Option Addr) (b5 : BitVec 64) (b6 : Bool) (b7 : Int) : (t__pipe_Pipe_State b0 b1 b2 b3 b4 b5 b6 b7).is ([.s .S]) = true := by kernel_rfl
noncomputable def s__pipe_Pipe_State (avs : List AV) (H : Hp) : Option (Bool × AV) :=
  match avs with
  | [.p k0 0] => match H.bs[k0]? with
    | some ⟨T0, [d0, d1, d2, d3, d4, d5, d6, d7]⟩ => if T0 = 80 ∧ True then (cS d0).bind fun b0 => (cP d1).bind fun b1 => (cP d2).bind fun b2 => (cL d3).bind fun b3 => (cPo d4).bind fun b4 => (cU d5).bind fun b5 => (cB d6).bind fun b6 => (cI .i64 d7).bind fun b7 => told (t__pipe_Pipe_State b0 b1 b2 b3 b4 b5 b6 b7) [.s .S] else none
    | _ => none
  | _ => none
noncomputable def E__pipe_Pipe_State : Env := FnZE.addR 15 s__pipe_Pipe_State
theorem E__pipe_Pipe_State_ok : EnvOk Tryz.prog E__pipe_Pipe_State := FnZE_ok.addR _ _ (fun xs => by kernel_rfl) (by
  intro avs H n av h hn
  unfold s__pipe_Pipe_State at h
  split at h
  · rename_i k0
    split at h
    · rename_i T0 d0 d1 d2 d3 d4 d5 d6 d7 hbk
      split at h
      · rename_i hT0
        obtain ⟨b0, g0, h⟩ := bind_some h
        obtain ⟨b1, g1, h⟩ := bind_some h
        obtain ⟨b2, g2, h⟩ := bind_some h
        obtain ⟨b3, g3, h⟩ := bind_some h
        obtain ⟨b4, g4, h⟩ := bind_some h
        obtain ⟨b5, g5, h⟩ := bind_some h
        obtain ⟨b6, g6, h⟩ := bind_some h
        obtain ⟨b7, g7, h⟩ := bind_some h
        exact read_ok (n := 120) (avs := [.p k0 0]) (args := [.p 0 0]) (t := (t__pipe_Pipe_State b0 b1 b2 b3 b4 b5 b6 b7)) (sh := [.s .S]) FnZE_ok hmix Tryz.func15 (Sub.one hbk hT0.1 (by simp only [flat, (cS_ok g0).1, (cP_ok g1).1, (cP_ok g2).1, (cL_ok g3).1, (cPo_ok g4).1, (cU_ok g5).1, (cB_ok g6).1, (cI_ok g7).1]) _ (fun T h => by cases h) false 1) rfl rfl ⟨⟨rfl, rfl⟩, trivial⟩ rfl (is__pipe_Pipe_State b0 b1 b2 b3 b4 b5 b6 b7) h hn
      · cases h
    · cases h
  · cases h)
noncomputable def FnZaE : Env := E__pipe_Pipe_State
theorem FnZaE_ok : EnvOk Tryz.prog FnZaE := E__pipe_Pipe_State_ok
end Go.Proofs.YtfehilinnalflaaGreat
namespace Go.Proofs.YtfehilinnalflaaGreat
open Go.RowKit Go.BigFrame
set_option linter.unusedSimpArgs false
set_option linter.unusedVariables false
set_option maxRecDepth 100000
theorem set_vals (g : Nat) (T : TypeId) : ∀ (l : List Value) (w : World) (pre post : List Value), l.length ≤ post.length → w.heap[g]? = some (.cells (pre ++ post).toArray T (0, 0)) →
    (w.setCells g pre.length l).heap[g]? = some (.cells (pre ++ l ++ post.drop l.length).toArray T (0, 0)) ∧ Upd w (w.setCells g pre.length l) g
  | [], w, pre, post, _, hg => ⟨by simpa [World.setCells] using hg, Upd.of_below (Below.refl _ _) g⟩
  | v :: l, w, pre, post, hl, hg => by
    obtain ⟨p, qs, rfl⟩ : ∃ p qs, post = p :: qs := by
      cases post with
      | nil => simp at hl
      | cons p qs => exact ⟨p, qs, rfl⟩
    have h1 := set_block (v := v) hg (j := pre.length) (by simp)
    have e1 : (pre ++ p :: qs).toArray.set! pre.length v = (pre ++ [v] ++ qs).toArray := by
      rw [Array.set!_eq_setIfInBounds]
      simp
    rw [e1] at h1
    have ih := set_vals g T l (w.setCell ⟨g, pre.length, none⟩ v) (pre ++ [v]) qs (by simpa using hl) h1
    rw [show (pre ++ [v]).length = pre.length + 1 by simp] at ih
    obtain ⟨i1, i2⟩ := ih
    refine ⟨?_, (set_upd w g pre.length v).trans i2⟩
    show ((w.setCell ⟨g, pre.length, none⟩ v).setCells g (pre.length + 1) l).heap[g]? = _
    rw [i1]
    congr 3
    simp
theorem SlAt.append {w : World} {L off c : Nat} {l : List SlV} (h : SlAt w L off c l) (hr : l.length < c) (x : SlV) :
    SlAt (w.setCells L (off + l.length * 16) (slL x)) L off c (l ++ [x]) ∧ SlAt (w.setCells L (off + l.length * 16) (slL x)) L off c l ∧ Upd w (w.setCells L (off + l.length * 16) (slL x)) L := by
  obtain ⟨arr, h1, h2, h3, h4⟩ := h
  have hlen : off + l.length * 16 + 16 ≤ arr.size := by omega
  have e : arr = (arr.toList.take (off + l.length * 16) ++ arr.toList.drop (off + l.length * 16)).toArray := by rw [List.take_append_drop]
  have hpl : (arr.toList.take (off + l.length * 16)).length = off + l.length * 16 := by simp; omega
  have hdl : (arr.toList.drop (off + l.length * 16)).length = arr.size - (off + l.length * 16) := by simp
  have hg := h1
  rw [e] at hg
  obtain ⟨s1, s2⟩ := set_vals L 130 (slL x) w _ _ (by rw [hdl, slL_len]; omega) hg
  rw [hpl] at s1 s2
  have low : ∀ i, i < off + l.length * 16 → (arr.toList.take (off + l.length * 16) ++ slL x ++ (arr.toList.drop (off + l.length * 16)).drop (slL x).length).toArray[i]? = arr[i]? := fun i hi => by
    rw [List.getElem?_toArray, List.append_assoc, List.getElem?_append_left (by rw [hpl]; exact hi), List.getElem?_take_of_lt hi, Array.getElem?_toList]
  have hsz : (arr.toList.take (off + l.length * 16) ++ slL x ++ (arr.toList.drop (off + l.length * 16)).drop (slL x).length).toArray.size = arr.size := by
    rw [List.size_toArray, List.length_append, List.length_append, hpl, List.length_drop, hdl, slL_len]; omega
  refine ⟨⟨_, s1, by rw [hsz]; exact h2, by simp; omega, fun k y hk j v hv => ?_⟩, ⟨_, s1, by rw [hsz]; exact h2, h3, fun k y hk j v hv => ?_⟩, s2⟩
  · have hj : j < 16 := by have := (List.getElem?_eq_some_iff.1 hv).1; rw [slL_len] at this; exact this
    by_cases hkl : k < l.length
    · rw [List.getElem?_append_left hkl] at hk
      rw [low _ (by omega)]
      exact h4 k y hk j v hv
    · have hk2 : k = l.length := by have := (List.getElem?_eq_some_iff.1 hk).1; simp at this; omega
      subst hk2
      rw [List.getElem?_append_right (Nat.le_refl _), Nat.sub_self] at hk
      cases hk
      rw [List.getElem?_toArray, List.append_assoc, List.getElem?_append_right (by rw [hpl]; omega), hpl, show off + l.length * 16 + j - (off + l.length * 16) = j by omega, List.getElem?_append_left (by rw [slL_len]; exact hj)]
      exact hv
  · have hj : j < 16 := by have := (List.getElem?_eq_some_iff.1 hv).1; rw [slL_len] at this; exact this
    have hkl := (List.getElem?_eq_some_iff.1 hk).1
    rw [low _ (by omega)]
    exact h4 k y hk j v hv
theorem flat16 : ∀ (l : List SlV) (k : Nat) (x : SlV), l[k]? = some x → ∀ (j : Nat) (v : Value), (slL x)[j]? = some v → (l.flatMap slL)[k * 16 + j]? = some v
  | [], k, x, h, _, _, _ => by cases h
  | y :: l, k, x, h, j, v, hv => by
    have hj : j < 16 := by have := (List.getElem?_eq_some_iff.1 hv).1; rw [slL_len] at this; exact this
    cases k with
    | zero =>
      cases h
      rw [List.flatMap_cons, List.getElem?_append_left (by rw [slL_len]; omega), Nat.zero_mul, Nat.zero_add]; exact hv
    | succ k =>
      rw [List.flatMap_cons, List.getElem?_append_right (by rw [slL_len]; omega), slL_len, show (k + 1) * 16 + j - 16 = k * 16 + j by omega]
      exact flat16 l k x h j v hv
theorem flat16_len : ∀ (l : List SlV), (l.flatMap slL).length = l.length * 16
  | [] => rfl
  | x :: l => by rw [List.flatMap_cons, List.length_append, flat16_len l, slL_len, List.length_cons]; omega
theorem flat16_back : ∀ (l : List SlV) (i : Nat) (v : Value), (l.flatMap slL)[i]? = some v → ∃ k x j, i = k * 16 + j ∧ l[k]? = some x ∧ (slL x)[j]? = some v := by
  intro l i v h
  have hi := (List.getElem?_eq_some_iff.1 h).1
  rw [flat16_len] at hi
  have hk : i / 16 < l.length := by omega
  refine ⟨i / 16, l[i / 16], i % 16, by omega, List.getElem?_eq_getElem hk, ?_⟩
  have hv : ∃ u, (slL l[i / 16])[i % 16]? = some u := ⟨_, List.getElem?_eq_getElem (by rw [slL_len]; omega)⟩
  obtain ⟨u, hu⟩ := hv
  have := flat16 l _ _ (List.getElem?_eq_getElem hk) _ u hu
  rw [show i / 16 * 16 + i % 16 = i by omega, h] at this
  rw [hu, this]
theorem slL_one (x : SlV) : ∀ v ∈ slL x, v.oneCell' = true := by
  intro v hv
  simp only [slL, List.mem_cons, List.not_mem_nil, or_false] at hv
  rcases hv with h | h | h | h | h | h | h | h | h | h | h | h | h | h | h | h <;> subst h <;> rfl
theorem infoSl : (Tryz.prog.info? 130).map (fun i => (i.zero.map fun z => z.cells.size, i.size, i.bytes)) = some (some 16, 16, 128) := by kernel_rfl
theorem slot_info : ∃ i z, Tryz.prog.info? 130 = some i ∧ i.zero = some z ∧ z.cells.size = 16 ∧ i.size = 16 ∧ i.bytes = 128 := by
  have h := infoSl
  cases hi : Tryz.prog.info? 130 with
  | none => rw [hi] at h; cases h
  | some i =>
    rw [hi] at h
    simp only [Option.map_some, Option.some.injEq, Prod.mk.injEq] at h
    obtain ⟨h1, h2, h3⟩ := h
    cases hz : i.zero with
    | none => rw [hz] at h1; cases h1
    | some z => rw [hz] at h1; exact ⟨i, z, rfl, hz, by simpa using h1, h2, h3⟩
theorem SlAt.new (w : World) (l : List SlV) (x : SlV) (z : Value) (hz : z.cells.size = 16) (g : Nat) (hg : l.length + 1 ≤ g) :
    SlAt (w.alloc (.cells ((l.flatMap slL ++ slL x).toArray ++ Builtin.zeroCells z.cells (g - (l.length + 1))) 130)) w.heap.size 0 g (l ++ [x]) := by
  refine ⟨_, (MapKept.heap_alloc w _).1, ?_, by simp; omega, fun k y hk j v hv => ?_⟩
  · rw [Array.size_append, size_zeroCells, hz, List.size_toArray, List.length_append, flat16_len, slL_len]
    omega
  · have e : (l ++ [x]).flatMap slL = l.flatMap slL ++ slL x := by rw [List.flatMap_append]; simp
    have hkl := (List.getElem?_eq_some_iff.1 hk).1
    have hj : j < 16 := by have := (List.getElem?_eq_some_iff.1 hv).1; rw [slL_len] at this; exact this
    have hs : (l.flatMap slL ++ slL x).toArray.size = (l.length + 1) * 16 := by rw [List.size_toArray, List.length_append, flat16_len, slL_len]; omega
    rw [Array.getElem?_append_left (by rw [hs]; simp at hkl; omega), List.getElem?_toArray, ← e, Nat.zero_add]
    exact flat16 _ k y hk j v hv
theorem add_at (b o j : Nat) : (⟨b, o, none⟩ : Addr).add j = ⟨b, o + j, none⟩ := by unfold Addr.add; split <;> simp_all
theorem slots_app {w : World} {G F : Nat → Prop} {P : Nat} {a : Option Addr × Nat × Nat} {l : List SlV} (hS : SlotsAt w G F P a l) (hlen : l.length = a.2.1) (h4 : l.length < 4) {k1 : Nat} {x : SlV} (hk1 : w.heap[k1]? = some (.cells (slL x).toArray 130 (0, 0))) (hP : P < w.heap.size) (hF : ∀ b, F b → b < w.heap.size) (ty : TypeId) :
    ∃ (a' : Option Addr × Nat × Nat) (w' : World), (Builtin.append_ #[72, 72] ty #[.slice a.1 a.2.1 a.2.2, .slice (some ⟨k1, 0, none⟩) 1 1]).run Tryz.prog w = .ok (.slice a'.1 a'.2.1 a'.2.2) w' ∧ (l ++ [x]).length = a'.2.1 ∧
      SlotsAt w' (fun b => G b ∨ b = w.heap.size) F P a' (l ++ [x]) ∧ SlotsAt w' (fun b => G b ∨ b = w.heap.size) F P a l ∧ Fr (fun b => G b ∧ ¬ F b ∧ b ≠ P ∧ ∃ off, a.1 = some ⟨b, off, none⟩) w w' ∧ w'.heap.size ≤ w.heap.size + 1 ∧
      ∀ L off, a'.1 = some ⟨L, off, none⟩ → (∃ off', a.1 = some ⟨L, off', none⟩) ∨ L = w.heap.size := by
  obtain ⟨i, z, hi, hz, hzs, hsz, hby⟩ := slot_info
  have hsrc : Src Tryz.prog i.size 72 (.slice (some ⟨k1, 0, none⟩) 1 1) 1 (slL x) w := by
    rw [hsz]
    refine Src.ofSlice (P := Tryz.prog) w Tryz.underlying72 _ 1 1 (slL x) rfl (fun j u hj => ?_) (slL_one x)
    rw [add_at]
    simp [World.cell?, hk1, hj]
  have grow : ∀ olds : List Value, olds = l.flatMap slL → (Builtin.firstCells i.size a.2.1 (.slice a.1 a.2.1 a.2.2)).run Tryz.prog w.drew = .ok olds.toArray w.drew → a.2.2 < a.2.1 + 1 →
      (Builtin.append_ #[72, 72] ty #[.slice a.1 a.2.1 a.2.2, .slice (some ⟨k1, 0, none⟩) 1 1]).run Tryz.prog w = .ok (.slice (some ⟨w.heap.size, 0, none⟩) (a.2.1 + 1) (grownCap w (a.2.1 + 1) a.2.2 130))
        (w.drew.alloc (.cells ((l.flatMap slL ++ slL x).toArray ++ Builtin.zeroCells z.cells (grownCap w (a.2.1 + 1) a.2.2 130 - (a.2.1 + 1))) 130)) := by
    rintro olds rfl hold hc
    exact run_append_grow_src (P := Tryz.prog) w 72 72 ty 130 i z Tryz.underlying72 hi hz a.1 a.2.1 a.2.2 _ hold _ 1 (slL x) hsrc hc (by omega) (growslice_fits hc (by rw [hby]; omega))
  have fresh : ∀ cs T, Below w.heap.size w (w.drew.alloc (.cells cs T)) := fun cs T => (Below.refl w.heap.size w).drew.alloc (Nat.le_refl _) _
  have newS : a.2.2 < a.2.1 + 1 → SlotsAt (w.drew.alloc (.cells ((l.flatMap slL ++ slL x).toArray ++ Builtin.zeroCells z.cells (grownCap w (a.2.1 + 1) a.2.2 130 - (a.2.1 + 1))) 130)) (fun b => G b ∨ b = w.heap.size) F P (some ⟨w.heap.size, 0, none⟩, a.2.1 + 1, grownCap w (a.2.1 + 1) a.2.2 130) (l ++ [x]) := by
    intro hc
    have hge := grownCap_ge w (a.2.1 + 1) a.2.2 130
    have := SlAt.new w.drew l x z hzs (grownCap w (a.2.1 + 1) a.2.2 130) (by rw [hlen]; exact hge)
    rw [hlen] at this
    exact .inr ⟨w.heap.size, 0, rfl, this, .inr rfl, fun hf => by have := hF _ hf; omega, by omega⟩
  have szA : ∀ cs T, (w.drew.alloc (.cells cs T)).heap.size ≤ w.heap.size + 1 := fun cs T => by simp
  rcases hS with ⟨h1, h2, h3⟩ | ⟨L, off, h1, h2, h3, h5, h6⟩
  · have hn : a.2.1 = 0 := by rw [← hlen, h2]; rfl
    have hold : (Builtin.firstCells i.size a.2.1 (.slice a.1 a.2.1 a.2.2)).run Tryz.prog w.drew = .ok ([] : List Value).toArray w.drew := by rw [h1]; exact run_firstCells_none _ _ _ _ _
    refine ⟨(some ⟨w.heap.size, 0, none⟩, a.2.1 + 1, grownCap w (a.2.1 + 1) a.2.2 130), _, grow [] (by rw [h2]; rfl) hold (by omega), by simp [hlen], newS (by omega), .inl ⟨h1, h2, h3⟩, Fr.of_below (fresh _ _), szA _ _, fun L off h => .inr ?_⟩
    have h' : some (⟨w.heap.size, 0, none⟩ : Addr) = some ⟨L, off, none⟩ := h
    injection h' with h'; injection h' with h' _; exact h'.symm
  · by_cases hr : l.length < a.2.2
    · obtain ⟨q1, q2, q3⟩ := h2.append hr x
      have hrun := run_append_room_src (P := Tryz.prog) w 72 72 ty 130 i Tryz.underlying72 hi L off a.2.1 a.2.2 _ 1 (slL x) hsrc (by omega)
        (fun j hj => by
          obtain ⟨arr, g1, g2, g3, g4⟩ := h2
          rw [slL_len] at hj
          have : off + a.2.1 * i.size + j < arr.size := by rw [hsz]; omega
          simp [World.cell?, g1, this])
        (fun j hj => h2.free _)
      rw [hsz, ← hlen] at hrun
      refine ⟨(some ⟨L, off, none⟩, l.length + 1, a.2.2), _, ?_, by simp, .inr ⟨L, off, rfl, q1, .inl h3, h5, h6⟩, .inr ⟨L, off, h1, q2, .inl h3, h5, h6⟩, Fr.of_upd q3 ⟨h3, h5, h6, off, h1⟩, ?_, fun L' off' h => .inl ⟨off, ?_⟩⟩
      · rw [h1, ← hlen]; exact hrun
      · have e : ∀ (l : List Value) (w : World) (o : Nat), (w.setCells L o l).heap.size = w.heap.size := by
          intro l
          induction l with
          | nil => intro w o; rfl
          | cons v l ih => intro w o; show ((w.setCell ⟨L, o, none⟩ v).setCells L (o + 1) l).heap.size = _; rw [ih]; show (w.heap.modify L _).size = _; simp
        rw [e]; omega
      · have h' : some (⟨L, off, none⟩ : Addr) = some ⟨L', off', none⟩ := h
        injection h' with h'; injection h' with h' _; rw [h1, h']
    · have hold : (Builtin.firstCells i.size a.2.1 (.slice a.1 a.2.1 a.2.2)).run Tryz.prog w.drew = .ok (l.flatMap slL).toArray w.drew := by
        rw [h1]
        refine run_firstCells_some _ _ _ _ _ _ _ (by rw [flat16_len, hsz, hlen]) fun j v hj => ?_
        obtain ⟨k, y, j', rfl, hk, hv⟩ := flat16_back l j v hj
        rw [add_at]
        have := h2.cell hk hv
        rw [show off + (k * 16 + j') = off + k * 16 + j' by omega]
        exact this
      refine ⟨(some ⟨w.heap.size, 0, none⟩, a.2.1 + 1, grownCap w (a.2.1 + 1) a.2.2 130), _, grow _ rfl hold (by omega), by simp [hlen], newS (by omega), .inr ⟨L, off, h1, h2.keep ((fresh _ _).block L h2.lt), .inl h3, h5, h6⟩, Fr.of_below (fresh _ _), szA _ _, fun L' off' h => .inr ?_⟩
      have h' : some (⟨w.heap.size, 0, none⟩ : Addr) = some ⟨L', off', none⟩ := h
      injection h' with h'; injection h' with h' _; exact h'.symm
def tail7 (b t : Nat) (a : Option Addr × Nat × Nat) (nx : Option Addr) (at_ : BitVec 64) (stops : Bool) (cy : Int) : List Value := [.pointer (some ⟨b, 0, none⟩), .pointer (some ⟨t, 0, none⟩), .slice a.1 a.2.1 a.2.2, .pointer nx, U at_, .bool stops, .int .i64 cy]
theorem PW.setP {w : World} {G F : Nat → Prop} {P : Nat} {s : St} {S : HS} {a : Option Addr × Nat × Nat} {nx : Option Addr} {at_ : BitVec 64} {stops : Bool} {cy : Int} {l : List SlV} {nv : Option SlV} (h : PW w G F P s S a nx at_ stops cy l nv) (j : Nat) (v : Value) {a' : Option Addr × Nat × Nat} {nx' : Option Addr} {at' : BitVec 64} {stops' : Bool} {cy' : Int} {l' : List SlV} {nv' : Option SlV}
    (hj : j < 7) (hv : (tail7 S.b S.t a nx at_ stops cy).set j v = tail7 S.b S.t a' nx' at' stops' cy') (hlen : l'.length = a'.2.1) (hsl : SlotsAt w G F P a' l') (hnx : NextAt w G F P a' nx' nv') : PW (w.setCell ⟨P, 65 + j, none⟩ v) G F P s S a' nx' at' stops' cy' l' nv' := by
  have u := set_upd w P (65 + j) v
  have hsz : (w.setCell ⟨P, 65 + j, none⟩ v).heap.size = w.heap.size := by show (w.heap.modify P _).size = _; simp
  have fr : Fr (fun b => b = P) w (w.setCell ⟨P, 65 + j, none⟩ v) := Fr.of_upd u rfl
  refine ⟨h.mach.keep (Nat.le_of_eq hsz.symm) fun b hb => u.block b (h.mach.fl b hb) (fun e => h.fp (e ▸ hb)), h.fg, h.fp, h.gp, ?_, hlen, hsl.keep fr (fun b e => .inr e) (fun b h => h) (fun b h => .inl h), hnx.keep fr (fun b e => .inr e) (fun b h => h) (fun b h => .inl h), fun b hb => by rw [hsz]; exact h.lt b hb⟩
  have hl : (pipL s S.b S.t a nx at_ stops cy).toArray.size = 72 := by simp [pipL, stL_len]
  rw [set_block h.blk (by rw [hl]; omega)]
  congr 2
  rw [Array.set!_eq_setIfInBounds]
  have e : (pipL s S.b S.t a nx at_ stops cy).set (65 + j) v = pipL s S.b S.t a' nx' at' stops' cy' := by
    show (stL s ++ tail7 S.b S.t a nx at_ stops cy).set (65 + j) v = stL s ++ tail7 S.b S.t a' nx' at' stops' cy'
    rw [List.set_append_right _ _ (by rw [stL_len]; omega), stL_len, show 65 + j - 65 = j by omega, hv]
  rw [← e]
  simp
theorem PW.setN {w : World} {G F : Nat → Prop} {P : Nat} {s : St} {S : HS} {a : Option Addr × Nat × Nat} {N : Nat} {at_ : BitVec 64} {stops : Bool} {cy : Int} {l : List SlV} {x : SlV} (h : PW w G F P s S a (some ⟨N, 0, none⟩) at_ stops cy l (some x)) (y : Int) :
    PW (w.setCell ⟨N, 15, none⟩ (.int .i64 y)) G F P s S a (some ⟨N, 0, none⟩) at_ stops cy l (some { x with left := y }) := by
  obtain ⟨N', x', e1, e2, h3, h4, h5, h6, h7⟩ : ∃ N' x', (some ⟨N, 0, none⟩ : Option Addr) = some ⟨N', 0, none⟩ ∧ some x = some x' ∧ w.heap[N']? = some (.cells (slL x').toArray 130 (0, 0)) ∧ G N' ∧ ¬ F N' ∧ N' ≠ P ∧ ∀ L off, a.1 = some ⟨L, off, none⟩ → N' ≠ L := by
    rcases h.nxt with ⟨k, _⟩ | h
    · cases k
    · exact h
  cases e1; cases e2
  have u := set_upd w N 15 (.int .i64 y)
  have hsz : (w.setCell ⟨N, 15, none⟩ (.int .i64 y)).heap.size = w.heap.size := by show (w.heap.modify N _).size = _; simp
  refine ⟨h.mach.keep (Nat.le_of_eq hsz.symm) fun b hb => u.block b (h.mach.fl b hb) (fun e => h5 (e ▸ hb)), h.fg, h.fp, h.gp, (u.block P (blk_lt h.blk) (Ne.symm h6)).trans h.blk, h.len, ?_, ?_, fun b hb => by rw [hsz]; exact h.lt b hb⟩
  · rcases h.sl with k | ⟨L, off, g1, g2, g3, g4, g5⟩
    · exact .inl k
    · exact .inr ⟨L, off, g1, g2.keep (u.block L g2.lt (fun e => h7 L off g1 e.symm)), g3, g4, g5⟩
  · refine .inr ⟨N, _, rfl, rfl, ?_, h4, h5, h6, h7⟩
    rw [set_block h3 (by show 15 < 16; omega)]
    rfl
end Go.Proofs.YtfehilinnalflaaGreat
namespace Go.Proofs.YtfehilinnalflaaGreat
open Go.RowKit
set_option linter.unusedSimpArgs false
set_option linter.unusedVariables false
set_option maxRecDepth 100000
theorem step_append_run {P : Program} {ops : Array Oper} {o : Oper} {a : Act} {w : World} {K : Act → World → Prop} {Q : Exit → Act → World → Prop} {E : Prop}
    (hg : o.guard = none) (s x : Operand) (t tx : TypeId) (hop : o.op = Op.call { callee := Callee.builtin Builtin.append, args := #[s, x], argTypes := #[t, tx] })
    (sv xv : Value) (hs : a.eval s = sv) (hx : a.eval x = xv) (v : Value) (w' : World) (hrun : (Builtin.append_ #[t, tx] o.type #[sv, xv]).run P w = .ok v w')
    (hK : K (a.put o.dst v) w') : if Region.wanted o (yielded ops a.tmps) = true then Oper.wp P o a w K Q else E := by
  have hw : Region.wanted o (yielded ops a.tmps) = true := by simp [Region.wanted, hg]
  rw [if_pos hw]
  unfold Oper.wp
  simp [execOp, hop, resolve, invoke, builtin, hs, hx, hrun, Result.andThen]
  exact hK
end Go.Proofs.YtfehilinnalflaaGreat
