/- Part 17 of the texts behind the law: contracts and lemmas, each proved; no condition but what each names. -/

import Derived.Test.YtfehilinnalflaaGreatQ06
import Derived.Test.YtfehilinnalflaaGreatQ14
import Derived.Test.YtfehilinnalflaaGreatQ16
namespace Go.Proofs.YtfehilinnalflaaGreat
open Go.RowKit Go.BigFrame
set_option linter.unusedSimpArgs false
set_option linter.unusedVariables false
set_option maxRecDepth 100000
def BeginsOk (P : Nat) (s : St) (S : HS) (a : Option Addr × Nat × Nat) (at_ : BitVec 64) (cy : Int) (l : List SlV) (pick : Int) (y : SlV) (S' : HS) : Prop :=
  ∀ (w : World) (G F : Nat → Prop), PW w G F P s S a none at_ false cy l none →
    Calls Tryz.prog 49 #[.pointer (some ⟨P, 0, none⟩), .int .i64 pick] w fun e w' => e = .returned (.agg (slL y).toArray) ∧ ∃ F', PW w' (fun b => G b ∨ F' b) F' P s S' a none at_ false cy l none ∧ (∀ b, F' b → F b ∨ w.heap.size ≤ b) ∧ Fr G w w'
theorem fetches_stop {w : World} {G F : Nat → Prop} {P : Nat} {s : St} {S : HS} {a : Option Addr × Nat × Nat} {at_ : BitVec 64} {cy : Int} {l : List SlV} (h : PW w G F P s S a none at_ true cy l none) (late pick : Int) :
    Calls Tryz.prog 32 #[.pointer (some ⟨P, 0, none⟩), .int .i64 late, .int .i64 pick] w fun e w' => e = .returned (.tuple #[]) ∧ w = w' := by
  have c68 : w.cell? ⟨P, 68, none⟩ = some (.pointer none) := h.cell 3 rfl
  have c70 : w.cell? ⟨P, 70, none⟩ = some (.bool true) := h.cell 5 rfl
  clear h
  go_enter Tryz.func32, Tryz.ntmps32
  go_wp2_with fail
  first | go_end0 | (simp only [Exit.inBlock, Exit.then]; refine bodyPost_ret (results_none rfl _ _ _) rfl ?_) | refine bodyPost_ret (results_none rfl _ _ _) rfl ?_
  exact ⟨rfl, rfl⟩
theorem fetches_wait {w : World} {G F : Nat → Prop} {P : Nat} {s : St} {S : HS} {a : Option Addr × Nat × Nat} {N : Nat} {at_ : BitVec 64} {stops : Bool} {cy : Int} {l : List SlV} {x : SlV} (h : PW w G F P s S a (some ⟨N, 0, none⟩) at_ stops cy l (some x)) (late pick : Int) (h0 : 0 < x.left) (h7 : x.left ≤ 7) :
    Calls Tryz.prog 32 #[.pointer (some ⟨P, 0, none⟩), .int .i64 late, .int .i64 pick] w fun e w' => e = .returned (.tuple #[]) ∧ PW w' G F P s S a (some ⟨N, 0, none⟩) at_ stops cy l (some { x with left := x.left - 1 }) ∧ Fr G w w' := by
  have c68 : w.cell? ⟨P, 68, none⟩ = some (.pointer (some ⟨N, 0, none⟩)) := h.cell 3 rfl
  obtain ⟨hN, hG⟩ : w.heap[N]? = some (.cells (slL x).toArray 130 (0, 0)) ∧ G N := by
    rcases h.nxt with ⟨k, _⟩ | ⟨N', x', e1, e2, h3, h4, _⟩
    · cases k
    · cases e1; cases e2; exact ⟨h3, h4⟩
  have c15 : w.cell? ⟨N, 15, none⟩ = some (.int .i64 x.left) := by simp [World.cell?, hN, slL]
  have z15 : w.frozen? ⟨N, 15, none⟩ = false := by simp [World.frozen?, hN]
  have t0 : decide (0 < x.left) = true := decide_eq_true h0
  have H := Lib.hid h
  have HG := Lib.hid hG
  clear h hN hG
  go_enter Tryz.func32, Tryz.ntmps32
  go_wp2_with fail
  first | go_end0 | (simp only [Exit.inBlock, Exit.then]; refine bodyPost_ret (results_none rfl _ _ _) rfl ?_) | refine bodyPost_ret (results_none rfl _ _ _) rfl ?_
  exact ⟨rfl, H.out.setN _, Fr.of_upd (set_upd _ _ _ _) HG.out⟩
theorem fetches_begin {w : World} {G F : Nat → Prop} {P : Nat} {s : St} {S : HS} {a : Option Addr × Nat × Nat} {at_ : BitVec 64} {cy : Int} {l : List SlV} (h : PW w G F P s S a none at_ false cy l none) (late pick : Int) {y : SlV} {S' : HS} (hB : BeginsOk P s S a at_ cy l pick y S') {nxt : BitVec 64} (hN : Gives Tryz.prog 50 #[U y.pc, .int .u32 y.w] (U nxt)) {al : Bool} (hA : Gives Tryz.prog 51 #[.agg (inL y.i).toArray] (.bool al)) :
    Calls Tryz.prog 32 #[.pointer (some ⟨P, 0, none⟩), .int .i64 late, .int .i64 pick] w fun e w' => e = .returned (.tuple #[]) ∧ ∃ (G' F' : Nat → Prop) (N : Nat), PW w' G' F' P s S' a (some ⟨N, 0, none⟩) nxt (!y.ok || (!y.is || al)) cy l (some { y with left := late }) ∧
      (∀ b, G b → G' b) ∧ (∀ b, G' b → G b ∨ w.heap.size ≤ b) ∧ Fr G w w' := by
  have c68 : w.cell? ⟨P, 68, none⟩ = some (.pointer none) := h.cell 3 rfl
  have c70 : w.cell? ⟨P, 70, none⟩ = some (.bool false) := h.cell 5 rfl
  have key := hB w G F h
  rw [show (slL y).toArray = #[U y.pc, .int .u32 y.w, U y.f1, U y.f2, U y.f3, .bool y.f4, .bool y.ok, .int .i64 y.i.op, .int .i64 y.i.rd, .int .i64 y.i.rs1, .int .i64 y.i.rs2, .int .i64 y.i.imm, .int .i64 y.i.csr, .bool y.is, .int .i64 y.stage, .int .i64 y.left] from rfl] at key
  have HK := Lib.hid key
  have H := Lib.hid h
  have s1 := hN
  have s2 : Gives Tryz.prog 51 #[.agg #[.int .i64 y.i.op, .int .i64 y.i.rd, .int .i64 y.i.rs1, .int .i64 y.i.rs2, .int .i64 y.i.imm, .int .i64 y.i.csr]] (.bool al) := hA
  have S1 := Lib.hid s1
  have S2 := Lib.hid s2
  clear h hB key hN hA s1 s2
  go_enter Tryz.func32, Tryz.ntmps32
  go_wp2_with fail
  (with_reducible refine HK.out.mono ?_)
  rintro e w1 ⟨rfl, F1, P1, hF1, Fr1⟩
  obtain ⟨k, hk⟩ : ∃ k, k = w1.heap.size := ⟨_, rfl⟩
  have hPk : P < k := by rw [hk]; exact P1.lt P P1.gp
  have z68 : ∀ A : Obj, (w1.alloc A).frozen? ⟨P, 68, none⟩ = false := fun A => (P1.below ((Below.refl _ _).alloc (Nat.le_refl _) A)).free _
  have k68 : ∀ A : Obj, (w1.alloc A).cell? ⟨P, 68, none⟩ = some (.pointer none) := fun A => (P1.below ((Below.refl _ _).alloc (Nat.le_refl _) A)).cell 3 rfl
  have HP1 := Lib.hid P1
  have HF1 := Lib.hid hF1
  have HFr1 := Lib.hid Fr1
  have HKK := Lib.hid hk
  clear P1 hF1 Fr1 c68 c70 HK hk
  go_wp2_with fail
  simp only [← HKK.out]
  obtain ⟨W2, hW2⟩ : ∃ W2, W2 = w1.alloc (.cells #[U y.pc, .int .u32 y.w, U y.f1, U y.f2, U y.f3, .bool y.f4, .bool y.ok, .int .i64 y.i.op, .int .i64 y.i.rd, .int .i64 y.i.rs1, .int .i64 y.i.rs2, .int .i64 y.i.imm, .int .i64 y.i.csr, .bool y.is, .int .i64 y.stage, .int .i64 late] 130) := ⟨_, rfl⟩
  have hE2 : W2.heap[k]? = some (.cells #[U y.pc, .int .u32 y.w, U y.f1, U y.f2, U y.f3, .bool y.f4, .bool y.ok, .int .i64 y.i.op, .int .i64 y.i.rd, .int .i64 y.i.rs1, .int .i64 y.i.rs2, .int .i64 y.i.imm, .int .i64 y.i.csr, .bool y.is, .int .i64 y.stage, .int .i64 late] 130 (0, 0)) := by rw [hW2, HKK.out]; exact (MapKept.heap_alloc w1 _).1
  have B2 : Below w1.heap.size w1 W2 := by rw [hW2]; exact (Below.refl _ _).alloc (Nat.le_refl _) _
  rw [← hW2]
  clear z68 k68 hW2
  have P2 : PW W2 (fun b => (G b ∨ F1 b) ∨ b = k) F1 P s S' a none at_ false cy l none := (HP1.out.below B2).more (fun b hb => .inl hb) (fun b hb => hb.elim (fun hb => Nat.lt_of_lt_of_le (HP1.out.lt b hb) B2.size) (fun e => e ▸ blk_lt hE2))
  have hkF : ¬ F1 k := fun hf => by have := HP1.out.mach.fl k hf; have := HKK.out; omega
  have P3 := P2.setP 3 (.pointer (some ⟨k, 0, none⟩)) (nx' := some ⟨k, 0, none⟩) (a' := a) (at' := at_) (stops' := false) (cy' := cy) (l' := l) (nv' := some { y with left := late }) (by omega) rfl P2.len P2.sl
    (.inr ⟨k, _, rfl, rfl, hE2, .inr rfl, hkF, by omega, fun L off e => by
      rcases P2.sl with ⟨c, _⟩ | ⟨L', off', e1, e2, _⟩
      · rw [c] at e; cases e
      · rw [e] at e1; cases e1
        have hl1 : L < w1.heap.size := by
          rcases HP1.out.sl with ⟨c, _⟩ | ⟨L2, off2, e3, e4, _⟩
          · rw [c] at e; cases e
          · rw [e] at e3; cases e3; exact e4.lt
        have := HKK.out
        omega⟩)
  have hE3 := ((set_upd W2 P 68 (.pointer (some ⟨k, 0, none⟩))).block k (blk_lt hE2) (by omega)).trans hE2
  have U3 := set_upd W2 P 68 (.pointer (some ⟨k, 0, none⟩))
  have P3' : PW (W2.setCell ⟨P, 68, none⟩ (.pointer (some ⟨k, 0, none⟩))) (fun b => (G b ∨ F1 b) ∨ b = k) F1 P s S' a (some ⟨k, 0, none⟩) at_ false cy l (some { y with left := late }) := P3
  clear P3 P2
  generalize W2.setCell ⟨P, 68, none⟩ (.pointer (some ⟨k, 0, none⟩)) = W3 at P3' hE3 U3 ⊢
  have fr3 : Fr (fun b => G b ∨ F1 b) w1 W3 := by
    refine (Fr.of_below B2).then_ (Y := fun b => b = P) (Fr.of_upd U3 rfl) (fun i e => ?_)
    exact .inl (.inl (by rw [e]; exact H.out.gp))
  have HFr3 := Lib.hid fr3
  clear B2 hE2 U3 fr3
  (with_reducible refine (S1.out.on (Below.refl _ _)).mono ?_)
  rintro e w4 ⟨rfl, hb4⟩
  have P4 := P3'.below hb4
  have hk4 := (hb4.block k (blk_lt hE3)).trans hE3
  have hk4l := blk_lt hk4
  have hkP : k ≠ P := by omega
  have f6 : ∀ v : Value, (w4.setCell ⟨P, 69, none⟩ v).cell? ⟨k, 6, none⟩ = some (.bool y.ok) := fun v => by have := (set_upd w4 P 69 v).block k hk4l hkP; simp [World.cell?, this, hk4]
  have f7 : ∀ v : Value, (w4.setCell ⟨P, 69, none⟩ v).cell? ⟨k, 7, none⟩ = some (.int .i64 y.i.op) := fun v => by have := (set_upd w4 P 69 v).block k hk4l hkP; simp [World.cell?, this, hk4]
  have f8 : ∀ v : Value, (w4.setCell ⟨P, 69, none⟩ v).cell? ⟨k, 8, none⟩ = some (.int .i64 y.i.rd) := fun v => by have := (set_upd w4 P 69 v).block k hk4l hkP; simp [World.cell?, this, hk4]
  have f9 : ∀ v : Value, (w4.setCell ⟨P, 69, none⟩ v).cell? ⟨k, 9, none⟩ = some (.int .i64 y.i.rs1) := fun v => by have := (set_upd w4 P 69 v).block k hk4l hkP; simp [World.cell?, this, hk4]
  have f10 : ∀ v : Value, (w4.setCell ⟨P, 69, none⟩ v).cell? ⟨k, 10, none⟩ = some (.int .i64 y.i.rs2) := fun v => by have := (set_upd w4 P 69 v).block k hk4l hkP; simp [World.cell?, this, hk4]
  have f11 : ∀ v : Value, (w4.setCell ⟨P, 69, none⟩ v).cell? ⟨k, 11, none⟩ = some (.int .i64 y.i.imm) := fun v => by have := (set_upd w4 P 69 v).block k hk4l hkP; simp [World.cell?, this, hk4]
  have f12 : ∀ v : Value, (w4.setCell ⟨P, 69, none⟩ v).cell? ⟨k, 12, none⟩ = some (.int .i64 y.i.csr) := fun v => by have := (set_upd w4 P 69 v).block k hk4l hkP; simp [World.cell?, this, hk4]
  have f13 : ∀ v : Value, (w4.setCell ⟨P, 69, none⟩ v).cell? ⟨k, 13, none⟩ = some (.bool y.is) := fun v => by have := (set_upd w4 P 69 v).block k hk4l hkP; simp [World.cell?, this, hk4]
  have z69 : ∀ o, w4.frozen? ⟨P, o, none⟩ = false := P4.free
  have c69 : w4.cell? ⟨P, 69, none⟩ = some (U at_) := P4.cell 4 rfl
  have P5 : PW (w4.setCell ⟨P, 69, none⟩ (U nxt)) (fun b => (G b ∨ F1 b) ∨ b = k) F1 P s S' a (some ⟨k, 0, none⟩) nxt false cy l (some { y with left := late }) := P4.setP 4 (U nxt) (by omega) rfl P4.len P4.sl P4.nxt
  have c70 : (w4.setCell ⟨P, 69, none⟩ (U nxt)).cell? ⟨P, 70, none⟩ = some (.bool false) := P5.cell 5 rfl
  have z70 : ∀ o, (w4.setCell ⟨P, 69, none⟩ (U nxt)).frozen? ⟨P, o, none⟩ = false := P5.free
  have fr5 : Fr (fun b => G b ∨ F1 b) w1 (w4.setCell ⟨P, 69, none⟩ (U nxt)) := (HFr3.out.trans (Fr.of_below hb4)).trans (Fr.of_upd (set_upd _ _ _ _) (.inl H.out.gp))
  have fin : ∀ (w6 : World) (v : Bool), Below (w4.setCell ⟨P, 69, none⟩ (U nxt)).heap.size (w4.setCell ⟨P, 69, none⟩ (U nxt)) w6 → (!y.ok || (!y.is || al)) = v →
      ∃ (G' F' : Nat → Prop) (N : Nat), PW (w6.setCell ⟨P, 70, none⟩ (.bool v)) G' F' P s S' a (some ⟨N, 0, none⟩) nxt (!y.ok || (!y.is || al)) cy l (some { y with left := late }) ∧ (∀ b, G b → G' b) ∧ (∀ b, G' b → G b ∨ w.heap.size ≤ b) ∧ Fr G w (w6.setCell ⟨P, 70, none⟩ (.bool v)) := by
    intro w6 v hb6 hv
    have P6 := P5.below hb6
    have P7 : PW (w6.setCell ⟨P, 70, none⟩ (.bool v)) (fun b => (G b ∨ F1 b) ∨ b = k) F1 P s S' a (some ⟨k, 0, none⟩) nxt v cy l (some { y with left := late }) := P6.setP 5 (.bool v) (by omega) rfl P6.len P6.sl P6.nxt
    have hF : ∀ b, F1 b → G b ∨ w.heap.size ≤ b := fun b hb => (HF1.out b hb).elim (fun h => .inl (H.out.fg b h)) .inr
    have hs := HFr1.out.size
    refine ⟨fun b => (G b ∨ F1 b) ∨ b = k, F1, k, by rw [hv]; exact P7, fun b hb => .inl (.inl hb), fun b hb => ?_, ?_⟩
    · rcases hb with (hb | hb) | hb
      · exact .inl hb
      · exact hF b hb
      · exact .inr (by have := HKK.out; omega)
    · exact HFr1.out.then_ ((fr5.trans (Fr.of_below hb6)).trans (Fr.of_upd (set_upd _ _ _ _) (.inl H.out.gp))) (fun b hb => hb.elim .inl (hF b))
  have FIN := Lib.hid fin
  have HZ := Lib.hid (show ∀ w6, Below (w4.setCell ⟨P, 69, none⟩ (U nxt)).heap.size (w4.setCell ⟨P, 69, none⟩ (U nxt)) w6 → (∀ o, w6.frozen? ⟨P, o, none⟩ = false) ∧ w6.cell? ⟨P, 70, none⟩ = some (.bool false) from fun w6 h6 => ⟨(P5.below h6).free, (P5.below h6).cell 5 rfl⟩)
  clear P3' P4 P5 hb4 hk4 hE3 fin fr5 HP1
  cases hok : y.ok
  · rw [hok] at f6
    go_wp2_with fail
    (first | go_end0 | (simp only [Exit.inBlock, Exit.then]; refine bodyPost_ret (results_none rfl _ _ _) rfl ?_) | refine bodyPost_ret (results_none rfl _ _ _) rfl ?_)
    exact ⟨rfl, FIN.out _ _ (Below.refl _ _) (by rw [hok]; rfl)⟩
  · cases his : y.is
    · rw [hok] at f6
      rw [his] at f13
      go_wp2_with fail
      (first | go_end0 | (simp only [Exit.inBlock, Exit.then]; refine bodyPost_ret (results_none rfl _ _ _) rfl ?_) | refine bodyPost_ret (results_none rfl _ _ _) rfl ?_)
      exact ⟨rfl, FIN.out _ _ (Below.refl _ _) (by rw [hok, his]; rfl)⟩
    · rw [hok] at f6
      rw [his] at f13
      go_wp2_with fail
      (with_reducible refine (S2.out.on (Below.refl _ _)).mono ?_)
      rintro e w6 ⟨rfl, hb6⟩
      obtain ⟨z6, c6⟩ := HZ.out w6 hb6
      have HB6 := Lib.hid hb6
      clear hb6 c70 z70 f6 f7 f8 f9 f10 f11 f12 f13 z69 c69
      go_wp2_with fail
      (first | go_end0 | (simp only [Exit.inBlock, Exit.then]; refine bodyPost_ret (results_none rfl _ _ _) rfl ?_) | refine bodyPost_ret (results_none rfl _ _ _) rfl ?_)
      exact ⟨rfl, FIN.out _ _ HB6.out (by rw [hok, his]; rfl)⟩
theorem next_of {w : World} {G F : Nat → Prop} {P : Nat} {s : St} {S : HS} {a : Option Addr × Nat × Nat} {N : Nat} {at_ : BitVec 64} {stops : Bool} {cy : Int} {l : List SlV} {x : SlV} (h : PW w G F P s S a (some ⟨N, 0, none⟩) at_ stops cy l (some x)) :
    w.heap[N]? = some (.cells (slL x).toArray 130 (0, 0)) ∧ G N ∧ ¬ F N ∧ N ≠ P ∧ ∀ L off, a.1 = some ⟨L, off, none⟩ → N ≠ L := by
  rcases h.nxt with ⟨k, _⟩ | ⟨N', x', e1, e2, h3, h4, h5, h6, h7⟩
  · cases k
  · cases e1; cases e2; exact ⟨h3, h4, h5, h6, h7⟩
theorem push_app {w : World} {G F : Nat → Prop} {P : Nat} {s : St} {S : HS} {a : Option Addr × Nat × Nat} {N : Nat} {at_ : BitVec 64} {stops : Bool} {cy : Int} {l : List SlV} {x : SlV} (h : PW w G F P s S a (some ⟨N, 0, none⟩) at_ stops cy l (some x)) (h4 : l.length < 4) (ty : TypeId) :
    ∃ (a' : Option Addr × Nat × Nat) (w' : World), (Builtin.append_ #[72, 72] ty #[.slice a.1 a.2.1 a.2.2, .slice (some ⟨w.heap.size, 0, none⟩) 1 1]).run Tryz.prog (w.drew.alloc (.cells (slL x).toArray 130)) = .ok (.slice a'.1 a'.2.1 a'.2.2) w' ∧
      w'.cell? ⟨P, 67, none⟩ = some (.slice a.1 a.2.1 a.2.2) ∧ (∀ o, w'.frozen? ⟨P, o, none⟩ = false) ∧ (w'.setCell ⟨P, 67, none⟩ (.slice a'.1 a'.2.1 a'.2.2)).cell? ⟨P, 68, none⟩ = some (.pointer (some ⟨N, 0, none⟩)) ∧ (∀ o, (w'.setCell ⟨P, 67, none⟩ (.slice a'.1 a'.2.1 a'.2.2)).frozen? ⟨P, o, none⟩ = false) ∧
      ∃ G', PW ((w'.setCell ⟨P, 67, none⟩ (.slice a'.1 a'.2.1 a'.2.2)).setCell ⟨P, 68, none⟩ (.pointer none)) G' F P s S a' none at_ stops cy (l ++ [x]) none ∧ (∀ b, G b → G' b) ∧ (∀ b, G' b → G b ∨ w.heap.size ≤ b) ∧ Fr G w ((w'.setCell ⟨P, 67, none⟩ (.slice a'.1 a'.2.1 a'.2.2)).setCell ⟨P, 68, none⟩ (.pointer none)) := by
  obtain ⟨hN, hG, hnF, hNP, hNL⟩ := next_of h
  have B1 : Below w.heap.size w (w.drew.alloc (.cells (slL x).toArray 130)) := (Below.refl _ _).drew.alloc (Nat.le_refl _) _
  have hk : (w.drew.alloc (.cells (slL x).toArray 130)).heap[w.heap.size]? = some (.cells (slL x).toArray 130 (0, 0)) := (MapKept.heap_alloc w.drew _).1
  have P1 := h.below B1
  have hs1 : (w.drew.alloc (.cells (slL x).toArray 130)).heap.size = w.heap.size + 1 := by simp
  generalize w.drew.alloc (.cells (slL x).toArray 130) = W1 at *
  obtain ⟨a', w', hrun, hlen, hsl', hsl, hfr, hsz, hL⟩ := slots_app P1.sl P1.len h4 hk (P1.lt P P1.gp) P1.mach.fl ty
  have u67 : ∀ b, b < W1.heap.size → F b ∨ b = P ∨ b = N → w'.heap[b]? = W1.heap[b]? := fun b hb hc => hfr.block b hb (fun ⟨_, g2, g3, off, g4⟩ => by
    rcases hc with hc | hc | hc
    · exact g2 hc
    · exact g3 hc
    · exact hNL b off g4 hc.symm)
  have P2 : PW w' (fun b => (G b ∨ b = W1.heap.size) ∧ b < w'.heap.size) F P s S a (some ⟨N, 0, none⟩) at_ stops cy l (some x) := by
    refine ⟨P1.mach.keep hfr.size fun b hb => u67 b (P1.mach.fl b hb) (.inl hb), fun b hb => ⟨.inl (P1.fg b hb), Nat.lt_of_lt_of_le (P1.mach.fl b hb) hfr.size⟩, P1.fp, ⟨.inl P1.gp, Nat.lt_of_lt_of_le (P1.lt P P1.gp) hfr.size⟩, (u67 P (P1.lt P P1.gp) (.inr (.inl rfl))).trans P1.blk, P1.len, ?_, ?_, fun b hb => hb.2⟩
    · rcases hsl with k | ⟨L, off, g1, g2, g3, g4, g5⟩
      · exact .inl k
      · exact .inr ⟨L, off, g1, g2, ⟨g3, g2.lt⟩, g4, g5⟩
    · have hN1 : W1.heap[N]? = some (.cells (slL x).toArray 130 (0, 0)) := (next_of P1).1
      have hN2 := (u67 N (blk_lt hN1) (.inr (.inr rfl))).trans hN1
      exact .inr ⟨N, x, rfl, rfl, hN2, ⟨.inl hG, blk_lt hN2⟩, hnF, hNP, hNL⟩
  have hsl2 : SlotsAt w' (fun b => (G b ∨ b = W1.heap.size) ∧ b < w'.heap.size) F P a' (l ++ [x]) := by
    rcases hsl' with k | ⟨L, off, g1, g2, g3, g4, g5⟩
    · exact .inl k
    · exact .inr ⟨L, off, g1, g2, ⟨g3, g2.lt⟩, g4, g5⟩
  have hNlt : N < w.heap.size := blk_lt hN
  have P3 : PW (w'.setCell ⟨P, 67, none⟩ (.slice a'.1 a'.2.1 a'.2.2)) (fun b => (G b ∨ b = W1.heap.size) ∧ b < w'.heap.size) F P s S a' (some ⟨N, 0, none⟩) at_ stops cy (l ++ [x]) (some x) := P2.setP 2 (.slice a'.1 a'.2.1 a'.2.2) (by omega) rfl hlen hsl2 (by
    rcases P2.nxt with ⟨k, _⟩ | ⟨N', x', e1, e2, g3, g4, g5, g6, g7⟩
    · cases k
    · cases e1; cases e2
      refine .inr ⟨N, x, rfl, rfl, g3, g4, g5, g6, fun L off e => ?_⟩
      rcases hL L off e with ⟨off', e2⟩ | e2
      · exact hNL L off' e2
      · omega)
  have P4 : PW ((w'.setCell ⟨P, 67, none⟩ (.slice a'.1 a'.2.1 a'.2.2)).setCell ⟨P, 68, none⟩ (.pointer none)) (fun b => (G b ∨ b = W1.heap.size) ∧ b < w'.heap.size) F P s S a' none at_ stops cy (l ++ [x]) none := P3.setP 3 (.pointer none) (by omega) rfl P3.len P3.sl (.inl ⟨rfl, rfl⟩)
  refine ⟨a', w', hrun, P2.cell 2 rfl, P2.free, P3.cell 3 rfl, P3.free, _, P4, fun b hb => ⟨.inl hb, Nat.lt_of_lt_of_le (P1.lt b hb) hfr.size⟩, fun b hb => hb.1.elim .inl (fun e => .inr (by omega)), ?_⟩
  have f1 : Fr G w w' := (Fr.of_below B1).trans (hfr.mono fun b hb => hb.1)
  exact (f1.trans (Fr.of_upd (set_upd _ _ _ _) h.gp)).trans (Fr.of_upd (set_upd _ _ _ _) h.gp)
set_option maxHeartbeats 2000000 in
theorem fetches_push0 {w : World} {G F : Nat → Prop} {P : Nat} {s : St} {S : HS} {a1 : Option Addr} {c : Nat} {N : Nat} {at_ : BitVec 64} {stops : Bool} {cy : Int} {x : SlV} (h : PW w G F P s S (a1, 0, c) (some ⟨N, 0, none⟩) at_ stops cy [] (some x)) (late pick : Int) (h0 : x.left = 0) :
    Calls Tryz.prog 32 #[.pointer (some ⟨P, 0, none⟩), .int .i64 late, .int .i64 pick] w fun e w' => e = .returned (.tuple #[]) ∧ ∃ (a' : Option Addr × Nat × Nat) (G' : Nat → Prop), PW w' G' F P s S a' none at_ stops cy [x] none ∧ (∀ b, G b → G' b) ∧ (∀ b, G' b → G b ∨ w.heap.size ≤ b) ∧ Fr G w w' := by
  obtain ⟨hN, _⟩ := next_of h
  have c67 : w.cell? ⟨P, 67, none⟩ = some (.slice a1 0 c) := h.cell 2 rfl
  have c68 : w.cell? ⟨P, 68, none⟩ = some (.pointer (some ⟨N, 0, none⟩)) := h.cell 3 rfl
  have n0 : w.cell? ⟨N, 0, none⟩ = some (U x.pc) := by simp [World.cell?, hN, slL]
  have n1 : w.cell? ⟨N, 1, none⟩ = some (.int .u32 x.w) := by simp [World.cell?, hN, slL]
  have n2 : w.cell? ⟨N, 2, none⟩ = some (U x.f1) := by simp [World.cell?, hN, slL]
  have n3 : w.cell? ⟨N, 3, none⟩ = some (U x.f2) := by simp [World.cell?, hN, slL]
  have n4 : w.cell? ⟨N, 4, none⟩ = some (U x.f3) := by simp [World.cell?, hN, slL]
  have n5 : w.cell? ⟨N, 5, none⟩ = some (.bool x.f4) := by simp [World.cell?, hN, slL]
  have n6 : w.cell? ⟨N, 6, none⟩ = some (.bool x.ok) := by simp [World.cell?, hN, slL]
  have n7 : w.cell? ⟨N, 7, none⟩ = some (.int .i64 x.i.op) := by simp [World.cell?, hN, slL]
  have n8 : w.cell? ⟨N, 8, none⟩ = some (.int .i64 x.i.rd) := by simp [World.cell?, hN, slL]
  have n9 : w.cell? ⟨N, 9, none⟩ = some (.int .i64 x.i.rs1) := by simp [World.cell?, hN, slL]
  have n10 : w.cell? ⟨N, 10, none⟩ = some (.int .i64 x.i.rs2) := by simp [World.cell?, hN, slL]
  have n11 : w.cell? ⟨N, 11, none⟩ = some (.int .i64 x.i.imm) := by simp [World.cell?, hN, slL]
  have n12 : w.cell? ⟨N, 12, none⟩ = some (.int .i64 x.i.csr) := by simp [World.cell?, hN, slL]
  have n13 : w.cell? ⟨N, 13, none⟩ = some (.bool x.is) := by simp [World.cell?, hN, slL]
  have n14 : w.cell? ⟨N, 14, none⟩ = some (.int .i64 x.stage) := by simp [World.cell?, hN, slL]
  have n15 : w.cell? ⟨N, 15, none⟩ = some (.int .i64 0) := by simp [World.cell?, hN, slL, h0]
  have cA : ∀ A : Obj, (w.alloc A).cell? ⟨P, 67, none⟩ = some (.slice a1 0 c) := fun A => (h.below ((Below.refl _ _).alloc (Nat.le_refl _) A)).cell 2 rfl
  obtain ⟨a', w', hap, d67, z67, d68, z68, G', FIN⟩ := push_app h (by simp) 72
  rw [show (slL x).toArray = #[U x.pc, .int .u32 x.w, U x.f1, U x.f2, U x.f3, .bool x.f4, .bool x.ok, .int .i64 x.i.op, .int .i64 x.i.rd, .int .i64 x.i.rs1, .int .i64 x.i.rs2, .int .i64 x.i.imm, .int .i64 x.i.csr, .bool x.is, .int .i64 x.stage, .int .i64 x.left] from rfl, h0] at hap
  have FIN := Lib.hid FIN
  clear h hN
  go_enter Tryz.func32, Tryz.ntmps32
  go_wp2_with fail
  go_region_law (refine step_append_run rfl _ _ _ _ rfl _ _ rfl rfl _ _ hap ?_)
  all_goals go_wp2
  all_goals (first | go_end0 | (simp only [Exit.inBlock, Exit.then]; refine bodyPost_ret (results_none rfl _ _ _) rfl ?_) | refine bodyPost_ret (results_none rfl _ _ _) rfl ?_)
  all_goals exact ⟨rfl, a', G', FIN.out⟩
set_option maxHeartbeats 2000000 in
theorem fetches_push {w : World} {G F : Nat → Prop} {P : Nat} {s : St} {S : HS} {L off m c : Nat} {l : List SlV} {z : SlV} {N : Nat} {at_ : BitVec 64} {stops : Bool} {cy : Int} {x : SlV} (h : PW w G F P s S (some ⟨L, off, none⟩, m + 1, c) (some ⟨N, 0, none⟩) at_ stops cy (l ++ [z]) (some x)) (late pick : Int) (h0 : x.left = 0) (hm : m < 3) (hz : 0 < z.stage) :
    Calls Tryz.prog 32 #[.pointer (some ⟨P, 0, none⟩), .int .i64 late, .int .i64 pick] w fun e w' => e = .returned (.tuple #[]) ∧ ∃ (a' : Option Addr × Nat × Nat) (G' : Nat → Prop), PW w' G' F P s S a' none at_ stops cy (l ++ [z] ++ [x]) none ∧ (∀ b, G b → G' b) ∧ (∀ b, G' b → G b ∨ w.heap.size ≤ b) ∧ Fr G w w' := by
  obtain ⟨hN, _⟩ := next_of h
  have hlm : l.length = m := by have : (l ++ [z]).length = m + 1 := h.len; simpa using this
  have hzc : w.cell? ⟨L, off + m * 16 + 14, none⟩ = some (.int .i64 z.stage) := by
    rcases h.sl with ⟨k, _⟩ | ⟨L', off', e1, e2, _⟩
    · cases k
    · cases e1
      exact e2.cell (k := m) (x := z) (by rw [← hlm, List.getElem?_append_right (Nat.le_refl _)]; simp) rfl
  have tz : decide (0 < z.stage) = true := decide_eq_true hz
  have tm : decide (m + 1 < 4) = true := decide_eq_true (by omega)
  have c67 : w.cell? ⟨P, 67, none⟩ = some (.slice (some ⟨L, off, none⟩) (m + 1) c) := h.cell 2 rfl
  have c68 : w.cell? ⟨P, 68, none⟩ = some (.pointer (some ⟨N, 0, none⟩)) := h.cell 3 rfl
  have n0 : w.cell? ⟨N, 0, none⟩ = some (U x.pc) := by simp [World.cell?, hN, slL]
  have n1 : w.cell? ⟨N, 1, none⟩ = some (.int .u32 x.w) := by simp [World.cell?, hN, slL]
  have n2 : w.cell? ⟨N, 2, none⟩ = some (U x.f1) := by simp [World.cell?, hN, slL]
  have n3 : w.cell? ⟨N, 3, none⟩ = some (U x.f2) := by simp [World.cell?, hN, slL]
  have n4 : w.cell? ⟨N, 4, none⟩ = some (U x.f3) := by simp [World.cell?, hN, slL]
  have n5 : w.cell? ⟨N, 5, none⟩ = some (.bool x.f4) := by simp [World.cell?, hN, slL]
  have n6 : w.cell? ⟨N, 6, none⟩ = some (.bool x.ok) := by simp [World.cell?, hN, slL]
  have n7 : w.cell? ⟨N, 7, none⟩ = some (.int .i64 x.i.op) := by simp [World.cell?, hN, slL]
  have n8 : w.cell? ⟨N, 8, none⟩ = some (.int .i64 x.i.rd) := by simp [World.cell?, hN, slL]
  have n9 : w.cell? ⟨N, 9, none⟩ = some (.int .i64 x.i.rs1) := by simp [World.cell?, hN, slL]
  have n10 : w.cell? ⟨N, 10, none⟩ = some (.int .i64 x.i.rs2) := by simp [World.cell?, hN, slL]
  have n11 : w.cell? ⟨N, 11, none⟩ = some (.int .i64 x.i.imm) := by simp [World.cell?, hN, slL]
  have n12 : w.cell? ⟨N, 12, none⟩ = some (.int .i64 x.i.csr) := by simp [World.cell?, hN, slL]
  have n13 : w.cell? ⟨N, 13, none⟩ = some (.bool x.is) := by simp [World.cell?, hN, slL]
  have n14 : w.cell? ⟨N, 14, none⟩ = some (.int .i64 x.stage) := by simp [World.cell?, hN, slL]
  have n15 : w.cell? ⟨N, 15, none⟩ = some (.int .i64 0) := by simp [World.cell?, hN, slL, h0]
  have cA : ∀ A : Obj, (w.alloc A).cell? ⟨P, 67, none⟩ = some (.slice (some ⟨L, off, none⟩) (m + 1) c) := fun A => (h.below ((Below.refl _ _).alloc (Nat.le_refl _) A)).cell 2 rfl
  obtain ⟨a', w', hap, d67, z67, d68, z68, G', FIN⟩ := push_app h (by simp; omega) 72
  rw [show (slL x).toArray = #[U x.pc, .int .u32 x.w, U x.f1, U x.f2, U x.f3, .bool x.f4, .bool x.ok, .int .i64 x.i.op, .int .i64 x.i.rd, .int .i64 x.i.rs1, .int .i64 x.i.rs2, .int .i64 x.i.imm, .int .i64 x.i.csr, .bool x.is, .int .i64 x.stage, .int .i64 x.left] from rfl, h0] at hap
  have FIN := Lib.hid FIN
  clear h hN hz hlm
  go_enter Tryz.func32, Tryz.ntmps32
  go_wp2_with fail
  go_region_law (refine step_append_run rfl _ _ _ _ rfl _ _ rfl rfl _ _ hap ?_)
  all_goals go_wp2
  all_goals (first | go_end0 | (simp only [Exit.inBlock, Exit.then]; refine bodyPost_ret (results_none rfl _ _ _) rfl ?_) | refine bodyPost_ret (results_none rfl _ _ _) rfl ?_)
  all_goals exact ⟨rfl, a', G', FIN.out⟩
set_option maxHeartbeats 2000000 in
theorem fetches_full {w : World} {G F : Nat → Prop} {P : Nat} {s : St} {S : HS} {L off m c : Nat} {l : List SlV} {z : SlV} {N : Nat} {at_ : BitVec 64} {stops : Bool} {cy : Int} {x : SlV} (h : PW w G F P s S (some ⟨L, off, none⟩, m + 1, c) (some ⟨N, 0, none⟩) at_ stops cy (l ++ [z]) (some x)) (late pick : Int) (h0 : x.left = 0) (hz : 3 ≤ m ∨ z.stage ≤ 0) :
    Calls Tryz.prog 32 #[.pointer (some ⟨P, 0, none⟩), .int .i64 late, .int .i64 pick] w fun e w' => e = .returned (.tuple #[]) ∧ w = w' := by
  obtain ⟨hN, _⟩ := next_of h
  have hlm : l.length = m := by have : (l ++ [z]).length = m + 1 := h.len; simpa using this
  have hzc : w.cell? ⟨L, off + m * 16 + 14, none⟩ = some (.int .i64 z.stage) := by
    rcases h.sl with ⟨k, _⟩ | ⟨L', off', e1, e2, _⟩
    · cases k
    · cases e1
      exact e2.cell (k := m) (x := z) (by rw [← hlm, List.getElem?_append_right (Nat.le_refl _)]; simp) rfl
  have c67 : w.cell? ⟨P, 67, none⟩ = some (.slice (some ⟨L, off, none⟩) (m + 1) c) := h.cell 2 rfl
  have c68 : w.cell? ⟨P, 68, none⟩ = some (.pointer (some ⟨N, 0, none⟩)) := h.cell 3 rfl
  have n15 : w.cell? ⟨N, 15, none⟩ = some (.int .i64 0) := by simp [World.cell?, hN, slL, h0]
  clear h hN hlm
  by_cases hm : 3 ≤ m
  · have tm : decide (m + 1 < 4) = false := decide_eq_false (by omega)
    have HM := Lib.hid hm
    have HZ := Lib.hid hz
    clear hz hm
    go_enter Tryz.func32, Tryz.ntmps32
    go_wp2_with fail
    all_goals first | (exfalso; have := HM.out; have := HZ.out; omega) | ((first | go_end0 | (simp only [Exit.inBlock, Exit.then]; refine bodyPost_ret (results_none rfl _ _ _) rfl ?_) | refine bodyPost_ret (results_none rfl _ _ _) rfl ?_); exact ⟨rfl, rfl⟩)
  · have tm : decide (m + 1 < 4) = true := decide_eq_true (by omega)
    have tz : decide (0 < z.stage) = false := decide_eq_false (by omega)
    have HM := Lib.hid hm
    have HZ := Lib.hid hz
    clear hz hm
    go_enter Tryz.func32, Tryz.ntmps32
    go_wp2_with fail
    all_goals first | (exfalso; have := HM.out; have := HZ.out; omega) | ((first | go_end0 | (simp only [Exit.inBlock, Exit.then]; refine bodyPost_ret (results_none rfl _ _ _) rfl ?_) | refine bodyPost_ret (results_none rfl _ _ _) rfl ?_); exact ⟨rfl, rfl⟩)
end Go.Proofs.YtfehilinnalflaaGreat
namespace Go.Proofs.YtfehilinnalflaaGreat
open Go.RowKit Go.BigFrame
set_option linter.unusedSimpArgs false
set_option linter.unusedVariables false
set_option maxRecDepth 100000
structure PipV where
  s : St
  l : List SlV
  nv : Option SlV
  at_ : BitVec 64
  stops : Bool
def Pip (w : World) (G : Nat → Prop) (P : Nat) (V : PipV) (S : HS) : Prop := ∃ (F : Nat → Prop) (a : Option Addr × Nat × Nat) (nx : Option Addr) (cy : Int), PW w G F P V.s S a nx V.at_ V.stops cy V.l V.nv
structure Went (w : World) (G : Nat → Prop) (w' : World) (G' : Nat → Prop) : Prop where
  up : ∀ b, G b → G' b
  new : ∀ b, G' b → G b ∨ w.heap.size ≤ b
  fr : Fr G w w'
theorem Went.refl (w : World) (G : Nat → Prop) : Went w G w G := ⟨fun _ h => h, fun _ h => .inl h, Fr.refl _ _⟩
theorem Went.trans {w w1 w2 : World} {G G1 G2 : Nat → Prop} (h : Went w G w1 G1) (k : Went w1 G1 w2 G2) : Went w G w2 G2 :=
  ⟨fun b hb => k.up b (h.up b hb), fun b hb => by
    rcases k.new b hb with hb | hb
    · exact h.new b hb
    · exact .inr (Nat.le_trans h.fr.size hb), h.fr.then_ k.fr h.new⟩
theorem Went.below {w w' : World} {G : Nat → Prop} (u : Below w.heap.size w w') : Went w G w' G := ⟨fun _ h => h, fun _ h => .inl h, Fr.of_below u⟩
theorem Pip.below {w w' : World} {G : Nat → Prop} {P : Nat} {V : PipV} {S : HS} (h : Pip w G P V S) (u : Below w.heap.size w w') : Pip w' G P V S := by
  obtain ⟨F, a, nx, cy, h⟩ := h
  exact ⟨F, a, nx, cy, h.below u⟩
def Step (f : FuncId) (args : List Value) (V : PipV) (S : HS) (V' : PipV) (S' : HS) : Prop :=
  ∀ (w : World) (G : Nat → Prop) (P : Nat), Pip w G P V S → Calls Tryz.prog f (.pointer (some ⟨P, 0, none⟩) :: args).toArray w fun e w' => e = .returned (.tuple #[]) ∧ ∃ G', Pip w' G' P V' S' ∧ Went w G w' G'
def SlOk (l : List SlV) : Prop := l.length ≤ 4 ∧ ∀ x ∈ l, 0 ≤ x.stage ∧ x.stage ≤ 3 ∧ 0 ≤ x.left ∧ x.left ≤ 7
theorem moves_step {Q : InV → Prop} {wt : InV → InV → Bool} {sz : Int → Int} (hW : Waits Q wt) (hZ : Sizes Q sz) (V : PipV) (S : HS) (late : Int) (hl : SlOk V.l) (hQ : ∀ x ∈ V.l, Q x.i) : Step 31 [.int .i64 late] V S { V with l := movesV wt (fun i => decide (0 < sz i.op)) late none V.l } S := by
  rintro w G P ⟨F, a, nx, cy, h⟩
  rcases h.sl with ⟨h1, h2, h3⟩ | ⟨L, off, h1, h2, h3, h4, h5⟩
  · refine (moves_nil w P V.s S.b S.t a.1 a.2.1 a.2.2 nx V.at_ V.stops cy late (by rw [← h.len, h2]; rfl) h.blk).mono ?_
    rintro e w' ⟨rfl, rfl⟩
    refine ⟨rfl, G, ⟨F, a, nx, cy, ?_⟩, Went.refl _ _⟩
    have e : movesV wt (fun i => decide (0 < sz i.op)) late none V.l = V.l := by rw [h2]; rfl
    show PW w G F P V.s S a nx V.at_ V.stops cy (movesV wt (fun i => decide (0 < sz i.op)) late none V.l) V.nv
    rw [e]; exact h
  · obtain ⟨a1, n, c⟩ := a
    cases h1
    refine (moves_b hW hZ w P L V.s S.b S.t off n c nx V.at_ V.stops cy late V.l h.len (by have h6 : V.l.length = n := h.len; rw [← h6]; exact hl.1) h.blk h2 (Ne.symm h5) hQ hl.2).mono ?_
    rintro e w' ⟨rfl, hS, hU⟩
    refine ⟨rfl, G, ⟨F, (some ⟨L, off, none⟩, n, c), nx, cy, ?_⟩, ⟨fun _ h => h, fun _ h => .inl h, Fr.of_upd hU h3⟩⟩
    refine ⟨h.mach.keep hU.size fun b hb => hU.block b (h.mach.fl b hb) (fun e => h4 (e ▸ hb)), h.fg, h.fp, h.gp, (hU.block P (blk_lt h.blk) (Ne.symm h5)).trans h.blk, by rw [movesV_len]; exact h.len, .inr ⟨L, off, rfl, hS, h3, h4, h5⟩, ?_, fun b hb => Nat.lt_of_lt_of_le (h.lt b hb) hU.size⟩
    rcases h.nxt with k | ⟨N, x, g1, g2, g3, g4, g5, g6, g7⟩
    · exact .inl k
    · exact .inr ⟨N, x, g1, g2, (hU.block N (blk_lt g3) (g7 L off rfl)).trans g3, g4, g5, g6, g7⟩
theorem fetch_stop (s : St) (S : HS) (l : List SlV) (at_ : BitVec 64) (late pick : Int) : Step 32 [.int .i64 late, .int .i64 pick] ⟨s, l, none, at_, true⟩ S ⟨s, l, none, at_, true⟩ S := by
  rintro w G P ⟨F, a, nx, cy, h⟩
  obtain rfl : nx = none := by
    rcases h.nxt with ⟨k, _⟩ | ⟨N, x, _, g2, _⟩
    · exact k
    · cases g2
  refine (fetches_stop h late pick).mono ?_
  rintro e w' ⟨rfl, rfl⟩
  exact ⟨rfl, G, ⟨F, a, _, cy, h⟩, Went.refl _ _⟩
theorem nx_some {w : World} {G F : Nat → Prop} {P : Nat} {s : St} {S : HS} {a : Option Addr × Nat × Nat} {nx : Option Addr} {at_ : BitVec 64} {stops : Bool} {cy : Int} {l : List SlV} {x : SlV} (h : PW w G F P s S a nx at_ stops cy l (some x)) : ∃ N, nx = some ⟨N, 0, none⟩ := by
  rcases h.nxt with ⟨_, k⟩ | ⟨N, x, g1, _⟩
  · cases k
  · exact ⟨N, g1⟩
theorem fetch_wait (s : St) (S : HS) (l : List SlV) (x : SlV) (at_ : BitVec 64) (stops : Bool) (late pick : Int) (h0 : 0 < x.left) (h7 : x.left ≤ 7) : Step 32 [.int .i64 late, .int .i64 pick] ⟨s, l, some x, at_, stops⟩ S ⟨s, l, some { x with left := x.left - 1 }, at_, stops⟩ S := by
  rintro w G P ⟨F, a, nx, cy, h⟩
  obtain ⟨N, rfl⟩ := nx_some h
  refine (fetches_wait h late pick h0 h7).mono ?_
  rintro e w' ⟨rfl, h2, h3⟩
  exact ⟨rfl, G, ⟨F, a, _, cy, h2⟩, ⟨fun _ h => h, fun _ h => .inl h, h3⟩⟩
theorem fetch_push (s : St) (S : HS) (l : List SlV) (x : SlV) (at_ : BitVec 64) (stops : Bool) (late pick : Int) (h0 : x.left = 0) (h4 : l.length < 4) (hz : ∀ z, l.getLast? = some z → 0 < z.stage) : Step 32 [.int .i64 late, .int .i64 pick] ⟨s, l, some x, at_, stops⟩ S ⟨s, l ++ [x], none, at_, stops⟩ S := by
  rintro w G P ⟨F, a, nx, cy, h⟩
  obtain ⟨N, rfl⟩ := nx_some h
  obtain ⟨a1, n, c⟩ := a
  rcases List.eq_nil_or_concat l with rfl | ⟨l0, z, rfl⟩
  · have hn : n = 0 := h.len.symm
    subst hn
    refine (fetches_push0 h late pick h0).mono ?_
    rintro e w' ⟨rfl, a', G', h2, h3, h4, h5⟩
    exact ⟨rfl, G', ⟨F, a', _, cy, h2⟩, ⟨h3, h4, h5⟩⟩
  · rw [List.concat_eq_append] at *
    have hn : n = l0.length + 1 := by have : (l0 ++ [z]).length = n := h.len; simp at this; omega
    subst hn
    obtain ⟨L, off, rfl⟩ : ∃ L off, a1 = some ⟨L, off, none⟩ := by
      rcases h.sl with ⟨_, k, _⟩ | ⟨L, off, h1, _⟩
      · simp at k
      · exact ⟨L, off, h1⟩
    refine (fetches_push h late pick h0 (by simp at h4; omega) (hz z (by simp))).mono ?_
    rintro e w' ⟨rfl, a', G', h2, h3, h4, h5⟩
    exact ⟨rfl, G', ⟨F, a', _, cy, h2⟩, ⟨h3, h4, h5⟩⟩
theorem fetch_full (s : St) (S : HS) (l : List SlV) (z x : SlV) (at_ : BitVec 64) (stops : Bool) (late pick : Int) (h0 : x.left = 0) (hz : 3 ≤ l.length ∨ z.stage ≤ 0) : Step 32 [.int .i64 late, .int .i64 pick] ⟨s, l ++ [z], some x, at_, stops⟩ S ⟨s, l ++ [z], some x, at_, stops⟩ S := by
  rintro w G P ⟨F, a, nx, cy, h⟩
  obtain ⟨N, rfl⟩ := nx_some h
  obtain ⟨a1, n, c⟩ := a
  have hn : n = l.length + 1 := by have : (l ++ [z]).length = n := h.len; simp at this; omega
  subst hn
  obtain ⟨L, off, rfl⟩ : ∃ L off, a1 = some ⟨L, off, none⟩ := by
    rcases h.sl with ⟨_, k, _⟩ | ⟨L, off, h1, _⟩
    · simp at k
    · exact ⟨L, off, h1⟩
  refine (fetches_full h late pick h0 hz).mono ?_
  rintro e w' ⟨rfl, rfl⟩
  exact ⟨rfl, G, ⟨F, _, _, cy, h⟩, Went.refl _ _⟩
theorem fetch_begin (s : St) (S : HS) (l : List SlV) (at_ : BitVec 64) (late pick : Int) (y : SlV) (S' : HS) {nxt : BitVec 64} (hN : Gives Tryz.prog 50 #[U y.pc, .int .u32 y.w] (U nxt)) {al : Bool} (hA : Gives Tryz.prog 51 #[.agg (inL y.i).toArray] (.bool al)) (hB : ∀ P a cy, BeginsOk P s S a at_ cy l pick y S') : Step 32 [.int .i64 late, .int .i64 pick] ⟨s, l, none, at_, false⟩ S ⟨s, l, some { y with left := late }, nxt, !y.ok || (!y.is || al)⟩ S' := by
  rintro w G P ⟨F, a, nxp, cy, h⟩
  obtain rfl : nxp = none := by
    rcases h.nxt with ⟨k, _⟩ | ⟨N, x, _, g2, _⟩
    · exact k
    · cases g2
  refine (fetches_begin h late pick (hB P a cy) hN hA).mono ?_
  rintro e w' ⟨rfl, G', F', N, h2, h3, h4, h5⟩
  exact ⟨rfl, G', ⟨F', a, _, cy, h2⟩, ⟨h3, h4, h5⟩⟩
end Go.Proofs.YtfehilinnalflaaGreat
namespace Go.Proofs.YtfehilinnalflaaGreat
open Go.RowKit Go.BigFrame
set_option linter.unusedSimpArgs false
set_option linter.unusedVariables false
set_option maxRecDepth 100000
theorem aadd_b (b off : Nat) (n d : Int) (w : World) (hc : w.cell? ⟨b, off, none⟩ = some (.int .i64 n)) (hz : w.frozen? ⟨b, off, none⟩ = false) :
    Calls Tryz.prog 27 #[.pointer (some ⟨b, off, none⟩), .int .i64 d] w fun e w' => ∃ n' : Int, e = .returned (.int .i64 n') ∧ w' = w.setCell ⟨b, off, none⟩ (.int .i64 n') := by
  obtain ⟨s, hs⟩ : ∃ s : Int, ∀ w, (Op.intArith .add .i64 n d).run Tryz.prog w = .ok (.int .i64 s) w := ⟨IntKind.i64.wrap (n + d), fun w => by simp [go_sem]⟩
  have hadd := run_call_add (P := Tryz.prog) Tryz.func42 (by kernel_rfl) (by kernel_rfl) (by kernel_rfl) .i64 (by kernel_rfl) (y := d) (s := s) hc hz (hs w)
  go_enter Tryz.func27, Tryz.ntmps27
  go_wp2_with fail
  go_ret
  exact ⟨s, rfl, rfl⟩
theorem Went.keep {w w' : World} {G G' : Nat → Prop} (h : Went w G w' G') {k : Nat} {o : Obj} (hk : w.heap[k]? = some o) (hn : ¬ G k) : w'.heap[k]? = some o ∧ ¬ G' k :=
  ⟨(h.fr.block k (blk_lt hk) hn).trans hk, fun hg => (h.new k hg).elim hn (fun h => by have := blk_lt hk; omega)⟩
def OutV (o : Option RetV) (n : Nat) (v : Value) (w' : World) (G' : Nat → Prop) : Prop :=
  match o with
  | none => v = .slice none 0 0
  | some r => ∃ k, v = .slice (some ⟨k, 0, none⟩) 1 1 ∧ w'.heap[k]? = some (.cells (retL r).toArray 47 (0, 0)) ∧ n ≤ k ∧ ¬ G' k
def OutRel (o : Option RetV) (n : Nat) (e : Ending) (w' : World) (G' : Nat → Prop) : Prop := ∃ v, e = .returned v ∧ OutV o n v w' G'
theorem OutV.keep {o : Option RetV} {n : Nat} {v : Value} {w w' : World} {G G' : Nat → Prop} (h : OutV o n v w G) (k : Went w G w' G') : OutV o n v w' G' := by
  cases o with
  | none => exact h
  | some r =>
    obtain ⟨b, h1, h2, h3, h4⟩ := h
    obtain ⟨h5, h6⟩ := k.keep h2 h4
    exact ⟨b, h1, h5, h3, h6⟩
theorem OutV.below {o : Option RetV} {n m : Nat} {v : Value} {w : World} {G : Nat → Prop} (h : OutV o n v w G) (hm : m ≤ n) : OutV o m v w G := by
  cases o with
  | none => exact h
  | some r =>
    obtain ⟨b, h1, h2, h3, h4⟩ := h
    exact ⟨b, h1, h2, by omega, h4⟩
def Retires (line : Bool) (V : PipV) (S : HS) (o : Option RetV) (V' : PipV) (S' : HS) : Prop :=
  ∀ (w : World) (G : Nat → Prop) (P : Nat), Pip w G P V S → Calls Tryz.prog 30 #[.pointer (some ⟨P, 0, none⟩), .bool line] w fun e w' => ∃ G', OutRel o w.heap.size e w' G' ∧ Pip w' G' P V' S' ∧ Went w G w' G'
theorem cycle0 {V V2 V3 : PipV} {S S2 S3 : HS} (hl : V.l = []) (late pick : Int) (h0 : 0 ≤ late) (h7 : late ≤ 7) (line : Bool) (hM : Step 31 [.int .i64 late] V S V2 S2) (hF : Step 32 [.int .i64 late, .int .i64 pick] V2 S2 V3 S3) (w : World) (G : Nat → Prop) (P : Nat) (h : Pip w G P V S) :
    Calls Tryz.prog 14 #[.pointer (some ⟨P, 0, none⟩), .agg #[.int .i64 late, .int .i64 pick, .bool line]] w fun e w' => ∃ G', OutRel none w.heap.size e w' G' ∧ Pip w' G' P V3 S3 ∧ Went w G w' G' := by
  obtain ⟨F, a, nx, cy, h⟩ := h
  have t0 : ¬ late < 0 := by omega
  have t7 : ¬ 7 < late := by omega
  have HM := Lib.hid hM
  have HF := Lib.hid hF
  clear hM hF h0 h7
  have hPl : P < w.heap.size := h.lt P h.gp
  have HP := Lib.hid h
  clear h
  go_enter Tryz.func14, Tryz.ntmps14
  go_wp2_with fail
  obtain ⟨k0, hk0⟩ : ∃ k0, k0 = w.heap.size := ⟨_, rfl⟩
  rw [← hk0]
  obtain ⟨W1, hW1⟩ : ∃ W1, W1 = (w.alloc (.cells #[.pointer (some ⟨P, 0, none⟩)] 38)).alloc (.cells #[.int .i64 late, .int .i64 pick, .bool line] 54) := ⟨_, rfl⟩
  have hsz : (w.alloc (.cells #[.pointer (some ⟨P, 0, none⟩)] 38)).heap.size = k0 + 1 := by rw [hk0]; simp
  have e1 : W1.heap[k0 + 1]? = some (.cells #[.int .i64 late, .int .i64 pick, .bool line] 54 (0, 0)) := by rw [hW1, ← hsz]; exact (MapKept.heap_alloc _ _).1
  have e0 : W1.heap[k0]? = some (.cells #[.pointer (some ⟨P, 0, none⟩)] 38 (0, 0)) := by rw [hW1, (MapKept.heap_alloc _ _).2 k0 (by omega), hk0]; exact (MapKept.heap_alloc _ _).1
  have b1 : Below w.heap.size w W1 := by rw [hW1]; exact ((Below.refl _ _).alloc (Nat.le_refl _) _).alloc (by simp) _
  have s1 : W1.heap.size = k0 + 2 := by rw [hW1]; simp [hk0]
  rw [← hW1]
  have P1 := HP.out.below b1
  have n0 : ¬ G k0 := fun hg => by have := HP.out.lt _ hg; omega
  have n1 : ¬ G (k0 + 1) := fun hg => by have := HP.out.lt _ hg; omega
  clear hW1 hsz
  refine (aadd_b P 71 cy 1 W1 (P1.cell 6 rfl) (P1.free 71)).mono ?_
  rintro e W2 ⟨cy', rfl, hW2⟩
  have P2 : PW W2 G F P V.s S a nx V.at_ V.stops cy' V.l V.nv := by rw [hW2]; exact P1.setP 6 (.int .i64 cy') (by omega) rfl P1.len P1.sl P1.nxt
  have u2 : Upd W1 W2 P := by rw [hW2]; exact set_upd _ _ _ _
  have w2 : Went w G W2 G := (Went.below b1).trans ⟨fun _ h => h, fun _ h => .inl h, Fr.of_upd u2 HP.out.gp⟩
  have e0 := (u2.block k0 (by omega) (by omega)).trans e0
  have e1 := (u2.block (k0 + 1) (by omega) (by omega)).trans e1
  have s2 : W2.heap.size = k0 + 2 := by rw [hW2]; show (W1.heap.modify P _).size = _; simp [s1]
  clear hW2 u2 P1 b1 s1
  have HP2 := Lib.hid P2
  have HW2 := Lib.hid w2
  have HE0 := Lib.hid e0
  have HE1 := Lib.hid e1
  have HN0 := Lib.hid n0
  have HN1 := Lib.hid n1
  have HK := Lib.hid hk0
  clear P2 w2 e0 e1 n0 n1 hk0
  go_wp2_with fail
  have e23 : k0 + 2 + 1 = k0 + 3 := by omega
  rw [e23]
  obtain ⟨W3, hW3⟩ : ∃ W3, W3 = (W2.alloc (.cells #[.int .u32 0, .int .i32 0, .int .u32 0] 103)).alloc (.cells #[.slice none 0 0] 42) := ⟨_, rfl⟩
  have hsz : (W2.alloc (.cells #[.int .u32 0, .int .i32 0, .int .u32 0] 103)).heap.size = k0 + 3 := by simp [s2]
  have b3 : Below W2.heap.size W2 W3 := by rw [hW3]; exact ((Below.refl _ _).alloc (Nat.le_refl _) _).alloc (by simp) _
  have e3 : W3.heap[k0 + 3]? = some (.cells #[.slice none 0 0] 42 (0, 0)) := by rw [hW3, ← hsz]; exact (MapKept.heap_alloc _ _).1
  have e2 : W3.heap[k0 + 2]? = some (.cells #[.int .u32 0, .int .i32 0, .int .u32 0] 103 (0, 0)) := by
    have := (MapKept.heap_alloc W2 (.cells #[.int .u32 0, .int .i32 0, .int .u32 0] 103)).1
    rw [s2] at this
    rw [hW3, (MapKept.heap_alloc _ _).2 (k0 + 2) (by rw [hsz]; omega)]; exact this
  have e0 := (b3.block k0 (by omega)).trans HE0.out
  have e1 := (b3.block (k0 + 1) (by omega)).trans HE1.out
  have P3 := HP2.out.below b3
  have n2 : ¬ G (k0 + 2) := fun hg => by have := HP.out.lt _ hg; have := HK.out; omega
  have n3 : ¬ G (k0 + 3) := fun hg => by have := HP.out.lt _ hg; have := HK.out; omega
  have w3 := HW2.out.trans (Went.below (G := G) b3)
  rw [← hW3]
  clear hW3 hsz b3 HP2 HW2 HE0 HE1 e23
  have g0 : ∀ q : Beyond W3, q.to.cell? ⟨k0, 0, none⟩ = some (.pointer (some ⟨P, 0, none⟩)) := fun q => by have := (q.ok.block k0 (blk_lt e0)).trans e0; simp [World.cell?, this]
  have g1 : ∀ q : Beyond W3, q.to.cell? ⟨P, 67, none⟩ = some (.slice a.1 0 a.2.2) := fun q => by
    have := (P3.below q.ok).cell 2 (v := .slice a.1 a.2.1 a.2.2) rfl
    rw [← P3.len, hl] at this
    exact this
  have HE0 := Lib.hid e0
  have HE1 := Lib.hid e1
  have HE3 := Lib.hid e3
  have HP3 := Lib.hid P3
  have HN3 := Lib.hid n3
  have HW3 := Lib.hid w3
  clear e0 e1 e2 e3 P3 n2 n3 w3 s2
  refine wp_region_below (W := W3) (by kernel_rfl) (by kernel_rfl) (Below.refl _ _) ?_
  repeat (go_big_quiet_step (fail))
  refine wpQuiet_nil ?_
  intro w4 hb4
  have P4 := HP3.out.below hb4
  have e0 := (hb4.block k0 (blk_lt HE0.out)).trans HE0.out
  have e1 := (hb4.block (k0 + 1) (blk_lt HE1.out)).trans HE1.out
  have e3 := (hb4.block (k0 + 3) (blk_lt HE3.out)).trans HE3.out
  have w4' := HW3.out.trans (Went.below (G := G) hb4)
  have c10 : w4.cell? ⟨k0 + 1, 0, none⟩ = some (.int .i64 late) := by simp [World.cell?, e1]
  have c00 : w4.cell? ⟨k0, 0, none⟩ = some (.pointer (some ⟨P, 0, none⟩)) := by simp [World.cell?, e0]
  have HE0 := Lib.hid e0
  have HE1 := Lib.hid e1
  have HE3 := Lib.hid e3
  have HP4 := Lib.hid P4
  have HW4 := Lib.hid w4'
  clear P4 e0 e1 e3 w4' hb4 g0 g1 HP3 HW3
  go_wp2_with fail
  go_loopw [24] (fun i wr => i = .int .i64 0 ∧ wr = w4) (fun i _ => 0)
  case atStart => exact ⟨rfl, rfl⟩
  case round =>
    obtain ⟨rfl, rfl⟩ := hrel
    go_wp2_with fail
    have hpip : Pip wr G P V S := ⟨F, a, nx, cy', HP4.out⟩
    have key := HM.out wr G P hpip
    (with_reducible refine key.mono ?_)
    rintro e w5 ⟨rfl, G5, P5, W5⟩
    have W5' := HW4.out.trans W5
    obtain ⟨e05, n05⟩ := W5.keep HE0.out HN0.out
    obtain ⟨e15, n15⟩ := W5.keep HE1.out HN1.out
    obtain ⟨e35, n35⟩ := W5.keep HE3.out HN3.out
    have c00 : w5.cell? ⟨k0, 0, none⟩ = some (.pointer (some ⟨P, 0, none⟩)) := by simp [World.cell?, e05]
    have c11 : w5.cell? ⟨k0 + 1, 1, none⟩ = some (.int .i64 pick) := by simp [World.cell?, e15]
    have HE35 := Lib.hid e35
    have HN35 := Lib.hid n35
    have HP5 := Lib.hid P5
    have HW5 := Lib.hid W5'
    clear key hpip P5 W5 W5' e05 n05 e15 n15 e35 n35
    go_wp2_with fail
    have key := HF.out w5 G5 P HP5.out
    (with_reducible refine key.mono ?_)
    rintro e w6 ⟨rfl, G6, P6, W6⟩
    have W6' := HW5.out.trans W6
    obtain ⟨e36, n36⟩ := W6.keep HE35.out HN35.out
    have c30 : w6.cell? ⟨k0 + 3, 0, none⟩ = some (.slice none 0 0) := by simp [World.cell?, e36]
    have HP6 := Lib.hid P6
    have HW6 := Lib.hid W6'
    clear key P6 W6 W6' e36 n36
    go_wp2_with fail
    go_ret
    exact ⟨G6, ⟨_, rfl, rfl⟩, HP6.out, HW6.out⟩
theorem PW.alike {w w' : World} {G F : Nat → Prop} {P : Nat} {s : St} {S : HS} {a : Option Addr × Nat × Nat} {nx : Option Addr} {at_ : BitVec 64} {stops : Bool} {cy : Int} {l : List SlV} {nv : Option SlV} (h : PW w G F P s S a nx at_ stops cy l nv) (hs : w.heap.size ≤ w'.heap.size) (hk : ∀ b, G b → w'.heap[b]? = w.heap[b]?) : PW w' G F P s S a nx at_ stops cy l nv := by
  refine ⟨h.mach.keep hs fun b hb => hk b (h.fg b hb), h.fg, h.fp, h.gp, (hk P h.gp).trans h.blk, h.len, ?_, ?_, fun b hb => Nat.lt_of_lt_of_le (h.lt b hb) hs⟩
  · rcases h.sl with k | ⟨L, off, h1, h2, h3, h4, h5⟩
    · exact .inl k
    · exact .inr ⟨L, off, h1, h2.keep (hk L h3), h3, h4, h5⟩
  · rcases h.nxt with k | ⟨N, x, h1, h2, h3, h4, h5, h6, h7⟩
    · exact .inl k
    · exact .inr ⟨N, x, h1, h2, (hk N h4).trans h3, h4, h5, h6, h7⟩
theorem Pip.alike {w w' : World} {G : Nat → Prop} {P : Nat} {V : PipV} {S : HS} (h : Pip w G P V S) (hs : w.heap.size ≤ w'.heap.size) (hk : ∀ b, G b → w'.heap[b]? = w.heap[b]?) : Pip w' G P V S := by
  obtain ⟨F, a, nx, cy, h⟩ := h
  exact ⟨F, a, nx, cy, h.alike hs hk⟩
theorem Pip.lt {w : World} {G : Nat → Prop} {P : Nat} {V : PipV} {S : HS} (h : Pip w G P V S) : ∀ b, G b → b < w.heap.size := by
  obtain ⟨F, a, nx, cy, h⟩ := h
  exact h.lt
theorem c29_b {line : Bool} {V V1 : PipV} {S S1 : HS} {o : Option RetV} (hR : Retires line V S o V1 S1) (late pick : Int) (w : World) (G : Nat → Prop) (P k0 k1 k3 : Nat) (vo : Value) (h : Pip w G P V S)
    (e0 : w.heap[k0]? = some (.cells #[.pointer (some ⟨P, 0, none⟩)] 38 (0, 0))) (e1 : w.heap[k1]? = some (.cells #[.int .i64 late, .int .i64 pick, .bool line] 54 (0, 0))) (e3 : w.heap[k3]? = some (.cells #[vo] 42 (0, 0))) (n3 : ¬ G k3) :
    Calls Tryz.prog 29 #[.pointer (some ⟨k0, 0, none⟩), .pointer (some ⟨k1, 0, none⟩), .pointer (some ⟨k3, 0, none⟩)] w fun e w' => e = .returned (.tuple #[]) ∧ ∃ (G' : Nat → Prop) (v : Value), OutV o w.heap.size v w' G' ∧ Pip w' G' P V1 S1 ∧ (∀ b, G b → G' b) ∧ (∀ b, G' b → G b ∨ w.heap.size ≤ b) ∧ Fr (fun b => G b ∨ b = k3) w w' ∧ w'.heap[k3]? = some (.cells #[v] 42 (0, 0)) := by
  have c00 : w.cell? ⟨k0, 0, none⟩ = some (.pointer (some ⟨P, 0, none⟩)) := by simp [World.cell?, e0]
  have c12 : w.cell? ⟨k1, 2, none⟩ = some (.bool line) := by simp [World.cell?, e1]
  have key := hR w G P h
  have HK := Lib.hid key
  have HE3 := Lib.hid e3
  have HN3 := Lib.hid n3
  clear key hR h e0 e1 e3 n3
  go_enter Tryz.func29, Tryz.ntmps29
  go_wp2_with fail
  (with_reducible refine HK.out.mono ?_)
  rintro e w1 ⟨G1, ⟨v, rfl, hv⟩, P1, W1⟩
  obtain ⟨e3, n3⟩ := W1.keep HE3.out HN3.out
  have c30 : w1.cell? ⟨k3, 0, none⟩ = some vo := by simp [World.cell?, e3]
  have z30 : w1.frozen? ⟨k3, 0, none⟩ = false := by simp [World.frozen?, e3]
  have fin : ∀ a n c, v = .slice a n c → ∃ (G' : Nat → Prop) (v : Value), OutV o w.heap.size v (w1.setCell ⟨k3, 0, none⟩ (.slice a n c)) G' ∧ Pip (w1.setCell ⟨k3, 0, none⟩ (.slice a n c)) G' P V1 S1 ∧ (∀ b, G b → G' b) ∧ (∀ b, G' b → G b ∨ w.heap.size ≤ b) ∧ Fr (fun b => G b ∨ b = k3) w (w1.setCell ⟨k3, 0, none⟩ (.slice a n c)) ∧ (w1.setCell ⟨k3, 0, none⟩ (.slice a n c)).heap[k3]? = some (.cells #[v] 42 (0, 0)) := by
    rintro a n c rfl
    have u := set_upd w1 k3 0 (.slice a n c)
    refine ⟨G1, .slice a n c, ?_, P1.alike u.size (fun b hb => u.block b (P1.lt b hb) (fun e => n3 (e ▸ hb))), W1.up, W1.new, (W1.fr.mono fun b hb => .inl hb).trans (Fr.of_upd u (.inr rfl)), ?_⟩
    · cases o with
      | none => exact hv
      | some r =>
        obtain ⟨b, h1, h2, h3, h4⟩ := hv
        refine ⟨b, h1, (u.block b (blk_lt h2) (fun e => ?_)).trans h2, h3, h4⟩
        have := blk_lt HE3.out
        omega
    · rw [set_block e3 (by simp)]; rfl
  have FIN := Lib.hid fin
  clear fin P1 W1 e3 n3 HK
  cases o with
  | none =>
    have hv' : v = .slice none 0 0 := hv
    clear hv
    subst hv'
    go_wp2_with fail
    first | go_end0 | (simp only [Exit.inBlock, Exit.then]; refine bodyPost_ret (results_none rfl _ _ _) rfl ?_) | refine bodyPost_ret (results_none rfl _ _ _) rfl ?_
    exact ⟨rfl, FIN.out _ _ _ rfl⟩
  | some r =>
    obtain ⟨b, hv', _⟩ := hv
    subst hv'
    go_wp2_with fail
    first | go_end0 | (simp only [Exit.inBlock, Exit.then]; refine bodyPost_ret (results_none rfl _ _ _) rfl ?_) | refine bodyPost_ret (results_none rfl _ _ _) rfl ?_
    exact ⟨rfl, FIN.out _ _ _ rfl⟩
theorem cycle1 {V V1 V2 V3 : PipV} {S S1 S2 S3 : HS} {x : SlV} {r : List SlV} {o : Option RetV} (hl : V.l = x :: r) (late pick : Int) (h0 : 0 ≤ late) (h7 : late ≤ 7) (line : Bool) (hR : Retires line V S o V1 S1) (hM : Step 31 [.int .i64 late] V1 S1 V2 S2) (hF : Step 32 [.int .i64 late, .int .i64 pick] V2 S2 V3 S3) (w : World) (G : Nat → Prop) (P : Nat) (h : Pip w G P V S) :
    Calls Tryz.prog 14 #[.pointer (some ⟨P, 0, none⟩), .agg #[.int .i64 late, .int .i64 pick, .bool line]] w fun e w' => ∃ G', OutRel o w.heap.size e w' G' ∧ Pip w' G' P V3 S3 ∧ Went w G w' G' := by
  obtain ⟨F, a, nx, cy, h⟩ := h
  have t0 : ¬ late < 0 := by omega
  have t7 : ¬ 7 < late := by omega
  have HM := Lib.hid hM
  have HF := Lib.hid hF
  have HR := Lib.hid hR
  clear hM hF h0 h7 hR
  have hPl : P < w.heap.size := h.lt P h.gp
  have HP := Lib.hid h
  clear h
  go_enter Tryz.func14, Tryz.ntmps14
  go_wp2_with fail
  obtain ⟨k0, hk0⟩ : ∃ k0, k0 = w.heap.size := ⟨_, rfl⟩
  rw [← hk0]
  obtain ⟨W1, hW1⟩ : ∃ W1, W1 = (w.alloc (.cells #[.pointer (some ⟨P, 0, none⟩)] 38)).alloc (.cells #[.int .i64 late, .int .i64 pick, .bool line] 54) := ⟨_, rfl⟩
  have hsz : (w.alloc (.cells #[.pointer (some ⟨P, 0, none⟩)] 38)).heap.size = k0 + 1 := by rw [hk0]; simp
  have e1 : W1.heap[k0 + 1]? = some (.cells #[.int .i64 late, .int .i64 pick, .bool line] 54 (0, 0)) := by rw [hW1, ← hsz]; exact (MapKept.heap_alloc _ _).1
  have e0 : W1.heap[k0]? = some (.cells #[.pointer (some ⟨P, 0, none⟩)] 38 (0, 0)) := by rw [hW1, (MapKept.heap_alloc _ _).2 k0 (by omega), hk0]; exact (MapKept.heap_alloc _ _).1
  have b1 : Below w.heap.size w W1 := by rw [hW1]; exact ((Below.refl _ _).alloc (Nat.le_refl _) _).alloc (by simp) _
  have s1 : W1.heap.size = k0 + 2 := by rw [hW1]; simp [hk0]
  rw [← hW1]
  have P1 := HP.out.below b1
  have n0 : ¬ G k0 := fun hg => by have := HP.out.lt _ hg; omega
  have n1 : ¬ G (k0 + 1) := fun hg => by have := HP.out.lt _ hg; omega
  clear hW1 hsz
  refine (aadd_b P 71 cy 1 W1 (P1.cell 6 rfl) (P1.free 71)).mono ?_
  rintro e W2 ⟨cy', rfl, hW2⟩
  have P2 : PW W2 G F P V.s S a nx V.at_ V.stops cy' V.l V.nv := by rw [hW2]; exact P1.setP 6 (.int .i64 cy') (by omega) rfl P1.len P1.sl P1.nxt
  have u2 : Upd W1 W2 P := by rw [hW2]; exact set_upd _ _ _ _
  have w2 : Went w G W2 G := (Went.below b1).trans ⟨fun _ h => h, fun _ h => .inl h, Fr.of_upd u2 HP.out.gp⟩
  have e0 := (u2.block k0 (by omega) (by omega)).trans e0
  have e1 := (u2.block (k0 + 1) (by omega) (by omega)).trans e1
  have s2 : W2.heap.size = k0 + 2 := by rw [hW2]; show (W1.heap.modify P _).size = _; simp [s1]
  clear hW2 u2 P1 b1 s1
  have HP2 := Lib.hid P2
  have HW2 := Lib.hid w2
  have HE0 := Lib.hid e0
  have HE1 := Lib.hid e1
  have HN0 := Lib.hid n0
  have HN1 := Lib.hid n1
  have HK := Lib.hid hk0
  clear P2 w2 e0 e1 n0 n1 hk0
  go_wp2_with fail
  have e23 : k0 + 2 + 1 = k0 + 3 := by omega
  rw [e23]
  obtain ⟨W3, hW3⟩ : ∃ W3, W3 = (W2.alloc (.cells #[.int .u32 0, .int .i32 0, .int .u32 0] 103)).alloc (.cells #[.slice none 0 0] 42) := ⟨_, rfl⟩
  have hsz : (W2.alloc (.cells #[.int .u32 0, .int .i32 0, .int .u32 0] 103)).heap.size = k0 + 3 := by simp [s2]
  have b3 : Below W2.heap.size W2 W3 := by rw [hW3]; exact ((Below.refl _ _).alloc (Nat.le_refl _) _).alloc (by simp) _
  have e3 : W3.heap[k0 + 3]? = some (.cells #[.slice none 0 0] 42 (0, 0)) := by rw [hW3, ← hsz]; exact (MapKept.heap_alloc _ _).1
  have e2 : W3.heap[k0 + 2]? = some (.cells #[.int .u32 0, .int .i32 0, .int .u32 0] 103 (0, 0)) := by
    have := (MapKept.heap_alloc W2 (.cells #[.int .u32 0, .int .i32 0, .int .u32 0] 103)).1
    rw [s2] at this
    rw [hW3, (MapKept.heap_alloc _ _).2 (k0 + 2) (by rw [hsz]; omega)]; exact this
  have e0 := (b3.block k0 (by omega)).trans HE0.out
  have e1 := (b3.block (k0 + 1) (by omega)).trans HE1.out
  have P3 := HP2.out.below b3
  have n2 : ¬ G (k0 + 2) := fun hg => by have := HP.out.lt _ hg; have := HK.out; omega
  have n3 : ¬ G (k0 + 3) := fun hg => by have := HP.out.lt _ hg; have := HK.out; omega
  have w3 := HW2.out.trans (Went.below (G := G) b3)
  rw [← hW3]
  clear hW3 hsz b3 HP2 HW2 HE0 HE1 e23
  have g0 : ∀ q : Beyond W3, q.to.cell? ⟨k0, 0, none⟩ = some (.pointer (some ⟨P, 0, none⟩)) := fun q => by have := (q.ok.block k0 (blk_lt e0)).trans e0; simp [World.cell?, this]
  have g1 : ∀ q : Beyond W3, q.to.cell? ⟨P, 67, none⟩ = some (.slice a.1 (r.length + 1) a.2.2) := fun q => by
    have := (P3.below q.ok).cell 2 (v := .slice a.1 a.2.1 a.2.2) rfl
    rw [← P3.len, hl] at this
    exact this
  have hc1 : r.length + 1 ≤ a.2.2 := by
    have h1 := P3.len
    rw [hl] at h1
    rcases P3.sl with ⟨_, k, _⟩ | ⟨L, off, _, k, _⟩
    · rw [hl] at k; cases k
    · obtain ⟨arr, _, _, k, _⟩ := k
      rw [hl] at k; simpa using k
  have t1 : ¬ ((r.length : Int) + 1 < 1) := by omega
  have t2 : (1 : Int) ≤ (a.2.2 : Int) := by omega
  have HE0 := Lib.hid e0
  have HE1 := Lib.hid e1
  have HE2 := Lib.hid e2
  have HE3 := Lib.hid e3
  have HP3 := Lib.hid P3
  have HN2 := Lib.hid n2
  have HN3 := Lib.hid n3
  have HW3 := Lib.hid w3
  clear e0 e1 e2 e3 P3 n2 n3 w3 s2
  refine wp_region_below (W := W3) (by kernel_rfl) (by kernel_rfl) (Below.refl _ _) ?_
  repeat (go_big_quiet_step (fail))
  refine wpQuiet_nil ?_
  intro w4 hb4
  have e9 : (if (1 : Int) < (r.length : Int) + 1 then 1 else (r.length : Int) + 1) = 1 := by split <;> omega
  simp only [e9, show max (1 : Int) 0 = 1 from rfl]
  have P4 := HP3.out.below hb4
  have e0 := (hb4.block k0 (blk_lt HE0.out)).trans HE0.out
  have e1 := (hb4.block (k0 + 1) (blk_lt HE1.out)).trans HE1.out
  have e2 := (hb4.block (k0 + 2) (blk_lt HE2.out)).trans HE2.out
  have e3 := (hb4.block (k0 + 3) (blk_lt HE3.out)).trans HE3.out
  have w4' := HW3.out.trans (Went.below (G := G) hb4)
  -- Do, then what it leaves
  have doIt : Calls Tryz.prog 28 #[.pointer (some ⟨k0 + 2, 0, none⟩), .func (.func 29) #[] #[.pointer (some ⟨k0, 0, none⟩), .pointer (some ⟨k0 + 1, 0, none⟩), .pointer (some ⟨k0 + 3, 0, none⟩)]] w4 fun e wD => e = .returned (.tuple #[]) ∧ ∃ (G4 : Nat → Prop) (v : Value), OutV o w.heap.size v wD G4 ∧ Pip wD G4 P V1 S1 ∧ Went w G wD G4 ∧
      wD.heap[k0]? = some (.cells #[.pointer (some ⟨P, 0, none⟩)] 38 (0, 0)) ∧ wD.heap[k0 + 1]? = some (.cells #[.int .i64 late, .int .i64 pick, .bool line] 54 (0, 0)) ∧ wD.heap[k0 + 3]? = some (.cells #[v] 42 (0, 0)) ∧ ¬ G4 k0 ∧ ¬ G4 (k0 + 1) ∧ ¬ G4 (k0 + 3) := by
    have hk0 := HK.out
    have uA := set_upd w4 (k0 + 2) 1 (.int .i32 1)
    have hsA : (w4.setCell ⟨k0 + 2, 1, none⟩ (.int .i32 1)).heap.size = w4.heap.size := by show (w4.heap.modify _ _).size = _; simp
    have hs4 := w4'.fr.size
    have hl0 := blk_lt e0
    have hl1 := blk_lt e1
    have hl2 := blk_lt e2
    have hl3 := blk_lt e3
    have pA : Pip (w4.setCell ⟨k0 + 2, 1, none⟩ (.int .i32 1)) G P V S := Pip.alike ⟨F, a, nx, cy', P4⟩ uA.size (fun b hb => uA.block b (P4.lt b hb) (fun e => HN2.out (e ▸ hb)))
    have eA2 : (w4.setCell ⟨k0 + 2, 1, none⟩ (.int .i32 1)).heap[k0 + 2]? = some (.cells #[.int .u32 0, .int .i32 1, .int .u32 0] 103 (0, 0)) := by rw [set_block e2 (by simp)]; rfl
    have hc := c29_b HR.out late pick _ G P k0 (k0 + 1) (k0 + 3) (.slice none 0 0) pA ((uA.block k0 hl0 (by omega)).trans e0) ((uA.block (k0 + 1) hl1 (by omega)).trans e1) ((uA.block (k0 + 3) hl3 (by omega)).trans e3) HN3.out
    have hd := do_p (k0 + 2) 0 #[.pointer (some ⟨k0, 0, none⟩), .pointer (some ⟨k0 + 1, 0, none⟩), .pointer (some ⟨k0 + 3, 0, none⟩)] w4 (fun w1 => ∃ (G' : Nat → Prop) (v : Value), OutV o w4.heap.size v w1 G' ∧ Pip w1 G' P V1 S1 ∧ (∀ b, G b → G' b) ∧ (∀ b, G' b → G b ∨ w4.heap.size ≤ b) ∧ Fr (fun b => G b ∨ b = k0 + 3) (w4.setCell ⟨k0 + 2, 1, none⟩ (.int .i32 1)) w1 ∧ w1.heap[k0 + 3]? = some (.cells #[v] 42 (0, 0)))
      (by simp [World.cell?, e2]) (by simp [World.cell?, e2]) (by simp [World.frozen?, e2]) (by simp [World.frozen?, e2])
      (hc.mono fun e w1 ⟨h1, G', v, h2, h3, h4, h5, h6, h7⟩ => by
        rw [hsA] at h2 h5
        have eB := (h6.block (k0 + 2) (by rw [hsA]; exact hl2) (fun hb => hb.elim HN2.out (fun e => by omega))).trans eA2
        exact ⟨h1, ⟨G', v, h2, h3, h4, h5, h6, h7⟩, by simp [World.cell?, eB], by simp [World.cell?, eB], by simp [World.frozen?, eB], by simp [World.frozen?, eB]⟩)
    refine hd.mono ?_
    rintro e wD ⟨rfl, w1, ⟨G', v, h2, h3, h4, h5, h6, h7⟩, hwD⟩
    have hs1 : w4.heap.size ≤ w1.heap.size := by have := h6.size; rw [hsA] at this; exact this
    have hg2 : ¬ G' (k0 + 2) := fun hg => (h5 _ hg).elim HN2.out (fun h => by omega)
    have same : ∀ b, b ≠ k0 + 2 → wD.heap[b]? = w1.heap[b]? := fun b hb => by
      rw [hwD]
      rw [show ((w1.drew.setCell ⟨k0 + 2, 0, none⟩ (.int .u32 1)).setCell ⟨k0 + 2, 0 + 1, none⟩ (.int .i32 0)).heap[b]? = (w1.drew.setCell ⟨k0 + 2, 0, none⟩ (.int .u32 1)).heap[b]? from set_other _ _ _ _ _ hb]
      exact set_other _ _ _ _ _ hb
    have hset : ∀ (w : World) (a : Addr) (v : Value), (w.setCell a v).heap.size = w.heap.size := fun w a v => by show (w.heap.modify _ _).size = _; simp
    have hsD : wD.heap.size = w1.heap.size := by rw [hwD, hset, hset]; rfl
    have frD : Fr (fun b => b = k0 + 2) w1 wD := ⟨by rw [hwD]; rfl, by rw [hwD]; rfl, by rw [hwD]; rfl, by omega, fun b _ hb => same b hb⟩
    have old : ∀ b, b < w4.heap.size → ¬ G b → b ≠ k0 + 2 → b ≠ k0 + 3 → wD.heap[b]? = w4.heap[b]? := fun b hb hg h2 h3 => by
      rw [same b h2, h6.block b (by rw [hsA]; exact hb) (fun h => h.elim hg h3), uA.block b hb h2]
    have ng : ∀ b, b < w4.heap.size → ¬ G b → ¬ G' b := fun b hb hg h => (h5 b h).elim hg (fun h => by omega)
    have hn0 : ¬ G k0 := fun hg => by have := HP.out.lt _ hg; omega
    have hn1 : ¬ G (k0 + 1) := fun hg => by have := HP.out.lt _ hg; omega
    refine ⟨rfl, G', v, ?_, h3.alike (by omega) (fun b hb => same b (fun e => hg2 (e ▸ hb))), ⟨h4, fun b hb => (h5 b hb).elim .inl (fun h => .inr (by omega)), ?_⟩, (old k0 hl0 hn0 (by omega) (by omega)).trans e0, (old (k0 + 1) hl1 hn1 (by omega) (by omega)).trans e1, (same (k0 + 3) (by omega)).trans h7, ng _ hl0 hn0, ng _ hl1 hn1, ng _ hl3 HN3.out⟩
    · cases o with
      | none => exact h2
      | some rr =>
        obtain ⟨b, q1, q2, q3, q4⟩ := h2
        exact ⟨b, q1, (same b (by omega)).trans q2, by omega, q4⟩
    · have f1 : Fr (fun b => G b ∨ b = k0 + 2 ∨ b = k0 + 3) w4 wD := ((Fr.of_upd uA (.inr (.inl rfl))).trans (h6.mono fun b hb => hb.elim .inl (fun h => .inr (.inr h)))).trans (frD.mono fun b hb => .inr (.inl hb))
      exact w4'.fr.then_ f1 (fun b hb => by
        rcases hb with hb | hb | hb
        · exact .inl hb
        · exact .inr (by omega)
        · exact .inr (by omega))
  have DO := Lib.hid doIt
  clear doIt P4 e0 e1 e2 e3 w4' hb4 g0 g1 HP3 HW3 HE0 HE1 HE2 HE3 HN2 HN3 HN0 HN1
  go_wp2_with fail
  go_loopw [24] (fun i wr => (i = .int .i64 0 ∧ wr = w4) ∨ (i = .int .i64 1 ∧ ∃ (G4 : Nat → Prop) (v : Value), OutV o w.heap.size v wr G4 ∧ Pip wr G4 P V1 S1 ∧ Went w G wr G4 ∧
      wr.heap[k0]? = some (.cells #[.pointer (some ⟨P, 0, none⟩)] 38 (0, 0)) ∧ wr.heap[k0 + 1]? = some (.cells #[.int .i64 late, .int .i64 pick, .bool line] 54 (0, 0)) ∧ wr.heap[k0 + 3]? = some (.cells #[v] 42 (0, 0)) ∧ ¬ G4 k0 ∧ ¬ G4 (k0 + 1) ∧ ¬ G4 (k0 + 3))) (fun i _ => 1 - (intOf i).toNat)
  case atStart => exact .inl ⟨rfl, rfl⟩
  case round =>
    rcases hrel with ⟨rfl, rfl⟩ | ⟨rfl, G4, v, h1, h2, h3, h4, h5, h6, h7, h8, h9⟩
    · go_wp2_with fail
      (with_reducible refine DO.out.mono ?_)
      rintro e wD ⟨rfl, hD⟩
      have HD := Lib.hid hD
      clear hD
      go_wp2_with fail
      exact ⟨.inr ⟨rfl, HD.out⟩, by simp [intOf]⟩
    · have c00 : wr.cell? ⟨k0, 0, none⟩ = some (.pointer (some ⟨P, 0, none⟩)) := by simp [World.cell?, h4]
      have c10 : wr.cell? ⟨k0 + 1, 0, none⟩ = some (.int .i64 late) := by simp [World.cell?, h5]
      have HO4 := Lib.hid h1
      have HP4 := Lib.hid h2
      have HW4 := Lib.hid h3
      have HE0 := Lib.hid h4
      have HE1 := Lib.hid h5
      have HE3 := Lib.hid h6
      have HN0 := Lib.hid h7
      have HN1 := Lib.hid h8
      have HN3 := Lib.hid h9
      clear h1 h2 h3 h4 h5 h6 h7 h8 h9
      go_wp2_with fail
      have key := HM.out wr G4 P HP4.out
      (with_reducible refine key.mono ?_)
      rintro e w5 ⟨rfl, G5, P5, W5⟩
      have W5' := HW4.out.trans W5
      have HO5 := Lib.hid (HO4.out.keep W5)
      obtain ⟨e05, n05⟩ := W5.keep HE0.out HN0.out
      obtain ⟨e15, n15⟩ := W5.keep HE1.out HN1.out
      obtain ⟨e35, n35⟩ := W5.keep HE3.out HN3.out
      have c00 : w5.cell? ⟨k0, 0, none⟩ = some (.pointer (some ⟨P, 0, none⟩)) := by simp [World.cell?, e05]
      have c11 : w5.cell? ⟨k0 + 1, 1, none⟩ = some (.int .i64 pick) := by simp [World.cell?, e15]
      have HE35 := Lib.hid e35
      have HN35 := Lib.hid n35
      have HP5 := Lib.hid P5
      have HW5 := Lib.hid W5'
      clear key P5 W5 W5' e05 n05 e15 n15 e35 n35
      go_wp2_with fail
      have key := HF.out w5 G5 P HP5.out
      (with_reducible refine key.mono ?_)
      rintro e w6 ⟨rfl, G6, P6, W6⟩
      have W6' := HW5.out.trans W6
      have HO6 := Lib.hid (HO5.out.keep W6)
      obtain ⟨e36, n36⟩ := W6.keep HE35.out HN35.out
      have c30 : w6.cell? ⟨k0 + 3, 0, none⟩ = some v := by simp [World.cell?, e36]
      have HP6 := Lib.hid P6
      have HW6 := Lib.hid W6'
      clear key P6 W6 W6' e36 n36
      go_wp2_with fail
      go_ret
      exact ⟨G6, ⟨_, rfl, HO6.out⟩, HP6.out, HW6.out⟩
end Go.Proofs.YtfehilinnalflaaGreat
namespace Go.Proofs.YtfehilinnalflaaGreat
open Go.RowKit Go.BigFrame
set_option linter.unusedSimpArgs false
set_option linter.unusedVariables false
set_option maxRecDepth 100000
theorem selG_leaf {t : Tr} {vs : List Dv} (h : ∀ (α : Type) (d : α) (π : List Dv → α), t.sel d π = π vs) (i : Nat) : ∀ (ks : List CK) (j : Nat), selG t i j ks = selG (.ret vs none) i j ks
  | [], j => rfl
  | k :: ks, j => by
    show selC t i j k :: selG t i (j + 1) ks = selC (.ret vs none) i j k :: selG (.ret vs none) i (j + 1) ks
    rw [selG_leaf h i ks (j + 1)]
    congr 1
    cases k <;> simp only [selC, h] <;> rfl
def stT (t : Tr) : St := t.sel St0 fun vs => (pickC vs 1 0).T
def flT (t : Tr) : Bool := t.sel false fun vs => match pickC vs 1 3 with | .x st _ => st | _ => false
theorem pip8 {cs : List Ch} (h : isAll cs [.S, .v, .v, .v, .v, .u, .b, .i .i64] = true) : ∃ s c1 c2 st v c4 c5 c6 c7, cs = [.S s, c1, c2, .x st v, c4, c5, c6, c7] := by
  match cs, h with
  | [c0, c1, c2, c3, c4, c5, c6, c7], h =>
    simp only [isAll, Bool.and_eq_true] at h
    obtain ⟨h0, h1, h2, h3, _⟩ := h
    cases c0 with
    | S s =>
      cases c3 with
      | x st v => exact ⟨s, c1, c2, st, v, c4, c5, c6, c7, rfl⟩
      | u st b => cases h3
      | S s => cases h3
    | u st b => cases h0
    | x st v => cases v <;> cases h0
  | [], h => cases h
  | [_], h => simp [isAll] at h
  | [_, _], h => simp [isAll] at h
  | [_, _, _], h => simp [isAll] at h
  | [_, _, _, _], h => simp [isAll] at h
  | [_, _, _, _, _], h => simp [isAll] at h
  | [_, _, _, _, _, _], h => simp [isAll] at h
  | [_, _, _, _, _, _, _], h => simp [isAll] at h
  | _ :: _ :: _ :: _ :: _ :: _ :: _ :: _ :: _ :: _, h => simp [isAll] at h
def tlCh (s : St) (b t : Nat) (a : Option Addr × Nat × Nat) (nx : Option Addr) (at_ : BitVec 64) (stops : Bool) (cy : Int) : List Ch := [.S s, .x false (.pointer (some ⟨b, 0, none⟩)), .x false (.pointer (some ⟨t, 0, none⟩)), .x false (.slice (tailA a).1 (tailA a).2.1 (tailA a).2.2), .x false (.pointer nx), .u false at_, .x false (.bool stops), .x false (.int .i64 cy)]
def leafP (b t : Nat) (a : Option Addr × Nat × Nat) (nx : Option Addr) (at_ : BitVec 64) (stops : Bool) (cy : Int) (vs : List Dv) : Prop :=
  flat (selG (.ret vs none) 1 0 (pipK b t)) = bif (match pickC vs 1 3 with | .x st _ => st | _ => false) then pipL (pickC vs 1 0).T b t (none, 0, 0) none (pickC vs 1 0).T.pc false cy else pipL (pickC vs 1 0).T b t (tailA a) nx at_ stops cy
theorem leaf_true (b t : Nat) (a : Option Addr × Nat × Nat) (nx : Option Addr) (at_ : BitVec 64) (stops : Bool) (cy : Int) (d0 : Dv) (s : St) : leafP b t a nx at_ stops cy [d0, .g (flCh s b t cy)] := by
  unfold leafP
  kernel_rfl
theorem leaf_false (b t : Nat) (a : Option Addr × Nat × Nat) (nx : Option Addr) (at_ : BitVec 64) (stops : Bool) (cy : Int) (d0 : Dv) (s : St) : leafP b t a nx at_ stops cy [d0, .g (tlCh s b t a nx at_ stops cy)] := by
  unfold leafP
  kernel_rfl
theorem does_block (s : St) (S : HS) (a : Option Addr × Nat × Nat) (nx : Option Addr) (at_ : BitVec 64) (stops : Bool) (cy : Int) (x : SlV) (line : Bool) (hn : (doesT s S a nx at_ stops cy x line).needB = true) :
    flat (selG (doesT s S a nx at_ stops cy x line) 1 0 (pipK S.b S.t)) = bif flT (doesT s S a nx at_ stops cy x line) then pipL (stT (doesT s S a nx at_ stops cy x line)) S.b S.t (none, 0, 0) none (stT (doesT s S a nx at_ stops cy x line)).pc false cy else pipL (stT (doesT s S a nx at_ stops cy x line)) S.b S.t (tailA a) nx at_ stops cy := by
  obtain ⟨vs, h1, h2, h3⟩ := (doesT s S a nx at_ stops cy x line).leaf hn
  have hc := h3 _ (canon_does s S a nx at_ stops cy x line)
  have his := h2 _ (is__pipe_Pipe_does S s S.b S.t a nx at_ stops cy x.pc x.w x.f1 x.f2 x.f3 x.f4 x.ok x.i.op x.i.rd x.i.rs1 x.i.rs2 x.i.imm x.i.csr x.is x.stage x.left line)
  have hs : stT (doesT s S a nx at_ stops cy x line) = (pickC vs 1 0).T := h1 _ _ _
  have hf : flT (doesT s S a nx at_ stops cy x line) = match pickC vs 1 3 with | .x st _ => st | _ => false := h1 _ _ _
  rw [selG_leaf h1, hs, hf]
  clear hs hf h1 h2 h3
  show leafP S.b S.t a nx at_ stops cy vs
  match vs, his, hc with
  | [d0, .g cs], his, hc =>
    have h8 : isAll cs [.S, .v, .v, .v, .v, .u, .b, .i .i64] = true := by
      have his' : (d0.is (.g retK) && (isAll cs [.S, .v, .v, .v, .v, .u, .b, .i .i64] && true)) = true := his
      simp only [Bool.and_eq_true] at his'
      exact his'.2.1
    obtain ⟨s', c1, c2, st, v, c4, c5, c6, c7, rfl⟩ := pip8 h8
    cases st with
    | true =>
      have hc' : [d0, Dv.g (flCh s' S.b S.t cy)] = [d0, .g [.S s', c1, c2, .x true v, c4, c5, c6, c7]] := hc
      rw [← hc']; exact leaf_true _ _ _ _ _ _ _ _ _
    | false =>
      have hc' : [d0, Dv.g (tlCh s' S.b S.t a nx at_ stops cy)] = [d0, .g [.S s', c1, c2, .x false v, c4, c5, c6, c7]] := hc
      rw [← hc']; exact leaf_false _ _ _ _ _ _ _ _ _
  | [], his, _ => cases his
  | [d0], his, _ => simp [areAll, bsh] at his
  | [d0, .s c], his, _ => simp [areAll, bsh, Dv.is] at his
  | d0 :: d1 :: d2 :: r, his, _ => simp [areAll, bsh] at his
theorem SlotsAt.tail {w : World} {G F : Nat → Prop} {P : Nat} {a : Option Addr × Nat × Nat} {x : SlV} {l : List SlV} (h : SlotsAt w G F P a (x :: l)) : SlotsAt w G F P (tailA a) l ∧ ∀ L off, (tailA a).1 = some ⟨L, off, none⟩ → ∃ off', a.1 = some ⟨L, off', none⟩ := by
  rcases h with ⟨_, k, _⟩ | ⟨L, off, h1, h2, h3, h4, h5⟩
  · cases k
  · obtain ⟨arr, g1, g2, g3, g4⟩ := h2
    by_cases hc : a.2.2 = 1
    · have hl : l = [] := by simp at g3; exact List.length_eq_zero_iff.1 (by omega)
      have e : (tailA a).1 = some ⟨L, off, none⟩ := by unfold tailA; rw [if_pos hc]; exact h1
      have e2 : (tailA a).2.2 = 0 := by unfold tailA; show a.2.2 - 1 = 0; omega
      refine ⟨.inr ⟨L, off, e, ⟨arr, g1, by rw [e2]; omega, by rw [hl]; simp, fun k y hk => by rw [hl] at hk; cases hk⟩, h3, h4, h5⟩, fun L' off' h => ?_⟩
      rw [e] at h; cases h; exact ⟨off, h1⟩
    · have e : (tailA a).1 = some ⟨L, off + 16, none⟩ := by unfold tailA; rw [if_neg hc, h1]; show some ((⟨L, off, none⟩ : Addr).add 16) = _; rw [add_at]
      have e2 : (tailA a).2.2 = a.2.2 - 1 := rfl
      simp at g3
      refine ⟨.inr ⟨L, off + 16, e, ⟨arr, g1, by rw [e2]; omega, by rw [e2]; omega, fun k y hk j v hv => ?_⟩, h3, h4, h5⟩, fun L' off' h => ?_⟩
      · have := g4 (k + 1) y hk j v hv
        rw [show off + 16 + k * 16 + j = off + (k + 1) * 16 + j by omega]; exact this
      · rw [e] at h; cases h; exact ⟨off, h1⟩
theorem does_ok (P : Nat) (s : St) (S : HS) (a : Option Addr × Nat × Nat) (nx : Option Addr) (at_ : BitVec 64) (stops : Bool) (cy : Int) (x : SlV) (l : List SlV) (nv : Option SlV) (line : Bool) (hn : (doesT s S a nx at_ stops cy x line).needB = true) (w0 : World) (G0 F0 : Nat → Prop) :
    DoesOk w0 G0 F0 P s S a nx at_ stops cy x l nv line (retV (doesT s S a nx at_ stops cy x line)) (stT (doesT s S a nx at_ stops cy x line)) ((doesT s S a nx at_ stops cy x line).theM S) (bif flT (doesT s S a nx at_ stops cy x line) then (none, 0, 0) else tailA a) (bif flT (doesT s S a nx at_ stops cy x line) then none else nx)
      (bif flT (doesT s S a nx at_ stops cy x line) then (stT (doesT s S a nx at_ stops cy x line)).pc else at_) (bif flT (doesT s S a nx at_ stops cy x line) then false else stops) cy (bif flT (doesT s S a nx at_ stops cy x line) then [] else l) (bif flT (doesT s S a nx at_ stops cy x line) then none else nv) := by
  intro w G F h
  have hb := does_block s S a nx at_ stops cy x line hn
  obtain ⟨_, hT⟩ := FnXE_ok.specX 46 [.p 0 0, .d (.g (slCh x)), .d (.s (.x false (.bool line)))] (pipH s S a nx at_ stops cy) (doesT s S a nx at_ stops cy x line).needB (.d (.g (selG (doesT s S a nx at_ stops cy x line) 0 0 retK))) ⟨[⟨80, selG (doesT s S a nx at_ stops cy x line) 1 0 (pipK S.b S.t)⟩], some ((doesT s S a nx at_ stops cy x line).theM S), true, 0⟩ (by kernel_rfl) hn
  refine (hT _ _ _ w [.pointer (some ⟨P, 0, none⟩), .agg (slL x).toArray, .bool line] (FRel.cons ⟨P, rfl, rfl⟩ (FRel.cons rfl (FRel.cons rfl ⟨rfl, fun i av hi => by cases hi⟩))) h.mrel).mono ?_
  rintro e w' ⟨v, rfl, hv, M'⟩
  have hv' : v = .agg (flat (selG (doesT s S a nx at_ stops cy x line) 0 0 retK)).toArray := hv
  refine ⟨by rw [hv', flat_ret], ?_⟩
  generalize doesT s S a nx at_ stops cy x line = t at *
  have hlen : l.length = a.2.1 - 1 := by have : (x :: l).length = a.2.1 := h.len; simp at this; omega
  obtain ⟨t1, t2⟩ := h.sl.tail
  cases hf : flT t with
  | true =>
    rw [hf] at hb
    exact h.back M' rfl rfl rfl rfl hb rfl (.inl ⟨rfl, rfl, rfl⟩) (.inl ⟨rfl, rfl⟩)
  | false =>
    rw [hf] at hb
    refine h.back M' rfl rfl rfl rfl hb hlen t1 ?_
    rcases h.nxt with k | ⟨N, y, g1, g2, g3, g4, g5, g6, g7⟩
    · exact .inl k
    · refine .inr ⟨N, y, g1, g2, g3, g4, g5, g6, fun L off e => ?_⟩
      obtain ⟨off', e'⟩ := t2 L off e
      exact g7 L off' e'
end Go.Proofs.YtfehilinnalflaaGreat
namespace Go.Proofs.YtfehilinnalflaaGreat
open Go.RowKit Go.BigFrame
set_option linter.unusedSimpArgs false
set_option linter.unusedVariables false
set_option maxRecDepth 100000
noncomputable def dT (s : St) (S : HS) (at_ : BitVec 64) (stops : Bool) (x : SlV) (line : Bool) : Tr := doesT s S (none, 1, 1) none at_ stops 0 x line
def dF (vs : List Dv) (m : Option HS) : RetV × St × Bool × Option HS := (⟨(pickC vs 0 0).U, (pickC vs 0 1).I, (pickC vs 0 2).I, (pickC vs 0 3).U, (pickC vs 0 4).B, (pickC vs 0 5).U, (pickC vs 0 6).U, (pickC vs 0 7).U, (pickC vs 0 8).B, (pickC vs 0 9).I, (pickC vs 0 10).B, (pickC vs 0 11).B⟩, (pickC vs 1 0).T, (match pickC vs 1 3 with | .x st _ => st | _ => false), m)
theorem ret_of {t t' : Tr} (h : ∀ {α : Type} (d : α) (g : RetV × St × Bool × Option HS → α) (π : List Dv → α), (∀ vs m, π vs = g (dF vs m)) → t.sel d π = t'.sel d π) : retV t = retV t' := by
  unfold retV
  have e0 := h (0#64) (fun b => b.1.pc) (fun vs => (pickC vs 0 0).U) (fun vs m => rfl)
  have e1 := h (0 : Int) (fun b => b.1.w) (fun vs => (pickC vs 0 1).I) (fun vs m => rfl)
  have e2 := h (0 : Int) (fun b => b.1.rd) (fun vs => (pickC vs 0 2).I) (fun vs m => rfl)
  have e3 := h (0#64) (fun b => b.1.value) (fun vs => (pickC vs 0 3).U) (fun vs m => rfl)
  have e4 := h false (fun b => b.1.trap) (fun vs => (pickC vs 0 4).B) (fun vs m => rfl)
  have e5 := h (0#64) (fun b => b.1.f1) (fun vs => (pickC vs 0 5).U) (fun vs m => rfl)
  have e6 := h (0#64) (fun b => b.1.f2) (fun vs => (pickC vs 0 6).U) (fun vs m => rfl)
  have e7 := h (0#64) (fun b => b.1.f3) (fun vs => (pickC vs 0 7).U) (fun vs m => rfl)
  have e8 := h false (fun b => b.1.f4) (fun vs => (pickC vs 0 8).B) (fun vs m => rfl)
  have e9 := h (0 : Int) (fun b => b.1.lev) (fun vs => (pickC vs 0 9).I) (fun vs m => rfl)
  have e10 := h false (fun b => b.1.v) (fun vs => (pickC vs 0 10).B) (fun vs m => rfl)
  have e11 := h false (fun b => b.1.line) (fun vs => (pickC vs 0 11).B) (fun vs m => rfl)
  rw [e0, e1, e2, e3, e4, e5, e6, e7, e8, e9, e10, e11]
section
variable (s : St) (S : HS) (a1 : Option Addr) (n c : Nat) (nx : Option Addr) (at_ : BitVec 64) (stops : Bool) (cy : Int) (x : SlV) (line : Bool)
set_option maxHeartbeats 4000000 in
theorem cut_same : (doesT s S (a1, n, c) nx at_ stops cy x line).cut dF = (dT s S at_ stops x line).cutR dF := by kernel_rfl
theorem cut_same' : (doesT s S (a1, n, c) nx at_ stops cy x line).cut dF = (dT s S at_ stops x line).cut dF := by rw [cut_same, cutR_eq]
theorem sel_same {α : Type} (d : α) (g : RetV × St × Bool × Option HS → α) (π : List Dv → α) (h : ∀ vs m, π vs = g (dF vs m)) : (doesT s S (a1, n, c) nx at_ stops cy x line).sel d π = (dT s S at_ stops x line).sel d π := by
  rw [cut_sel dF d g π h, cut_sel dF d g π h, cut_same']
theorem ret_same : retV (doesT s S (a1, n, c) nx at_ stops cy x line) = retV (dT s S at_ stops x line) := ret_of (fun d g π h => sel_same s S a1 n c nx at_ stops cy x line d g π h)
theorem st_same : stT (doesT s S (a1, n, c) nx at_ stops cy x line) = stT (dT s S at_ stops x line) := sel_same s S a1 n c nx at_ stops cy x line _ (fun b => b.2.1) _ (fun vs m => rfl)
theorem fl_same : flT (doesT s S (a1, n, c) nx at_ stops cy x line) = flT (dT s S at_ stops x line) := sel_same s S a1 n c nx at_ stops cy x line _ (fun b => b.2.2.1) _ (fun vs m => rfl)
theorem m_same : (doesT s S (a1, n, c) nx at_ stops cy x line).theM S = (dT s S at_ stops x line).theM S := by
  have h : (doesT s S (a1, n, c) nx at_ stops cy x line).selM S = (dT s S at_ stops x line).selM S := by
    rw [cut_selM dF S (fun b => Tr.selM S (.ret [] b.2.2.2)) (fun vs m => rfl) rfl, cut_selM dF S (fun b => Tr.selM S (.ret [] b.2.2.2)) (fun vs m => rfl) rfl, cut_same']
  unfold Tr.theM
  rw [h]
set_option maxHeartbeats 4000000 in
theorem n_same1 : (doesT s S (a1, 1, c) nx at_ stops cy x line).needB = (dT s S at_ stops x line).needB := nd_same (by kernel_rfl)
set_option maxHeartbeats 4000000 in
theorem n_same2 : (doesT s S (a1, 2, c) nx at_ stops cy x line).needB = (dT s S at_ stops x line).needB := nd_same (by kernel_rfl)
set_option maxHeartbeats 4000000 in
theorem n_same3 : (doesT s S (a1, 3, c) nx at_ stops cy x line).needB = (dT s S at_ stops x line).needB := nd_same (by kernel_rfl)
set_option maxHeartbeats 4000000 in
theorem n_same4 : (doesT s S (a1, 4, c) nx at_ stops cy x line).needB = (dT s S at_ stops x line).needB := nd_same (by kernel_rfl)
end
noncomputable def begT (s : St) (S : HS) (a : Option Addr × Nat × Nat) (at_ : BitVec 64) (cy : Int) (pick : Int) : Tr := t__pipe_Pipe_begins S s S.b S.t a none at_ false cy pick
noncomputable def bT (s : St) (S : HS) (at_ : BitVec 64) (pick : Int) : Tr := begT s S (none, 0, 0) at_ 0 pick
def slK : List CK := [.u, .i .u32, .u, .u, .u, .b, .b, .i .i64, .i .i64, .i .i64, .i .i64, .i .i64, .i .i64, .b, .i .i64, .i .i64]
def slV (t : Tr) : SlV := ⟨t.sel 0#64 fun vs => (pickC vs 0 0).U, t.sel 0 fun vs => (pickC vs 0 1).I, t.sel 0#64 fun vs => (pickC vs 0 2).U, t.sel 0#64 fun vs => (pickC vs 0 3).U, t.sel 0#64 fun vs => (pickC vs 0 4).U, t.sel false fun vs => (pickC vs 0 5).B, t.sel false fun vs => (pickC vs 0 6).B,
  ⟨t.sel 0 fun vs => (pickC vs 0 7).I, t.sel 0 fun vs => (pickC vs 0 8).I, t.sel 0 fun vs => (pickC vs 0 9).I, t.sel 0 fun vs => (pickC vs 0 10).I, t.sel 0 fun vs => (pickC vs 0 11).I, t.sel 0 fun vs => (pickC vs 0 12).I⟩, t.sel false fun vs => (pickC vs 0 13).B, t.sel 0 fun vs => (pickC vs 0 14).I, t.sel 0 fun vs => (pickC vs 0 15).I⟩
theorem sl_of {t t' : Tr} (h : t.cut allF = t'.cutR allF) : slV t = slV t' := by
  unfold slV
  have e0 := sel_all h (0#64) (fun vs => (pickC vs 0 0).U)
  have e1 := sel_all h (0 : Int) (fun vs => (pickC vs 0 1).I)
  have e2 := sel_all h (0#64) (fun vs => (pickC vs 0 2).U)
  have e3 := sel_all h (0#64) (fun vs => (pickC vs 0 3).U)
  have e4 := sel_all h (0#64) (fun vs => (pickC vs 0 4).U)
  have e5 := sel_all h false (fun vs => (pickC vs 0 5).B)
  have e6 := sel_all h false (fun vs => (pickC vs 0 6).B)
  have e7 := sel_all h (0 : Int) (fun vs => (pickC vs 0 7).I)
  have e8 := sel_all h (0 : Int) (fun vs => (pickC vs 0 8).I)
  have e9 := sel_all h (0 : Int) (fun vs => (pickC vs 0 9).I)
  have e10 := sel_all h (0 : Int) (fun vs => (pickC vs 0 10).I)
  have e11 := sel_all h (0 : Int) (fun vs => (pickC vs 0 11).I)
  have e12 := sel_all h (0 : Int) (fun vs => (pickC vs 0 12).I)
  have e13 := sel_all h false (fun vs => (pickC vs 0 13).B)
  have e14 := sel_all h (0 : Int) (fun vs => (pickC vs 0 14).I)
  have e15 := sel_all h (0 : Int) (fun vs => (pickC vs 0 15).I)
  rw [e0, e1, e2, e3, e4, e5, e6, e7, e8, e9, e10, e11, e12, e13, e14, e15]
theorem flat_sl (t : Tr) : flat (selG t 0 0 slK) = slL (slV t) := rfl
section
variable (s : St) (S : HS) (a1 : Option Addr) (n c : Nat) (at_ : BitVec 64) (cy pick : Int)
set_option maxHeartbeats 4000000 in
theorem bcut_same : (begT s S (a1, n, c) at_ cy pick).cut allF = (bT s S at_ pick).cutR allF := by kernel_rfl
theorem sl_same : slV (begT s S (a1, n, c) at_ cy pick) = slV (bT s S at_ pick) := sl_of (bcut_same s S a1 n c at_ cy pick)
theorem bm_same : (begT s S (a1, n, c) at_ cy pick).theM S = (bT s S at_ pick).theM S := theM_all (bcut_same s S a1 n c at_ cy pick) S
set_option maxHeartbeats 4000000 in
theorem bn_same : (begT s S (a1, n, c) at_ cy pick).needB = (bT s S at_ pick).needB := nd_same (by kernel_rfl)
end
theorem begins_ok (P : Nat) (s : St) (S : HS) (a : Option Addr × Nat × Nat) (at_ : BitVec 64) (cy : Int) (l : List SlV) (pick : Int) (hn : (bT s S at_ pick).needB = true) : BeginsOk P s S a at_ cy l pick (slV (bT s S at_ pick)) ((bT s S at_ pick).theM S) := by
  obtain ⟨a1, n, c⟩ := a
  intro w G F h
  rw [← bn_same s S a1 n c at_ cy pick] at hn
  rw [← sl_same s S a1 n c at_ cy pick, ← bm_same s S a1 n c at_ cy pick]
  obtain ⟨_, hT⟩ := FnXE_ok.specM 49 [.p 0 0, .d (.s (.x false (.int .i64 pick)))] (pipH s S (a1, n, c) none at_ false cy) (begT s S (a1, n, c) at_ cy pick).needB (.d (.g (selG (begT s S (a1, n, c) at_ cy pick) 0 0 slK))) ((begT s S (a1, n, c) at_ cy pick).theM S) (by kernel_rfl) hn
  generalize begT s S (a1, n, c) at_ cy pick = t at *
  refine (hT _ _ _ w [.pointer (some ⟨P, 0, none⟩), .int .i64 pick] (FRel.cons ⟨P, rfl, rfl⟩ (FRel.cons rfl ⟨rfl, fun i av hi => by cases hi⟩)) h.mrel).mono ?_
  rintro e w' ⟨v, rfl, hv, M'⟩
  have hv' : v = .agg (flat (selG t 0 0 slK)).toArray := hv
  refine ⟨by rw [hv', flat_sl], ?_⟩
  exact h.back M' rfl rfl rfl rfl (flat_pipCh ..) h.len h.sl h.nxt
theorem does_any (P : Nat) (s : St) (S : HS) (a : Option Addr × Nat × Nat) (nx : Option Addr) (at_ : BitVec 64) (stops : Bool) (cy : Int) (x : SlV) (l : List SlV) (nv : Option SlV) (line : Bool) (ha : a.2.1 = l.length + 1) (hl : l.length < 4) (hn : (dT s S at_ stops x line).needB = true) : (doesT s S a nx at_ stops cy x line).needB = true := by
  obtain ⟨a1, n, c⟩ := a
  have ha' : n = l.length + 1 := ha
  have h4 : n = 1 ∨ n = 2 ∨ n = 3 ∨ n = 4 := by omega
  rcases h4 with rfl | rfl | rfl | rfl
  · rw [n_same1]; exact hn
  · rw [n_same2]; exact hn
  · rw [n_same3]; exact hn
  · rw [n_same4]; exact hn
noncomputable def retS (S : HS) (s : St) : HS := { bus := { S.bus with t := s.done }, tl := S.tl, b := S.b, p := S.p, t := S.t }
noncomputable def afterV (V : PipV) (S : HS) (x : SlV) (l : List SlV) (line : Bool) : PipV :=
  bif flT (dT V.s (retS S V.s) V.at_ V.stops x line) then ⟨stT (dT V.s (retS S V.s) V.at_ V.stops x line), [], none, (stT (dT V.s (retS S V.s) V.at_ V.stops x line)).pc, false⟩
  else ⟨stT (dT V.s (retS S V.s) V.at_ V.stops x line), l, V.nv, V.at_, V.stops⟩
theorem retires_go (V : PipV) (S : HS) (x : SlV) (l : List SlV) (line : Bool) (hV : V.l = x :: l) (h3 : x.stage = 3) (h0 : x.left = 0) (hl : l.length < 4) (hn : (dT V.s (retS S V.s) V.at_ V.stops x line).needB = true) :
    Retires line V S (some { retV (dT V.s (retS S V.s) V.at_ V.stops x line) with line := line }) (afterV V S x l line) ((dT V.s (retS S V.s) V.at_ V.stops x line).theM (retS S V.s)) := by
  obtain ⟨s, l0, nv, at_, stops⟩ := V
  have hV' : l0 = x :: l := hV
  subst hV'
  rintro w G P ⟨F, ⟨a1, n, c⟩, nx, cy, h⟩
  have hlen : n = l.length + 1 := h.len.symm
  obtain ⟨L, off, rfl⟩ : ∃ L off, a1 = some ⟨L, off, none⟩ := by
    rcases h.sl with ⟨_, k, _⟩ | ⟨L, off, h1, _⟩
    · cases k
    · exact ⟨L, off, h1⟩
  have hd := does_ok P s (retS S s) (some ⟨L, off, none⟩, n, c) nx at_ stops cy x l nv line (does_any P s (retS S s) _ nx at_ stops cy x l nv line hlen hl hn) w G F
  rw [ret_same, st_same, fl_same, m_same] at hd
  clear hn
  dsimp only [afterV]
  generalize dT s (retS S s) at_ stops x line = t at hd ⊢
  refine (retires_run h h3 h0 line hd).mono ?_
  rintro e w' ⟨k, G', F', rfl, h1, h2, h3, h4, h5, h6, h7⟩
  refine ⟨G', ⟨_, rfl, k, rfl, h1, h2, h3⟩, ?_, ⟨h5, h6, h7⟩⟩
  revert h4
  generalize flT t = fl
  cases fl with
  | true => exact fun h4 => ⟨F', _, _, _, h4⟩
  | false => exact fun h4 => ⟨F', _, _, _, h4⟩
theorem retires_not (V : PipV) (S : HS) (x : SlV) (l : List SlV) (line : Bool) (hV : V.l = x :: l) (hx : (x.stage != 3) = true ∨ decide (0 < x.left) = true) : Retires line V S none V S := by
  obtain ⟨s, l0, nv, at_, stops⟩ := V
  have hV' : l0 = x :: l := hV
  subst hV'
  rintro w G P ⟨F, ⟨a1, n, c⟩, nx, cy, h⟩
  obtain ⟨L, off, rfl⟩ : ∃ L off, a1 = some ⟨L, off, none⟩ := by
    rcases h.sl with ⟨_, k, _⟩ | ⟨L, off, h1, _⟩
    · cases k
    · exact ⟨L, off, h1⟩
  refine (retires_nil h hx line).mono ?_
  rintro e w' ⟨rfl, hb⟩
  exact ⟨G, ⟨_, rfl, rfl⟩, ⟨F, _, _, _, h.below hb⟩, Went.below hb⟩
end Go.Proofs.YtfehilinnalflaaGreat
