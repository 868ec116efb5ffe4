/- The bus's contracts with its blocks named: what turned, where the rows lie; no condition but the state. -/
import Derived.Test.YtkjbhjmjfacjcaaBusG
import Derived.Test.YtkjbhjmjfacjcaaBusCopyB
namespace Go.Proofs.Ytkjbhjmjfacjcaa
open Go.RowKit Go.BigFrame
set_option linter.unusedSimpArgs false
set_option linter.unusedVariables false
set_option maxRecDepth 100000

/-- The bus has turned; of what was there only its own blocks have. -/
structure Turned (w w' : World) (B b p g : Nat) (ks : Nat → Option Nat) (S' : BusV) : Prop where
  bus : ∃ ks' vs', IsBus w' B b p g ks' vs' S' ∧ ∀ i, i < 8 → ks' i = ks i ∨ ks' i = none ∨ ∃ q, ks' i = some q ∧ w.heap.size ≤ q
  os : w'.os = w.os
  tape : w'.tape = w.tape
  output : w'.output = w.output
  size : w.heap.size ≤ w'.heap.size
  block : ∀ j, j < w.heap.size → j ≠ b → j ≠ g → (∀ i, i < 8 → ks i ≠ some j) → w'.heap[j]? = w.heap[j]?
theorem Turned.upd {w w' : World} {B b p g k : Nat} {ks : Nat → Option Nat} {vs : Nat → Value} {S' : BusV} (u : Upd w w' k) (hk : k = b ∨ k = g) (h : IsBus w' B b p g ks vs S') : Turned w w' B b p g ks S' :=
  ⟨⟨ks, vs, h, fun _ _ => .inl rfl⟩, u.os, u.tape, u.output, u.size, fun j hj h1 h2 _ => u.block j hj (by rcases hk with rfl | rfl <;> assumption)⟩
theorem Turned.below {w w' : World} {B b p g : Nat} {ks : Nat → Option Nat} {vs : Nat → Value} {S : BusV} (u : Below w.heap.size w w') (h : IsBus w B b p g ks vs S) : Turned w w' B b p g ks S :=
  .upd (Upd.of_below u b) (.inl rfl) (h.below u)
theorem Turned.trans_below {w w1 w' : World} {B b p g : Nat} {ks : Nat → Option Nat} {S : BusV} (t : Turned w w1 B b p g ks S) (u : Below w1.heap.size w1 w') : Turned w w' B b p g ks S := by
  obtain ⟨ks', vs', h, hk⟩ := t.bus
  exact ⟨⟨ks', vs', h.below u, hk⟩, u.os.trans t.os, u.tape.trans t.tape, u.output.trans t.output, Nat.le_trans t.size u.size, fun j hj h1 h2 h3 => (u.block j (Nat.lt_of_lt_of_le hj t.size)).trans (t.block j hj h1 h2 h3)⟩
theorem twrite_mem (b B p g : Nat) (ks : Nat → Option Nat) (vs : Nat → Value) (S : BusV) (a : BitVec 64) (n : Int) (x : BitVec 64) (w : World) (h : IsBus w B b p g ks vs S) (hc : conOf a n = none) (h2 : ¬ (a.toNat = 61448 ∧ n = 8)) :
    Calls Try.prog 28 #[.pointer (some ⟨b, 0, none⟩), U a, .int .i64 n, U x] w fun e w' => e = .returned (.bool (codeOf a n == 0)) ∧ Turned w w' B b p g ks { S with f := wrF S.f a n x } := by
  have hp := h.c0
  have kc := bcon b a n w
  rw [hc] at kc
  have kr := write_all a n x w h.mem
  have H := Lib.hid h
  generalize wrF S.f a n x = f' at *
  have e2 : (((a.toNat : Int) == 61448) && (n == 8)) = false := by rw [Bool.eq_false_iff]; intro e; rw [Bool.and_eq_true, beq_iff_eq, beq_iff_eq] at e; omega
  generalize hb2 : ((a.toNat : Int) == 61448) = b2 at *
  generalize hb3 : (n == 8) = b3 at *
  generalize codeOf a n = c at *
  clear h h2 hc
  go_enter Try.func28, Try.ntmps28
  cases b2 <;> cases b3 <;> first
    | (exact absurd e2 (by decide))
    | (go_wp2_with fail
       (with_reducible refine kc.mono ?_)
       rintro e w1 ⟨rfl, rfl⟩
       go_wp2_with fail
       (with_reducible refine kr.mono ?_)
       rintro e w2 ⟨rfl, hu, hM⟩
       go_wp2
       go_ret
       exact ⟨rfl, Turned.upd hu (.inr rfl) (H.out.mem_turn hu hM)⟩)
set_option maxHeartbeats 2000000 in
theorem twrite_con (b B p g k : Nat) (ks : Nat → Option Nat) (vs : Nat → Value) (S : BusV) (a x : BitVec 64) (w : World) (h : IsBus w B b p g ks vs S) (hc : conOf a 1 = some k) (hB : B ≤ w.heap.size) (hl : (S.ls (2 * k + 1)).length ≤ 64) :
    Calls Try.prog 28 #[.pointer (some ⟨b, 0, none⟩), U a, .int .i64 1, U x] w fun e w' => e = .returned (.bool true) ∧
      Turned w w' B b p g ks { S with ls := updN S.ls (2 * k + 1) (last64 (S.ls (2 * k + 1) ++ [UInt8.ofNat x.toNat])), nil := updN S.nil (2 * k + 1) false } := by
  obtain ⟨hk, _, ha⟩ := con_lt hc
  have kc := bcon b a 1 w
  rw [hc] at kc
  have co : cellOf (2 * k + 1) = 3 + 3 * k + 1 := by unfold cellOf; omega
  obtain ⟨xb, hxb⟩ : ∃ xb : UInt8, xb = UInt8.ofNat x.toNat := ⟨_, rfl⟩
  have hxw : IntKind.u8.wrap (x.toNat : Int) = (xb.toNat : Int) := by rw [hxb]; simp [go_sem, IntKind.wrap, IntKind.signed, IntKind.bits]
  have ci := h.crow (2 * k + 1) (by omega)
  have fr := h.free (3 + 3 * k + 1)
  rw [co] at ci
  have hrow := h.row (2 * k + 1) (by omega)
  rw [← hxb]
  have hbl := blk_lt h.blk
  -- the new slice of one byte, and the append
  have hW0 : Below w.heap.size w (w.alloc (.cells #[.int .u8 (xb.toNat : Int)] 5)) := (Below.refl _ _).alloc (Nat.le_refl _) _
  have hI := h.below hW0
  have hnew : (w.alloc (.cells #[.int .u8 (xb.toNat : Int)] 5)).cell? ⟨w.heap.size, 0, none⟩ = some (.int .u8 (xb.toNat : Int)) := by rw [World.cell?_alloc_at _ _ _ _ rfl]; rfl
  have hWs : (w.alloc (.cells #[.int .u8 (xb.toNat : Int)] 5)).heap.size = w.heap.size + 1 := by simp
  obtain ⟨W, hW⟩ : ∃ W, W = w.alloc (.cells #[.int .u8 (xb.toNat : Int)] 5) := ⟨_, rfl⟩
  rw [← hW] at hW0 hI hnew hWs
  obtain ⟨v1, k1, w1, hap, hr1, hu1, hk1⟩ := append_row (hI.row (2 * k + 1) (by omega)) (by omega) 40 (.slice (some ⟨w.heap.size, 0, none⟩) 1 1) [xb]
    (Src.ofSlice (P := Try.prog) W Try.underlying40 ⟨w.heap.size, 0, none⟩ 1 1 _ rfl (by
      intro j u hj
      match j, hj with
      | 0, hj => simp at hj; subst hj; simpa [Addr.add] using hnew) (by intro u hu; simp at hu; subst hu; rfl)) (by simp; omega)
  rw [hW] at hap
  have T1 := hI.turn_row (2 * k + 1) (by omega) k1 v1 _ hu1 hr1 (hk1.elim .inl fun e => .inr (.inr ⟨_, e, Nat.le_refl _⟩))
  rw [co] at T1
  obtain ⟨v2, hsl, hr2⟩ := row_drop hr1 ((S.ls (2 * k + 1) ++ [xb]).length - 64) (by omega) .i64
  have hsz1 := hu1.size
  have hkb : ks (2 * k + 1) ≠ some b := (h.far (2 * k + 1) (by omega)).2.1
  have hbW : b < W.heap.size := by omega
  have cw1 : w1.cell? ⟨b, 3 + 3 * k + 1, none⟩ = some (vs (2 * k + 1)) := (World.cell?_of_block (a := ⟨b, 3 + 3 * k + 1, none⟩) (hu1.block b hbW hkb)).trans (by have := hI.crow (2 * k + 1) (by omega); rw [co] at this; exact this)
  have fw1 : w1.frozen? ⟨b, 3 + 3 * k + 1, none⟩ = false := (World.frozen?_of_block (a := ⟨b, 3 + 3 * k + 1, none⟩) (hu1.block b hbW hkb)).trans (hI.free _)
  have c2 := T1.crow (2 * k + 1) (by omega)
  rw [co, updN_same] at c2
  have f2 := T1.free (3 + 3 * k + 1)
  have hkB : ∀ q, ks (2 * k + 1) = some q → B ≤ q := fun q hq => by have := h.row (2 * k + 1) (by omega); rw [hq] at this; obtain ⟨_, _, _, _, _, _, _, _, _, hh, _⟩ := this; exact hh
  have b1 : Below B w (w1.setCell ⟨b, 3 + 3 * k + 1, none⟩ v1) := (hW0.mono hB).trans (hu1.trans_set h.lb hkB (by omega))
  have fin : ∀ j, Turned w (((w1.setCell ⟨b, 3 + 3 * k + 1, none⟩ v1).drewN j).setCell ⟨b, 3 + 3 * k + 1, none⟩ v2) B b p g ks { S with ls := updN S.ls (2 * k + 1) (last64 (S.ls (2 * k + 1) ++ [xb])), nil := updN S.nil (2 * k + 1) false } := by
    intro j
    have T2 := (T1.below (Below.of_drew j))
    have T3 := T2.turn_row (2 * k + 1) (by omega) k1 v2 (last64 (S.ls (2 * k + 1) ++ [xb])) ⟨rfl, rfl, rfl, Nat.le_refl _, fun _ _ _ => rfl⟩ (hr2.same fun q hq hql => by
      show (w1.setCell _ _).heap[q]? = _
      exact set_other _ _ _ _ _ (fun e => by
        have := (T1.far (2 * k + 1) (by omega)).2.1
        rw [updN_same] at this
        exact this (by rw [hq, e]))) (.inl (updN_same _ _ _).symm)
    rw [co] at T3
    have hs2 : w.heap.size ≤ (w1.setCell ⟨b, 3 + 3 * k + 1, none⟩ v1).heap.size := by
      have : (w1.setCell ⟨b, 3 + 3 * k + 1, none⟩ v1).heap.size = w1.heap.size := by show (w1.heap.modify b _).size = _; simp
      omega
    have hB2 : Below B w (((w1.setCell ⟨b, 3 + 3 * k + 1, none⟩ v1).drewN j).setCell ⟨b, 3 + 3 * k + 1, none⟩ v2) :=
      Upd.below (b1.trans ((Below.of_drew j).mono (by omega))) (set_upd _ _ _ _) (by show B ≤ (w1.setCell _ _).heap.size; omega) h.lb
    have e : updN (updN S.ls (2 * k + 1) (S.ls (2 * k + 1) ++ [xb])) (2 * k + 1) (last64 (S.ls (2 * k + 1) ++ [xb])) = updN S.ls (2 * k + 1) (last64 (S.ls (2 * k + 1) ++ [xb])) := by
      funext i; unfold updN; split <;> rfl
    have e' : updN (updN S.nil (2 * k + 1) false) (2 * k + 1) false = updN S.nil (2 * k + 1) false := by
      funext i; unfold updN; split <;> rfl
    simp only [e, e'] at T3
    have hs3 : (((w1.setCell ⟨b, 3 + 3 * k + 1, none⟩ v1).drewN j).setCell ⟨b, 3 + 3 * k + 1, none⟩ v2).heap.size = (w1.setCell ⟨b, 3 + 3 * k + 1, none⟩ v1).heap.size := by show ((w1.setCell _ _).heap.modify b _).size = _; simp
    refine ⟨⟨_, _, T3, ?_⟩, hB2.os, hB2.tape, hB2.output, by omega, ?_⟩
    · intro i hi
      by_cases c : i = 2 * k + 1
      · subst c
        rw [updN_same]
        rcases hk1 with e | e
        · exact .inl e
        · exact .inr (.inr ⟨_, e, by omega⟩)
      · rw [updN_other _ _ _ _ c, updN_other _ _ _ _ c]; exact .inl rfl
    · intro j' hj' n1 n2 n3
      rw [set_other _ _ _ _ _ n1]
      show (w1.setCell _ _).heap[j']? = _
      rw [set_other _ _ _ _ _ n1, hu1.block j' (by omega) (n3 (2 * k + 1) (by omega)), hW0.block j' hj']
  have FIN := Lib.hid fin
  obtain ⟨n1, hn1⟩ : ∃ n1, n1 = (S.ls (2 * k + 1) ++ [xb]).length := ⟨_, rfl⟩
  obtain ⟨a1, q1, hv1⟩ : ∃ a1 q1, v1 = .slice a1 n1 q1 := by rw [hn1]; exact hr1.shape
  obtain ⟨a2, m2, q2, hv2⟩ : ∃ a2 m2 q2, v2 = .slice a2 m2 q2 := by obtain ⟨x1, x2, x3⟩ := hr2.shape; exact ⟨_, _, _, x3⟩
  have hn1l : n1 ≤ 65 := by rw [hn1]; simp; omega
  rw [← hn1] at hsl
  have nw : IntKind.i64.wrap ((n1 : Int) - 64) = (n1 : Int) - 64 := IntWalk.i64_in _ ⟨by omega, by omega⟩
  have mx := fun W => max_run (P := Try.prog) #[3, 3] 3 .i64 ((n1 : Int) - 64) 0 ((n1 - 64 : Nat) : Int) (by split <;> omega) W
  obtain ⟨av, lv, cv, hv0⟩ : ∃ av lv cv, vs (2 * k + 1) = .slice av lv cv := by obtain ⟨x1, x2, x3⟩ := hrow.shape; exact ⟨_, _, _, x3⟩
  obtain ⟨t1, t2⟩ := at_con ha hk
  simp only [Option.map_some] at kc
  rw [hv0] at ci cw1 hap
  obtain ⟨yb, hyb⟩ : ∃ yb : Int, yb = (xb.toNat : Int) := ⟨_, rfl⟩
  rw [← hyb] at hxw hap
  obtain ⟨S', hS'⟩ : ∃ S', S' = { S with ls := updN S.ls (2 * k + 1) (last64 (S.ls (2 * k + 1) ++ [xb])), nil := updN S.nil (2 * k + 1) false } := ⟨_, rfl⟩
  rw [← hS'] at FIN ⊢
  generalize n1 - 64 = d at *
  generalize hO : 3 + 3 * k = o at *
  clear h hc hB hl hk ha co hrow hbl hW0 hI hnew hWs hr1 hu1 hk1 T1 hr2 hsz1 hkb hbW hkB b1 fin hn1 hn1l hO hS' hyb hW
  subst hv1 hv2
  go_enter Try.func28, Try.ntmps28
  go_wp2_with fail
  (with_reducible refine kc.mono ?_)
  rintro e w4 ⟨rfl, rfl⟩
  go_wp2_with (at_builtin; refine wpList_append_run rfl _ _ _ _ rfl _ _ rfl rfl _ _ hap ?_)
  go_region
  all_goals (try go_wp2)
  all_goals go_ret
  all_goals exact ⟨rfl, FIN.out 1⟩
end Go.Proofs.Ytkjbhjmjfacjcaa
