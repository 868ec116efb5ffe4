/- The bus's consoles: a row in a port is turned; Read of a console; no condition but the state. -/
import Derived.Test.YtkjbhjmjfacjcaaBusC
import Derived.Test.YtkjbhjmjfacjcaaRows8
namespace Go.Proofs.Ytkjbhjmjfacjcaa
open Go.RowKit Go.BigFrame
set_option linter.unusedSimpArgs false
set_option linter.unusedVariables false
set_option maxRecDepth 100000

def updN {α : Type} (f : Nat → α) (i : Nat) (a : α) : Nat → α := fun j => if j = i then a else f j
theorem updN_same {α : Type} (f : Nat → α) (i : Nat) (a : α) : updN f i a i = a := by unfold updN; rw [if_pos rfl]
theorem updN_other {α : Type} (f : Nat → α) (i j : Nat) (a : α) (h : j ≠ i) : updN f i a j = f j := by unfold updN; rw [if_neg h]
/-- The cell of a row. -/
def cellOf (i : Nat) : Nat := 3 + 3 * (i / 2) + i % 2
theorem bus_set (p : Nat) (t al : BitVec 64) (vs : Nat → Value) (ns : Nat → Int) (i : Nat) (hi : i < 8) (v : Value) : (busA p t al vs ns).set! (cellOf i) v = busA p t al (updN vs i v) ns := by
  have h : i = 0 ∨ i = 1 ∨ i = 2 ∨ i = 3 ∨ i = 4 ∨ i = 5 ∨ i = 6 ∨ i = 7 := by omega
  rcases h with rfl | rfl | rfl | rfl | rfl | rfl | rfl | rfl <;> rfl
theorem bus_typed (p : Nat) (t al : BitVec 64) (vs : Nat → Value) (ns : Nat → Int) (i : Nat) (hi : i < 4) (n : Int) : (busA p t al vs ns).set! (3 + 3 * i + 2) (.int .i64 n) = busA p t al vs (updN ns i n) := by
  have h : i = 0 ∨ i = 1 ∨ i = 2 ∨ i = 3 := by omega
  rcases h with rfl | rfl | rfl | rfl <;> rfl
theorem IsBus.crow {w : World} {B b p g : Nat} {ks : Nat → Option Nat} {vs : Nat → Value} {S : BusV} (h : IsBus w B b p g ks vs S) (i : Nat) (hi : i < 8) : w.cell? ⟨b, cellOf i, none⟩ = some (vs i) := by
  rw [h.cell]
  have h : i = 0 ∨ i = 1 ∨ i = 2 ∨ i = 3 ∨ i = 4 ∨ i = 5 ∨ i = 6 ∨ i = 7 := by omega
  rcases h with rfl | rfl | rfl | rfl | rfl | rfl | rfl | rfl <;> rfl
theorem IsBus.ctyped {w : World} {B b p g : Nat} {ks : Nat → Option Nat} {vs : Nat → Value} {S : BusV} (h : IsBus w B b p g ks vs S) (i : Nat) (hi : i < 4) : w.cell? ⟨b, 3 + 3 * i + 2, none⟩ = some (.int .i64 (S.ns i)) := by
  rw [h.cell]
  have h : i = 0 ∨ i = 1 ∨ i = 2 ∨ i = 3 := by omega
  rcases h with rfl | rfl | rfl | rfl <;> rfl
/-- A row in a port is turned, and its cell. -/
theorem IsBus.turn_row {w w1 : World} {B b p g : Nat} {ks : Nat → Option Nat} {vs : Nat → Value} {S : BusV} (h : IsBus w B b p g ks vs S) (i : Nat) (hi : i < 8) (k' : Option Nat) (v' : Value) (l' : List UInt8)
    (u : UpdK w w1 (ks i)) (hr : RowAt w1 B k' v' l') (hk : k' = ks i ∨ k' = none ∨ ∃ q, k' = some q ∧ w.heap.size ≤ q) :
    IsBus (w1.setCell ⟨b, cellOf i, none⟩ v') B b p g (updN ks i k') (updN vs i v') { S with ls := updN S.ls i l', nil := updN S.nil i false } := by
  have hbl := blk_lt h.blk
  have hpl := h.mem.p_lt
  have hgl := h.mem.g_lt
  have hb1 : w1.heap[b]? = some (.cells (busA p S.t S.al vs S.ns) 100 (0, 0)) := by rw [u.block b hbl (fun e => (h.far i hi).2.1 e)]; exact h.blk
  have hnew : ∀ q, k' = some q → q ≠ b ∧ q ≠ p ∧ q ≠ g := by
    intro q hq
    rcases hk with e | e | ⟨q', e, hq'⟩
    · rw [e] at hq
      have hf := h.far i hi
      exact ⟨fun e => hf.2.1 (by rw [hq, e]), fun e => hf.2.2 (by rw [hq, e]), fun e => hf.1 (by rw [hq, e])⟩
    · rw [e] at hq; cases hq
    · rw [e] at hq; cases hq; exact ⟨by omega, by omega, by omega⟩
  have hold : ∀ j, j < 8 → ∀ q, ks j = some q → q < w.heap.size := fun j hj q hq => by have hr := h.row j hj; rw [hq] at hr; exact hr.lt
  refine ⟨?_, ?_, ?_, ?_, ?_, h.lb, h.lp, h.lg, h.bp, h.bg, fun j hj e => ?_⟩
  · rw [set_block hb1 (by unfold cellOf; show _ < 15; omega), bus_set _ _ _ _ _ i hi]
  · obtain ⟨r, m1, m2⟩ := h.mem
    exact ⟨r, by rw [set_other _ _ _ _ _ (fun e => h.bp e.symm), u.block p hpl (fun e => (h.far i hi).2.2 e)]; exact m1, by rw [set_other _ _ _ _ _ (fun e => h.bg e.symm), u.block g hgl (fun e => (h.far i hi).1 e)]; exact m2⟩
  · intro j hj
    by_cases c : j = i
    · subst c
      rw [updN_same, updN_same]
      show RowAt _ B k' v' (updN S.ls j l' j)
      rw [updN_same]
      exact hr.same fun q hq _ => set_other _ _ _ _ _ (hnew q hq).1
    · rw [updN_other _ _ _ _ c, updN_other _ _ _ _ c]
      show RowAt _ B (ks j) (vs j) (updN S.ls i l' j)
      rw [updN_other _ _ _ _ c]
      refine (h.row j hj).same fun q hq hql => ?_
      rw [set_other _ _ _ _ _ (fun e => (h.far j hj).2.1 (by rw [hq, e])), u.block q hql]
      intro e
      exact c (h.dis j i q hj hi hq e)
  · intro a c q ha hc h1 h2
    by_cases ca : a = i
    · by_cases cc : c = i
      · rw [ca, cc]
      · exfalso
        subst ca
        rw [updN_same] at h1
        rw [updN_other _ _ _ _ cc] at h2
        rcases hk with e | e | ⟨q', e, hq'⟩
        · rw [e] at h1; exact cc (h.dis c a q hc ha h2 h1)
        · rw [e] at h1; cases h1
        · rw [e] at h1; cases h1; have := hold c hc _ h2; omega
    · by_cases cc : c = i
      · exfalso
        subst cc
        rw [updN_same] at h2
        rw [updN_other _ _ _ _ ca] at h1
        rcases hk with e | e | ⟨q', e, hq'⟩
        · rw [e] at h2; exact ca (h.dis a c q ha hc h1 h2)
        · rw [e] at h2; cases h2
        · rw [e] at h2; cases h2; have := hold a ha _ h1; omega
      · rw [updN_other _ _ _ _ ca] at h1
        rw [updN_other _ _ _ _ cc] at h2
        exact h.dis a c q ha hc h1 h2
  · intro j hj
    by_cases c : j = i
    · subst c
      rw [updN_same]
      exact ⟨fun e => (hnew _ e).2.2 rfl, fun e => (hnew _ e).1 rfl, fun e => (hnew _ e).2.1 rfl⟩
    · rw [updN_other _ _ _ _ c]; exact h.far j hj
  · by_cases c : j = i
    · subst c
      have e : updN S.nil j false j = true := e
      rw [updN_same] at e; cases e
    · have e : updN S.nil i false j = true := e
      rw [updN_other _ _ _ _ c] at e ⊢
      exact h.nl j hj e
/-- A row without its first bytes. -/
theorem row_drop {w : World} {B : Nat} {k : Option Nat} {v : Value} {l : List UInt8} (h : RowAt w B k v l) (lo : Nat) (hlo : lo ≤ l.length) (kk : IntKind) :
    ∃ v', (∀ W, (Instr.slice 40 v (some (.int kk (lo : Int))) none none).run Try.prog W = .ok v' W) ∧ RowAt w B k v' (l.drop lo) := by
  have ht : Try.prog.underlying 40 = some (.slice (Try.prog.elem 40)) := by kernel_rfl
  have hz : ∀ W, (sizeOf (Try.prog.elem 40)).run Try.prog W = .ok 1 W := fun _ => by kernel_rfl
  cases k with
  | none =>
    obtain ⟨rfl, rfl⟩ := h
    have : lo = 0 := by simpa using hlo
    subst this
    refine ⟨.slice none 0 0, fun W => ?_, ⟨rfl, rfl⟩⟩
    rw [run_slice_l (P := Try.prog) W 40 none 0 0 ht kk ((0 : Nat) : Int) (by omega) (by omega), hz]
    rfl
  | some g =>
    obtain ⟨o, cap, pre, rest, rfl, hg, ho, hc1, hc2, hBg, hmx⟩ := h
    by_cases hc : cap = lo
    · refine ⟨.slice (some ⟨g, o, none⟩) (l.length - lo) (cap - lo), fun W => ?_, o, cap - lo, pre, l ++ rest, ?_, ?_, ho, ?_, ?_, hBg, by omega⟩
      · rw [run_slice_l (P := Try.prog) W 40 (some ⟨g, o, none⟩) l.length cap ht kk lo (by omega) (by omega), hz]
        simp only [Result.andThen, sliced, Int.toNat_natCast]
        rw [if_pos hc]
      · rw [List.length_drop]
      · rw [hg, List.drop_eq_nil_of_le (by omega), List.append_nil, List.append_assoc]
      · omega
      · rw [List.length_drop]; omega
    · refine ⟨.slice (some ⟨g, o + lo, none⟩) (l.length - lo) (cap - lo), fun W => ?_, o + lo, cap - lo, pre ++ l.take lo, rest, ?_, ?_, ?_, ?_, ?_, hBg, by omega⟩
      · rw [run_slice_l (P := Try.prog) W 40 (some ⟨g, o, none⟩) l.length cap ht kk lo (by omega) (by omega), hz]
        simp only [Result.andThen, sliced, Int.toNat_natCast]
        rw [if_neg hc]
        congr 1
        by_cases h0 : lo = 0
        · subst h0; rfl
        · simp [Addr.add, h0]
      · rw [List.length_drop]
      · rw [hg]; congr 3; rw [List.append_assoc pre (l.take lo), List.take_append_drop]
      · rw [List.length_append, List.length_take, ho]; omega
      · rw [List.length_drop]; omega
      · rw [List.length_drop]; omega
theorem RowAt.shape {w : World} {B : Nat} {k : Option Nat} {v : Value} {l : List UInt8} (h : RowAt w B k v l) : ∃ a c, v = .slice a l.length c := by
  cases k with
  | none => obtain ⟨rfl, rfl⟩ := h; exact ⟨_, _, rfl⟩
  | some g => obtain ⟨o, cap, pre, rest, rfl, _⟩ := h; exact ⟨_, _, rfl⟩
theorem con_lt {a : BitVec 64} {n : Int} {k : Nat} (h : conOf a n = some k) : k < 4 ∧ n = 1 ∧ a.toNat = 61696 + 256 * k := by
  unfold conOf at h
  by_cases c : n = 1 ∧ 61696 ≤ a.toNat ∧ (a.toNat - 61696) % 256 = 0 ∧ (a.toNat - 61696) / 256 < 4
  · rw [if_pos c] at h; cases h; omega
  · rw [if_neg c] at h; cases h
end Go.Proofs.Ytkjbhjmjfacjcaa
