/- WalkLaid's plain law: pages laid one after the other are found, each; others aren't there; no condition but the numbers' bounds. -/
import Derived.Test.YtkjbhjmjfacjcaaPlain11
namespace Go.Proofs.Ytkjbhjmjfacjcaa
open Go.RowKit
set_option linter.unusedSimpArgs false
set_option linter.unusedVariables false
set_option maxRecDepth 100000

/-- A memory in whose first frame the pages of wv are laid. -/
structure LaidAs (f : Nat → UInt8) (wv : Nat → BitVec 64) : Prop where
  top : ∀ t, t < 16 → readF f (256 + 8 * t) 8 = 0#64 ∨ readF f (256 + 8 * t) 8 = mkB (2 + t) 1
  ent : ∀ q, q < 256 → readF f ((2 + q / 16) * 256 + q % 16 * 8) 8 = wv q
  val : ∀ q, q < 256 → wv q = 0#64 ∨ (∃ x, x < 128 ∧ wv q = mkB x 223) ∧ readF f (256 + 8 * (q / 16)) 8 = mkB (2 + q / 16) 1
theorem mk_page : ∀ x : Fin 128, leafB (mkB x.1 223) = true ∧ mkB x.1 223 ≠ 0#64 := by decide +kernel
theorem mk_top : ∀ t : Fin 16, isB (mkB (2 + t.1) 1) = true ∧ leafB (mkB (2 + t.1) 1) = false ∧ frameB (mkB (2 + t.1) 1) = 2 + t.1 ∧ mkB (2 + t.1) 1 ≠ 0#64 := by decide +kernel
theorem laid_zero : LaidAs (fun _ => 0) (fun _ => 0#64) :=
  ⟨fun _ _ => .inl (readF_zero _ _), fun _ _ => readF_zero _ _, fun _ _ => .inl rfl⟩
def updW (wv : Nat → BitVec 64) (q : Nat) (e : BitVec 64) : Nat → BitVec 64 := fun i => if i = q then e else wv i
theorem laid_step {f : Nat → UInt8} {wv : Nat → BitVec 64} (h : LaidAs f wv) (q x : Nat) (hq : q < 256) (hx : x < 128) : LaidAs (layV f 1 (2 + q / 16) q (mkB x 223)) (updW wv q (mkB x 223)) := by
  have et : (1 : Nat) * 256 + q / 16 * 8 = 256 + 8 * (q / 16) := by omega
  have top : ∀ t, t < 16 → readF (layV f 1 (2 + q / 16) q (mkB x 223)) (256 + 8 * t) 8 = if t = q / 16 then mkB (2 + t) 1 else readF f (256 + 8 * t) 8 := by
    intro t ht
    unfold layV
    rw [et]
    by_cases c : t = q / 16
    · rw [if_pos c, c, put_same]
    · rw [if_neg c, put_other _ _ _ _ (by omega), put_other _ _ _ _ (by omega)]
  have ent : ∀ i, i < 256 → readF (layV f 1 (2 + q / 16) q (mkB x 223)) ((2 + i / 16) * 256 + i % 16 * 8) 8 = updW wv q (mkB x 223) i := by
    intro i hi
    unfold layV updW
    rw [et, put_other _ _ _ _ (by omega)]
    by_cases c : i = q
    · rw [if_pos c, c, put_same]
    · rw [if_neg c, put_other _ _ _ _ (by omega)]; exact h.ent i hi
  refine ⟨fun t ht => ?_, ent, fun i hi => ?_⟩
  · rw [top t ht]
    by_cases c : t = q / 16
    · rw [if_pos c]; exact .inr rfl
    · rw [if_neg c]; exact h.top t ht
  · by_cases c : i = q
    · subst c
      refine .inr ⟨⟨x, hx, if_pos rfl⟩, ?_⟩
      rw [top _ (by omega), if_pos rfl]
    · rcases h.val i hi with e | ⟨e1, e2⟩
      · exact .inl ((if_neg c).trans e)
      · obtain ⟨y, hy, e1⟩ := e1
        refine .inr ⟨⟨y, hy, (if_neg c).trans e1⟩, ?_⟩
        rw [top _ (by omega)]
        by_cases d : i / 16 = q / 16
        · rw [if_pos d]
        · rw [if_neg d]; exact e2
theorem laid_walk {f : Nat → UInt8} {wv : Nat → BitVec 64} (h : LaidAs f wv) (q c : Nat) (hq : q < 256) (hc : c < 256) :
    walkV f 1 (BitVec.ofNat 64 (q * 256 + c)) = if wv q = 0#64 then (0#64, 1) else (wv q, 0) := by
  have ht : q / 16 < 16 := by omega
  obtain ⟨t1, t2, t3, t4⟩ := mk_top ⟨q / 16, ht⟩
  have hw := walk_one f (q / 16) (q % 16) c ht (by omega) hc _ rfl
  rw [show q / 16 * 4096 + q % 16 * 256 + c = q * 256 + c by omega] at hw
  rw [hw, show 256 + q / 16 * 8 = 256 + 8 * (q / 16) by omega]
  rcases h.val q hq with e | ⟨⟨x, hx, e1⟩, e2⟩
  · rw [if_pos e]
    rcases h.top (q / 16) ht with e2 | e2
    · rw [e2, if_pos (by decide)]
    · rw [e2, if_neg (by rw [t1]; decide), if_neg (by rw [t2]; decide), t3, if_neg (show ¬ 128 ≤ 2 + q / 16 by omega), h.ent q hq, e, if_neg (by decide)]
  · obtain ⟨l1, l2⟩ := mk_page ⟨x, hx⟩
    have l1 : leafB (wv q) = true := by rw [e1]; exact l1
    have l2 : wv q ≠ 0#64 := by rw [e1]; exact l2
    rw [if_neg l2, e2, if_neg (by rw [t1]; decide), if_neg (by rw [t2]; decide), t3, if_neg (show ¬ 128 ≤ 2 + q / 16 by omega), h.ent q hq, if_pos l1]
theorem laid_far (f : Nat → UInt8) : walkV f 1 65536#64 = (0#64, 1) := by
  unfold walkV; rw [if_pos (by decide)]
end Go.Proofs.Ytkjbhjmjfacjcaa
