/- Worlds with at most new blocks, as a class; regions that draw; strings of words. -/
import Derived.BigQuiet
import Derived.Test.YtkjbhjmjfacjcaaOpen
namespace Go.Proofs.Ytkjbhjmjfacjcaa
open Go.RowKit Go.BigFrame
set_option linter.unusedSimpArgs false
set_option linter.unusedVariables false
set_option maxRecDepth 100000

/-- A world behind w: at most new blocks. -/
structure Beyond (w : World) where
  to : World
  ok : Below w.heap.size w to
instance (w : World) : Inhabited (Beyond w) := ⟨⟨w, Below.refl _ _⟩⟩
theorem Gives.at_ {P : Program} {f : FuncId} {args : Array Value} {v : Value} {W : World} (h : Gives P f args v) (s : Beyond W) :
    Calls P f args s.to fun e w'' => e = .returned v ∧ ∃ s' : Beyond W, w'' = s'.to :=
  (h.on s.ok).mono fun e w'' ⟨he, hb⟩ => ⟨he, ⟨w'', hb⟩, rfl⟩
/-- A region that draws its order, whose calls make at most new blocks: one walk serves every order. -/
theorem wp_region_below {P : Program} {id : Nat} {Q : Exit → Act → World → Prop} {a : Act} {W w : World} {l : List Oper} (hm : P.follows .mixedOrders = true) (hB : Region.lexB .any l.toArray = true)
    (HB : Below W.heap.size W w)
    (h : wpQuiet P l.toArray (fun w' => ∃ s : Beyond W, w' = s.to) (fun a' => ∀ w', Below W.heap.size W w' → Q .normal a' w') l a) : (Code.region id l.toArray true).wp P Q a w :=
  wp_region_quiet (C := fun w' => ∃ s : Beyond W, w' = s.to) hm hB ⟨⟨_, HB.drew⟩, rfl⟩ (by
    have e : ∀ (Q1 Q2 : Act → Prop) (l2 : List Oper) (a : Act), (∀ a, Q1 a → Q2 a) → wpQuiet P l.toArray (fun w' => ∃ s : Beyond W, w' = s.to) Q1 l2 a → wpQuiet P l.toArray (fun w' => ∃ s : Beyond W, w' = s.to) Q2 l2 a := by
      intro Q1 Q2 l2
      induction l2 with
      | nil => intro a hq h; exact hq a h
      | cons o rest ih =>
        intro a hq h
        by_cases c : Region.wanted o (yielded l.toArray a.tmps) = true
        · simp only [wpQuiet, if_pos c] at h ⊢; exact Oper.quiet_mono (fun a ha => ih a hq ha) h
        · simp only [wpQuiet, if_neg c] at h ⊢; exact ih _ hq h
    exact e (fun a' => ∀ w', Below W.heap.size W w' → Q .normal a' w') _ _ _ (fun a' ha w' ⟨s, hs⟩ => by subst hs; exact ha _ s.ok) (by simpa using h))

theorem bytes_take (v : BitVec 64) (m : Nat) (hm : m ≤ 8) : (bytesB v 8).extract 0 m = bytesB v m := by
  have e : ∀ (a b : ByteArray), a.data.toList = b.data.toList → a = b := by
    intro a b h; cases a; cases b; simp at h; simp [h]
  apply e
  rw [ByteArray.data_extract, Array.toList_extract, List.extract_eq_take_drop]
  simp only [bytesB]
  unfold bytesL
  rw [Nat.sub_zero, List.drop_zero, List.take_take, Nat.min_eq_left hm]
theorem bytes_len (v : BitVec 64) (m : Nat) (hm : m ≤ 8) : (bytesB v m).size = m := by
  show (bytesL v m).toArray.size = m
  rw [List.size_toArray, bytesL_length v m hm]

end Go.Proofs.Ytkjbhjmjfacjcaa
