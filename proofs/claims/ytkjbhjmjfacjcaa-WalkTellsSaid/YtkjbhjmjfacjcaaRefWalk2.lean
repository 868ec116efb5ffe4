/- The document's walk, whatever is asked; no condition but the memory's. -/
import Derived.Test.YtkjbhjmjfacjcaaRefWalk
namespace Go.Proofs.Ytkjbhjmjfacjcaa
open Go.RowKit Go.BigFrame
set_option linter.unusedSimpArgs false
set_option linter.unusedVariables false
set_option maxRecDepth 100000

theorem rwalk_all {p g : Nat} {f : Nat → UInt8} (root : Int) (at_ : BitVec 64) (w : World) (hM : IsMem w p g 85 f) :
    Calls Try.prog 17 #[.pointer (some ⟨p, 0, none⟩), .int .i64 root, U at_] w fun e w' => (∃ fr ta tl tc, e = .returned (.agg #[U (walkV f root at_).1, .int .i64 fr, .int .i64 (walkV f root at_).2, .slice ta tl tc])) ∧ Below w.heap.size w w' := by
  have k0 := bits_lt at_ 12 4 (by omega)
  have k1 := bits_lt at_ 8 4 (by omega)
  by_cases h1 : 65536 ≤ at_.toNat
  · refine (rwalk_far (p := p) (g := g) (f := f) root at_ w h1).mono ?_
    rintro e w' ⟨rfl, hb⟩
    refine ⟨⟨0, none, 0, 0, ?_⟩, hb⟩
    unfold walkV
    rw [if_pos h1]
    rfl
  have second : ∀ (n0 : BitVec 64) (W : World), ∃ c1, c1 = decide (frameB n0 < 128) := fun n0 W => ⟨_, rfl⟩
  by_cases h2 : root < 0 ∨ 128 ≤ root
  · refine (rwalk_near root at_ 0#64 (if frameB 0#64 < 128 then readF f (frameB 0#64 * 256 + (bitsB at_ 8 4).toNat * 8) 8 else 0#64) false (decide (frameB 0#64 < 128)) w hM (by omega)
      (fun W M => rentry_no root _ W M (by omega)) (fun W M => ?_) (0#64, 2) (by rw [if_pos rfl])).mono ?_
    · by_cases c : frameB 0#64 < 128
      · rw [if_pos c, decide_eq_true c]; exact rentry_yes _ _ W M c (by omega)
      · rw [if_neg c, decide_eq_false c]; exact rentry_no _ _ W M (by omega)
    · rintro e w' ⟨⟨fr, ta, tl, tc, rfl⟩, hb⟩
      refine ⟨⟨fr, ta, tl, tc, ?_⟩, hb⟩
      unfold walkV
      rw [if_neg h1, if_pos h2]
  obtain ⟨x, rfl⟩ : ∃ x : Nat, root = (x : Int) := ⟨root.toNat, by omega⟩
  obtain ⟨n0, hn0⟩ : ∃ n0, n0 = readF f (x * 256 + (bitsB at_ 12 4).toNat * 8) 8 := ⟨_, rfl⟩
  refine (rwalk_near (x : Int) at_ n0 (if frameB n0 < 128 then readF f (frameB n0 * 256 + (bitsB at_ 8 4).toNat * 8) 8 else 0#64) true (decide (frameB n0 < 128)) w hM (by omega)
    (fun W M => by rw [hn0]; exact rentry_yes x _ W M (by omega) (by omega)) (fun W M => ?_) (walkV f x at_) ?_)
  · by_cases c : frameB n0 < 128
    · rw [if_pos c, decide_eq_true c]; exact rentry_yes _ _ W M c (by omega)
    · rw [if_neg c, decide_eq_false c]; exact rentry_no _ _ W M (by omega)
  · unfold walkV
    rw [if_neg h1, if_neg h2, if_neg (show ¬ (true = false) by decide)]
    simp only [Int.toNat_natCast]
    rw [← hn0]
    by_cases i : isB n0 = false
    · rw [if_pos i, if_pos i]
    rw [if_neg i, if_neg i]
    by_cases l : leafB n0 = true
    · rw [if_pos l, if_pos l]
    rw [if_neg l, if_neg l]
    by_cases c : 128 ≤ frameB n0
    · rw [if_pos c, if_pos (decide_eq_false (by omega))]
    · have c' : frameB n0 < 128 := by omega
      rw [if_neg c, decide_eq_true c', if_neg (show ¬ (true = false) by decide), if_pos c']
end Go.Proofs.Ytkjbhjmjfacjcaa
