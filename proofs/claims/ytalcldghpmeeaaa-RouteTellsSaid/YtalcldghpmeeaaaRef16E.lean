/- The document's Exception; no condition but the arguments' own. -/
import Derived.Test.YtalcldghpmeeaaaRef16A
namespace Go.Proofs.Ytalcldghpmeeaaa
open Go.RowKit Go.BigFrame
set_option linter.unusedSimpArgs false
set_option linter.unusedVariables false
set_option maxRecDepth 100000

set_option maxHeartbeats 4000000 in
theorem rexc_b (S : St) (a : BitVec 64) : Gives Try.prog 10 #[.agg (stA S), U a] (.tuple #[.int .i64 (excV S a).1, .bool (excV S a).2]) := by
  intro w
  have sz := stA_size S
  have hs := HasSt.new w S
  have cl := hs.cell (stA_lev S)
  have cv := hs.cell (stA_v S)
  have c1 : (w.alloc (.cells (stA S) 26)).cell? ⟨w.heap.size, 36, none⟩ = _ := hs.cell (stA_c S 1 (by omega))
  have c17 : (w.alloc (.cells (stA S) 26)).cell? ⟨w.heap.size, 52, none⟩ = _ := hs.cell (stA_c S 17 (by omega))
  have hb : Below w.heap.size w (w.alloc (.cells (stA S) 26)) := (Below.refl _ _).alloc (Nat.le_refl _) _
  have HB := Lib.hid hb
  have dl : (S.lev == 3) = decide (S.lev = 3) := by rw [Bool.beq_eq_decide_eq]
  have s1 := shr_bit (S.c 1) a.toNat
  have s17 := shr_bit (S.c 17) a.toNat
  have m1 := shr_bit_min (S.c 1) a.toNat
  have m17 := shr_bit_min (S.c 17) a.toNat
  have da : (63 < (a.toNat : Int)) ↔ 64 ≤ a.toNat := by omega
  have hbig : 64 ≤ a.toNat → (S.c 1).getLsbD a.toNat = false := fun h => bit_high _ _ h
  unfold excV
  generalize S.v = v at *
  obtain ⟨lev, hlev⟩ : ∃ lev, lev = S.lev := ⟨_, rfl⟩
  rw [← hlev] at cl dl ⊢
  clear hs hb hlev
  by_cases hl : lev = 3
  · rw [if_pos (.inl hl)]
    subst hl
    clear s1 s17 m1 m17 da hbig
    go_enter Try.func10, Try.ntmps10
    go_wp2
    go_ret2
    exact ⟨rfl, HB.out⟩
  rw [decide_eq_false hl] at dl
  by_cases ha : 64 ≤ a.toNat
  · rw [if_pos (.inr (hbig ha))]
    have d : decide (63 < (a.toNat : Int)) = true := decide_eq_true (by omega)
    clear s1 s17 m1 m17 da hbig hl ha
    go_enter Try.func10, Try.ntmps10
    go_wp2
    go_ret2
    exact ⟨rfl, HB.out⟩
  have d : decide (63 < (a.toNat : Int)) = false := decide_eq_false (by omega)
  have hmin : min a.toNat 64 = a.toNat := by omega
  generalize (S.c 1).getLsbD a.toNat = b1 at *
  generalize (S.c 17).getLsbD a.toNat = b2 at *
  cases b1
  · rw [if_pos (.inr rfl)]
    clear s17 m17 da hbig hl ha
    go_enter Try.func10, Try.ntmps10
    go_wp2
    go_ret2
    exact ⟨rfl, HB.out⟩
  · rw [if_neg (by simp [hl])]
    clear da hbig hl ha
    have C17 := c17
    go_enter Try.func10, Try.ntmps10
    cases v
    · go_wp2
      go_region
      all_goals (try go_wp2)
      all_goals go_ret2
      all_goals exact ⟨rfl, HB.out.drew⟩
    · cases b2
      all_goals go_wp2
      all_goals go_region
      all_goals (try go_wp2)
      all_goals go_ret2
      all_goals exact ⟨rfl, HB.out.drew⟩
end Go.Proofs.Ytalcldghpmeeaaa
