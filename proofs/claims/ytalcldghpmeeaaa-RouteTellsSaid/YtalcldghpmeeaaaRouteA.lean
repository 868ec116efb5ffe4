/- route.has, Exception, Enabled; no condition but the arguments' own. -/
import Derived.Test.YtalcldghpmeeaaaCsr
namespace Go.Proofs.Ytalcldghpmeeaaa
open Go.RowKit Go.BigFrame
set_option linter.unusedSimpArgs false
set_option linter.unusedVariables false
set_option maxRecDepth 100000

theorem bit_high (v : BitVec 64) (k : Nat) (h : 64 ≤ k) : v.getLsbD k = false := BitVec.getLsbD_of_ge v k h
theorem has_b (S : St) (i : Nat) (a : BitVec 64) (h : i < 29) : Gives Try.prog 17 #[.agg (stA S), .int .i64 (i : Int), U a] (.bool ((S.c i).getLsbD a.toNat)) := by
  intro w
  have sz := stA_size S
  have c0 := (HasSt.new w S).cell (stA_c S i h)
  have hb : Below w.heap.size w (w.alloc (.cells (stA S) 26)) := (Below.refl _ _).alloc (Nat.le_refl _) _
  have HB := Lib.hid hb
  by_cases ha : a.toNat < 64
  · have d : decide ((a.toNat : Int) ≤ 63) = true := decide_eq_true (by omega)
    have s := bits_b (S.c i) (a.toNat : Int) 1
    rw [loOf_nat _ ha, nOf_one _ ha] at s
    have wa := i64_small a (by omega)
    have e2 := bit_one (S.c i) a.toNat
    rw [← e2]
    generalize bitsB (S.c i) a.toNat 1 = r at *
    have e := Lib.hid (u_beq r 1#64)
    clear hb e2 ha
    go_enter Try.func17, Try.ntmps17
    go_wp2_with fail
    (with_reducible refine (s.run _).mono ?_)
    rintro e' w' ⟨rfl, hb⟩
    go_wp2
    go_ret
    exact ⟨ret_b e.out, HBstep HB.out hb⟩
  · have d : decide ((a.toNat : Int) ≤ 63) = false := decide_eq_false (by omega)
    rw [bit_high _ _ (by omega)]
    clear hb ha
    go_enter Try.func17, Try.ntmps17
    go_wp2
    go_ret
    exact ⟨rfl, HB.out⟩
/-- Who takes a fault. -/
def excV (S : St) (a : BitVec 64) : Int × Bool :=
  if S.lev = 3 ∨ (S.c 1).getLsbD a.toNat = false then (3, false) else (1, S.v && (S.c 17).getLsbD a.toNat)
theorem exc_b (S : St) (a : BitVec 64) : Gives Try.prog 9 #[.agg (stA S), U a] (.tuple #[.int .i64 (excV S a).1, .bool (excV S a).2]) := by
  intro w
  have sz := stA_size S
  have hs := HasSt.new w S
  have cl := hs.cell (stA_lev S)
  have cv := hs.cell (stA_v S)
  have h1 : Gives Try.prog 17 #[.agg (stA S), .int .i64 1, U a] (.bool ((S.c 1).getLsbD a.toNat)) := has_b S 1 a (by omega)
  have h2 : Gives Try.prog 17 #[.agg (stA S), .int .i64 17, U a] (.bool ((S.c 17).getLsbD a.toNat)) := has_b S 17 a (by omega)
  have hb : Below w.heap.size w (w.alloc (.cells (stA S) 26)) := (Below.refl _ _).alloc (Nat.le_refl _) _
  have HS := Lib.hid hs
  have HB := Lib.hid hb
  have dl : (S.lev == 3) = decide (S.lev = 3) := by rw [Bool.beq_eq_decide_eq]
  unfold excV
  generalize (S.c 1).getLsbD a.toNat = b1 at *
  generalize (S.c 17).getLsbD a.toNat = b2 at *
  generalize S.v = v at *
  by_cases hl : S.lev = 3
  · rw [if_pos (.inl hl)]
    rw [decide_eq_true hl] at dl
    clear hs hb
    go_enter Try.func9, Try.ntmps9
    go_wp2
    go_ret2
    exact ⟨rfl, HB.out⟩
  · rw [decide_eq_false hl] at dl
    cases b1
    · rw [if_pos (.inr rfl)]
      clear hs hb hl
      go_enter Try.func9, Try.ntmps9
      go_wp2_with (first | (refine wpList_load_st HS.out rfl rfl rfl ?_) | fail)
      (with_reducible refine (h1.run _).mono ?_)
      rintro e' w' ⟨rfl, hb⟩
      go_wp2
      go_ret2
      exact ⟨rfl, HBstep HB.out hb⟩
    · rw [if_neg (by simp [hl])]
      clear hs hb hl
      have cvr := Lib.hid cv
      clear cl cv
      cases v
      · go_enter Try.func9, Try.ntmps9
        have cl := HS.out.cell (stA_lev S)
        go_wp2_with (first | (refine wpList_load_st HS.out rfl rfl rfl ?_) | fail)
        (with_reducible refine (h1.run _).mono ?_)
        rintro e' w' ⟨rfl, hb⟩
        have cv := (hb.cell (p := ⟨w.heap.size, 34, none⟩) HS.out.lt).trans cvr.out
        go_wp2
        go_ret2
        exact ⟨rfl, HBstep HB.out hb⟩
      · go_enter Try.func9, Try.ntmps9
        have cl := HS.out.cell (stA_lev S)
        go_wp2_with (first | (refine wpList_load_st HS.out rfl rfl rfl ?_) | fail)
        (with_reducible refine (h1.run _).mono ?_)
        rintro e' w' ⟨rfl, hb⟩
        have cv := (hb.cell (p := ⟨w.heap.size, 34, none⟩) HS.out.lt).trans cvr.out
        have HS' := Lib.hid (HS.out.below hb)
        have HB' := Lib.hid (HBstep HB.out hb)
        clear hb cl
        go_wp2_with (first | (refine wpList_load_st HS'.out rfl rfl rfl ?_) | fail)
        (with_reducible refine (h2.run _).mono ?_)
        rintro e' w2 ⟨rfl, hb⟩
        have HB2 := Lib.hid (HBstep HB'.out hb)
        clear hb
        cases b2 <;> (go_wp2; go_ret2; exact ⟨rfl, HB2.out⟩)
theorem beq_comm_int (a b : Int) : (a == b) = (b == a) := by rw [Bool.eq_iff_iff]; simp; exact ⟨fun h => h.symm, fun h => h.symm⟩
/-- Which interrupts may come. -/
def enB (S : St) (t l : Bool) : BitVec 64 := pendB (S.c 19) t l &&& S.c 3
theorem en_b (S : St) (t l : Bool) : Gives Try.prog 13 #[.agg (stA S), .bool t, .bool l] (U (enB S t l)) := by
  intro w
  have sz := stA_size S
  have hs := HasSt.new w S
  have c3 := hs.cell (stA_c S 3 (by omega))
  have h1 := pend_b S t l
  have hb : Below w.heap.size w (w.alloc (.cells (stA S) 26)) := (Below.refl _ _).alloc (Nat.le_refl _) _
  have HS := Lib.hid hs
  have HB := Lib.hid hb
  have C3 := Lib.hid c3
  have e : enB S t l = pendB (S.c 19) t l &&& S.c 3 := rfl
  rw [e]
  obtain ⟨x, hx⟩ : ∃ x, x = pendB (S.c 19) t l := ⟨_, rfl⟩
  rw [← hx] at h1 ⊢
  have e2 := u_and x (S.c 3)
  obtain ⟨r, hr⟩ : ∃ r, r = x &&& S.c 3 := ⟨_, rfl⟩
  rw [← hr] at e2 ⊢
  clear hs hb c3 e hr hx
  go_enter Try.func13, Try.ntmps13
  go_wp2_with fail
  have c3 : ∀ s : Beyond (w.alloc (.cells (stA S) 26)), s.to.cell? ⟨w.heap.size, 38, none⟩ = some (U (S.c 3)) := fun s => (s.ok.cell (p := ⟨w.heap.size, 38, none⟩) HS.out.lt).trans C3.out
  refine wp_region_below (W := w.alloc (.cells (stA S) 26)) (by kernel_rfl) (by kernel_rfl) (Below.refl _ _) ?_
  repeat (first | (go_big_quiet_want; refine quiet_load_st HS.out rfl rfl ?_; go_simp; go_big_quiet_on) | (go_big_quiet_step ((go_at_call 24; with_reducible exact (h1.at_ _)))))
  refine wpQuiet_nil ?_
  intro w2 hb
  go_wp2
  go_ret
  exact ⟨rfl, HBstep HB.out hb⟩
end Go.Proofs.Ytalcldghpmeeaaa
