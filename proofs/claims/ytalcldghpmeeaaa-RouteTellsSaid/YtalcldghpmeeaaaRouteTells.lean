/- The walk of RouteTells; no condition but the arguments' own. -/
import Derived.Test.YtalcldghpmeeaaaPlain15
namespace Go.Proofs.Ytalcldghpmeeaaa
open Go.RowKit Go.BigFrame
set_option linter.unusedSimpArgs false
set_option linter.unusedVariables false
set_option maxRecDepth 100000

set_option maxHeartbeats 8000000 in
theorem walkRouteTells (S : St) (cause : Int) (t l : Bool) (hc : (Lit.int .u64 cause).wf = true) (w : World) :
    Calls Try.prog 3 #[.agg (stA S), .int .u64 cause, .bool t, .bool l] w fun e w' => e = .returned (.bool true) ∧ Below w.heap.size w w' := by
  obtain ⟨ca, rfl⟩ := u64_open hc
  have sz := stA_size S
  have zs := zero_st
  have hs := HasSt.new w S
  have hb : Below w.heap.size w (w.alloc (.cells (stA S) 26)) := (Below.refl _ _).alloc (Nat.le_refl _) _
  have HS := Lib.hid hs
  have HB := Lib.hid hb
  clear hs hb hc
  have CL := clean_b S
  have X := exc_b (cleanS S) ca
  have X2 := rexc_b (cleanS S) ca
  have I := int_b (cleanS S) t l
  have I2 := rint_b (cleanS S) t l
  rw [← int_eq (cleanS S) t l (fun h => if_pos h)] at I2
  have N := en_b (cleanS S) t l
  have N2 := ren_b (cleanS S) t l
  generalize intV (cleanS S) t l = r at *
  generalize excV (cleanS S) ca = q at *
  generalize enB (cleanS S) t l = en at *
  obtain ⟨T, hT⟩ : ∃ T, T = cleanS S := ⟨_, rfl⟩
  rw [← hT] at CL X X2 I I2 N N2
  clear hT
  obtain ⟨ea, ev⟩ := q
  obtain ⟨c, il, iw, ok⟩ := r
  have CL := Lib.hid CL
  have X := Lib.hid X
  have X2 := Lib.hid X2
  have I := Lib.hid I
  have I2 := Lib.hid I2
  have N := Lib.hid N
  have N2 := Lib.hid N2
  go_enter Try.func3, Try.ntmps3
  go_wp2_with fail
  (with_reducible refine (known15_b.run _).mono ?_)
  rintro e w1 ⟨rfl, hb1⟩
  have HS := Lib.hid (HS.out.below hb1)
  have HB := Lib.hid (HBstep HB.out hb1)
  clear hb1
  go_wp2_with (first | (with_reducible refine step_load HS.out (by with_unfolding_all rfl) (by with_unfolding_all rfl) (by with_unfolding_all rfl) ?_))
  (with_reducible refine (CL.out.run _).mono ?_)
  rintro e w2 ⟨rfl, hb2⟩
  have HB := Lib.hid (HBstep HB.out hb2)
  clear hb2 HS
  have Z0 := Lib.hid (HasSt.new w2 St0)
  obtain ⟨W, hW⟩ : ∃ W, W = (w2.alloc (.cells (stA St0) 26)).setRow w2.heap.size (stA T) := ⟨_, rfl⟩
  have HT := Lib.hid (show HasSt W w2.heap.size T by rw [hW]; exact Z0.out.row T)
  have HBW : Below w.heap.size w W := by rw [hW]; exact below_setRow (HB.out.alloc HB.out.size _) HB.out.size _
  have HB := Lib.hid HBW
  have HW := Lib.hid hW
  clear hW HBW
  go_wp2_with (first | (with_reducible refine step_store T Z0.out (by with_unfolding_all rfl) (by with_unfolding_all rfl) (by with_unfolding_all rfl) (by with_unfolding_all rfl) ?_; rw [← HW.out]) | (with_reducible refine step_load HT.out (by with_unfolding_all rfl) (by with_unfolding_all rfl) (by with_unfolding_all rfl) ?_))
  (with_reducible refine (X.out.run _).mono ?_)
  rintro e w3 ⟨rfl, hb3⟩
  have HT := Lib.hid (HT.out.below hb3)
  have HB := Lib.hid (HBstep HB.out hb3)
  clear hb3
  go_wp2_with (first | (with_reducible refine step_load HT.out (by with_unfolding_all rfl) (by with_unfolding_all rfl) (by with_unfolding_all rfl) ?_))
  (with_reducible refine (X2.out.run _).mono ?_)
  rintro e w4 ⟨rfl, hb4⟩
  have HT := Lib.hid (HT.out.below hb4)
  have HB := Lib.hid (HBstep HB.out hb4)
  clear hb4
  go_wp2_with (first | (with_reducible refine step_load HT.out (by with_unfolding_all rfl) (by with_unfolding_all rfl) (by with_unfolding_all rfl) ?_))
  (with_reducible refine (I.out.run _).mono ?_)
  rintro e w5 ⟨rfl, hb5⟩
  have HT := Lib.hid (HT.out.below hb5)
  have HB := Lib.hid (HBstep HB.out hb5)
  clear hb5
  go_wp2_with (first | (with_reducible refine step_load HT.out (by with_unfolding_all rfl) (by with_unfolding_all rfl) (by with_unfolding_all rfl) ?_))
  (with_reducible refine (I2.out.run _).mono ?_)
  rintro e w6 ⟨rfl, hb6⟩
  have HT := Lib.hid (HT.out.below hb6)
  have HB := Lib.hid (HBstep HB.out hb6)
  clear hb6
  go_wp2_with fail
  refine wp_region_below (W := w6) (by kernel_rfl) (by kernel_rfl) (Below.refl _ _) ?_
  repeat (first | (go_big_quiet_want; refine quiet_load_st HT.out rfl rfl ?_; go_simp; go_big_quiet_on) | (go_big_quiet_step ((first | (go_at_call 13; with_reducible exact (N.out.at_ _)) | (go_at_call 14; with_reducible exact (N2.out.at_ _))))))
  refine wpQuiet_nil ?_
  intro w7 hb7
  have HB := Lib.hid (HBstep HB.out hb7)
  clear hb7
  go_wp2
  go_ret
  exact ⟨rfl, HB.out⟩
end Go.Proofs.Ytalcldghpmeeaaa
