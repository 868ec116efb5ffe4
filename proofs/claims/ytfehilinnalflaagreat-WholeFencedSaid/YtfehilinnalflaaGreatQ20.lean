/- Part 20 of the texts behind the law: contracts and lemmas, each proved; no condition but what each names. -/
import Derived.Deep.RegionLaw
import Derived.Deep.CutRange
import Derived.Test.YtfehilinnalflaaGreatQ18
import Derived.Test.YtfehilinnalflaaGreatQ19
namespace Go.Proofs.YtfehilinnalflaaGreat
open Go.RowKit Go.BigFrame
set_option linter.unusedSimpArgs false
set_option linter.unusedVariables false
set_option maxRecDepth 100000
def knE : Nat → Int := fun _ => 0x00500093
def knF : Nat → UInt8 := codeF (fun _ => 0) (atC 0#64) knE 1
def knS : St := { St0 with lev := 3 }
noncomputable def knH (b p t : Nat) : HS := ⟨busV0 knF, tl0, b, p, t⟩
noncomputable def knSt : St := cleanS knS
def knX0 : SlV := ⟨0#64, 0x00500093, 0#64, 0#64, 0#64, false, true, ⟨22, 1, 0, 0, 5, 0⟩, true, 0, 0⟩
def knX1 : SlV := ⟨4#64, 0, 0#64, 0#64, 0#64, false, true, ⟨0, 0, 0, 0, 0, 0⟩, false, 0, 0⟩
set_option maxHeartbeats 4000000 in
set_option maxHeartbeats 4000000 in
theorem kn_f0 (b p t : Nat) (pick : Int) : slV (bT knSt (knH b p t) 0#64 pick) = knX0 := by kernel_rfl
set_option maxHeartbeats 4000000 in
theorem kn_m0 (b p t : Nat) (pick : Int) : (bT knSt (knH b p t) 0#64 pick).theM (knH b p t) = knH b p t := by kernel_rfl
set_option maxHeartbeats 4000000 in
theorem kn_n0 (b p t : Nat) (pick : Int) : (bT knSt (knH b p t) 0#64 pick).needB = (((decide (b = b) && true) && true) && true) := by kernel_rfl
def knX0' : SlV := ⟨0#64, 0x00500093, 0#64, 0#64, 0#64, false, true, ⟨22, 1, 0, 0, 5, 0⟩, true, 3, 0⟩
noncomputable def knD0 (b p t : Nat) (at_ : BitVec 64) (stops : Bool) : Tr := dT knSt (retS (knH b p t) knSt) at_ stops knX0' false
noncomputable def knSt1 : St := { knSt with x := updC knSt.x 1 5#64, pc := 4#64, done := 1#64 }
set_option maxHeartbeats 4000000 in
theorem kn_d0 (b p t : Nat) (at_ : BitVec 64) (stops : Bool) : stT (knD0 b p t at_ stops) = knSt1 := by kernel_rfl
set_option maxHeartbeats 4000000 in
theorem kn_d1 (b p t : Nat) (at_ : BitVec 64) (stops : Bool) : (retV (knD0 b p t at_ stops), flT (knD0 b p t at_ stops)) = (⟨0#64, 0x00500093, 1, 5#64, false, 0#64, 0#64, 0#64, false, 0, false, false⟩, false) := by kernel_rfl
set_option maxHeartbeats 4000000 in
theorem kn_d2 (b p t : Nat) (at_ : BitVec 64) (stops : Bool) : (knD0 b p t at_ stops).theM (retS (knH b p t) knSt) = knH b p t := by kernel_rfl
set_option maxHeartbeats 4000000 in
theorem kn_d3 (b p t : Nat) (at_ : BitVec 64) (stops : Bool) : (knD0 b p t at_ stops).needB = (decide (b = b) && true) := by kernel_rfl
set_option maxHeartbeats 4000000 in
theorem kn_f1 (b p t : Nat) (pick : Int) (X : Nat → BitVec 64) (P D : BitVec 64) : slV (bT { knSt with x := X, pc := P, done := D } (knH b p t) 4#64 pick) = knX1 := by kernel_rfl
set_option maxHeartbeats 4000000 in
theorem kn_m1 (b p t : Nat) (pick : Int) (X : Nat → BitVec 64) (P D : BitVec 64) : (bT { knSt with x := X, pc := P, done := D } (knH b p t) 4#64 pick).theM (knH b p t) = knH b p t := by kernel_rfl
set_option maxHeartbeats 4000000 in
theorem kn_n1 (b p t : Nat) (pick : Int) (X : Nat → BitVec 64) (P D : BitVec 64) : (bT { knSt with x := X, pc := P, done := D } (knH b p t) 4#64 pick).needB = (((decide (b = b) && true) && true) && true) := by kernel_rfl
noncomputable def knP (b p t : Nat) : Plan where
  st n := if n = 0 then knSt else knSt1
  hs _ _ := knH b p t
  slot m := if m = 0 then knX0 else knX1
  pc m := if m = 0 then 0#64 else 4#64
  last m := !(m == 0)
  fl _ := false
  ret _ := ⟨0#64, 0x00500093, 1, 5#64, false, 0#64, 0#64, 0#64, false, 0, false, false⟩
theorem kn_mv0 : (t_insn_Size 22).needB = true := by kernel_rfl
theorem kn_mv1 : (t_insn_Size 0).needB = true := by kernel_rfl
theorem kn_w00 : (wtT knX0.i knX0.i).needB = true := by kernel_rfl
theorem kn_w01 : (wtT knX0.i knX1.i).needB = true := by kernel_rfl
theorem kn_w10 : (wtT knX1.i knX0.i).needB = true := by kernel_rfl
theorem kn_w11 : (wtT knX1.i knX1.i).needB = true := by kernel_rfl
theorem kn_x0 : (t_guess_Next knX0.pc knX0.w).needB = true ∧ (alT knX0.i).needB = true ∧ (!knX0.ok || (!knX0.is || alV knX0.i)) = false ∧ nxV knX0.pc knX0.w = 4#64 := by refine ⟨?_, ?_, ?_, ?_⟩ <;> kernel_rfl
theorem kn_x1 : (t_guess_Next knX1.pc knX1.w).needB = true ∧ (alT knX1.i).needB = true ∧ (!knX1.ok || (!knX1.is || alV knX1.i)) = true := by refine ⟨?_, ?_, ?_⟩ <;> kernel_rfl
theorem kn_plan (b p t : Nat) : PlanOk (knP b p t) 1 false := by
  have wcase : ∀ n m, n ≤ 1 → Win (knP b p t) n (m + 1) → n ≤ m → m = 0 ∨ m = 1 := by
    intro n m hn hw hm
    by_cases c : m ≤ 1
    · omega
    · have := hw.2.2 1 hn (by omega)
      exact absurd this (by show ¬ (!((1 : Nat) == 0)) = false; decide)
  refine ⟨fun m => ?_, fun i j => ?_, fun n m pick hn hw hm => ?_, fun n m hn hw hm => ?_, fun n m at_ stops hn hw hm => ?_, fun n hn => ?_⟩
  · show core (if m = 0 then knX0 else knX1) = (if m = 0 then knX0 else knX1)
    split <;> rfl
  · show (t_insn_Size (if i = 0 then knX0 else knX1).i.op).needB = true ∧ (wtT (if i = 0 then knX0 else knX1).i (if j = 0 then knX0 else knX1).i).needB = true
    by_cases ci : i = 0 <;> by_cases cj : j = 0
    · rw [if_pos ci, if_pos cj]; exact ⟨kn_mv0, kn_w00⟩
    · rw [if_pos ci, if_neg cj]; exact ⟨kn_mv0, kn_w01⟩
    · rw [if_neg ci, if_pos cj]; exact ⟨kn_mv1, kn_w10⟩
    · rw [if_neg ci, if_neg cj]; exact ⟨kn_mv1, kn_w11⟩
  · have hst : ∃ X P D, (knP b p t).st n = { knSt with x := X, pc := P, done := D } := by
      show ∃ X P D, (if n = 0 then knSt else knSt1) = _
      split
      · exact ⟨knSt.x, knSt.pc, knSt.done, rfl⟩
      · exact ⟨_, _, _, rfl⟩
    rcases wcase n m hn hw hm with rfl | rfl
    · obtain rfl : n = 0 := by omega
      show (bT knSt (knH b p t) 0#64 pick).needB = true ∧ slV (bT knSt (knH b p t) 0#64 pick) = knX0 ∧ (bT knSt (knH b p t) 0#64 pick).theM (knH b p t) = knH b p t
      exact ⟨by rw [kn_n0]; simp, kn_f0 b p t pick, kn_m0 b p t pick⟩
    · obtain ⟨X, P, D, e⟩ := hst
      rw [e]
      show (bT { knSt with x := X, pc := P, done := D } (knH b p t) 4#64 pick).needB = true ∧ slV (bT { knSt with x := X, pc := P, done := D } (knH b p t) 4#64 pick) = knX1 ∧ (bT { knSt with x := X, pc := P, done := D } (knH b p t) 4#64 pick).theM (knH b p t) = knH b p t
      exact ⟨by rw [kn_n1]; simp, kn_f1 b p t pick X P D, kn_m1 b p t pick X P D⟩
  · rcases wcase n m hn hw hm with rfl | rfl
    · exact ⟨kn_x0.1, kn_x0.2.1, kn_x0.2.2.1, fun _ => kn_x0.2.2.2⟩
    · exact ⟨kn_x1.1, kn_x1.2.1, kn_x1.2.2, fun h => absurd h (by show ¬ (!((1 : Nat) == 0)) = false; decide)⟩
  · obtain rfl : n = 0 := by omega
    show (knD0 b p t at_ stops).needB = true ∧ { retV (knD0 b p t at_ stops) with line := false } = (⟨0#64, 0x00500093, 1, 5#64, false, 0#64, 0#64, 0#64, false, 0, false, false⟩ : RetV) ∧ stT (knD0 b p t at_ stops) = knSt1 ∧ flT (knD0 b p t at_ stops) = false ∧ (knD0 b p t at_ stops).theM (retS (knH b p t) knSt) = knH b p t
    have h1 := kn_d1 b p t at_ stops
    obtain ⟨h2, h3⟩ := Prod.mk.inj h1
    exact ⟨by rw [kn_d3]; simp, by rw [h2], kn_d0 b p t at_ stops, h3, kn_d2 b p t at_ stops⟩
  · exact ⟨fun h => absurd h (by show ¬ false = true; decide), fun h => absurd h (by obtain rfl : n = 0 := by omega
                                                                                     show ¬ (!((0 : Nat) == 0)) = true; decide)⟩
end Go.Proofs.YtfehilinnalflaaGreat
namespace Go.Proofs.YtfehilinnalflaaGreat
open Go.RowKit Go.BigFrame
set_option linter.unusedSimpArgs false
set_option linter.unusedVariables false
set_option maxRecDepth 100000
theorem kn_enc : (encT ⟨22, 1, 0, 0, 5, 0⟩).needB = true ∧ encV ⟨22, 1, 0, 0, 5, 0⟩ = 0x00500093 := by refine ⟨?_, ?_⟩ <;> kernel_rfl
theorem z37s : Tryz.zeroCells37.setIfInBounds 33 (.int .i64 3) = stA knS := by kernel_rfl
theorem fld_done (s : St) (w : World) : (Instr.field 37 (.agg (stA s)) 5).run Tryz.prog w = .ok (U s.done) w := by kernel_rfl
set_option maxHeartbeats 4000000 in
theorem known_b : Gives Tryz.prog 8 #[] (.bool true) := by
  intro w
  go_enter Tryz.func8, Tryz.ntmps8
  go_wp2_with fail
  have hk := (MapKept.heap_alloc w (.cells #[.int .i64 22, .int .i64 1, .int .i64 0, .int .i64 0, .int .i64 5, .int .i64 0] 28)).1
  have hb0 : Below w.heap.size w (w.alloc (.cells #[.int .i64 22, .int .i64 1, .int .i64 0, .int .i64 0, .int .i64 5, .int .i64 0] 28)) := (Below.refl _ _).alloc (Nat.le_refl _) _
  generalize w.alloc (.cells #[.int .i64 22, .int .i64 1, .int .i64 0, .int .i64 0, .int .i64 5, .int .i64 0] 28) = W1 at hk hb0 ⊢
  have key := laid_code [⟨22, 1, 0, 0, 5, 0⟩] (by decide) knE (fun j x hx => by
    cases j with
    | zero => cases hx; exact kn_enc
    | succ j => cases hx) W1 w.heap.size 28 hk 1 rfl
  (with_reducible refine key.mono ?_)
  clear key
  rintro e w2 ⟨p, g, q, h, rfl, hA, hL⟩
  have HM := Lib.hid (show IsMem w2 p g 92 knF from hL.m)
  have hA1 := Lib.hid (show w.heap.size ≤ p ∧ w.heap.size ≤ g from ⟨Nat.le_trans hb0.size hA.lp, Nat.le_trans hb0.size hA.lg⟩)
  have HB2 := Lib.hid (HBstep hb0 hL.hb)
  clear hk hb0 hA hL
  go_wp2_with fail
  (with_reducible refine (bus_b w2 HM.out).mono ?_)
  rintro e w3 ⟨b, rfl, hbl, ⟨ks, vs, hBus⟩, hb3⟩
  have HB3 := Lib.hid (HBstep HB2.out hb3)
  have key := pipe_b (B := w.heap.size) hBus knS (Nat.le_trans HB2.out.size hbl) hA1.out.1 hA1.out.2 HB3.out.size
  have HKey := Lib.hid key
  clear hbl hBus hb3 HB2 HM key
  go_wp2_with fail
  rw [z37s]
  (with_reducible refine HKey.out.mono ?_)
  rintro e w4 ⟨P, G, t, rfl, hP, hG, hF⟩
  have HI := Lib.hid (show ∃ m V S G', PInv (knP b p t) 0 m V S ∧ Pip w4 G' P V S ∧ Went w4 G w4 G' ∧ 0 + mu V ≤ 21 from
    ⟨0, _, _, G, pinv0 (knP b p t) knSt (knH b p t) rfl rfl rfl, hP, Went.refl _ _, by have := mu_le (V := ⟨knSt, [], none, knSt.pc, false⟩) ⟨by simp, fun y hy => by cases hy⟩ (fun y hy => by cases hy); omega⟩)
  have HG := Lib.hid hG
  have HB4 := Lib.hid (show Below w.heap.size w w4 from ⟨hF.os.trans HB3.out.os, hF.tape.trans HB3.out.tape, hF.output.trans HB3.out.output, Nat.le_trans HB3.out.size hF.size, fun k hk => (hF.block k (Nat.lt_of_lt_of_le hk HB3.out.size) (fun h => by omega)).trans (HB3.out.block k hk)⟩)
  clear HKey hP hG hF HB3
  go_wp2_with fail
  go_loopw [4] (fun i wr => ∃ t' : Nat, i = .int .i64 t' ∧ ∃ m V S G', PInv (knP b p t) 0 m V S ∧ Pip wr G' P V S ∧ Went w4 G wr G' ∧ t' + mu V ≤ 21) (fun i _ => 30 - (intOf i).toNat)
  case atStart => exact ⟨0, rfl, HI.out⟩
  case round =>
    clear HI
    obtain ⟨t', rfl, m, V, S, G', hI, hP, hW, hT⟩ := hrel
    have ht : t' ≤ 21 := by omega
    have hd : decide ((t' : Int) < 512) = true := decide_eq_true (by omega)
    have hw : wrap64 ((t' : Int) + 1) = ((t' + 1 : Nat) : Int) := by rw [w64_in _ (by omega)]; rfl
    have HW1 := Lib.hid hw
    have HT := Lib.hid hT
    have HWN := Lib.hid hW
    clear hT hW hw ht
    rcases plan_cyc (kn_plan b p t) (by omega) hI (late := 7) (by omega) (by omega) 0 with ⟨V2, S2, m2, hc, hI2, hmu⟩ | ⟨_, hN⟩
    · have key : Calls Tryz.prog 14 #[.pointer (some ⟨P, 0, none⟩), .agg #[.int .i64 7, .int .i64 0, .bool false]] wr _ := hc wr G' P hP
      have KEY := Lib.hid key
      have HI2 := Lib.hid hI2
      have HMU := Lib.hid hmu
      clear key hc hI hP hI2 hmu
      go_wp2_with fail
      (with_reducible refine KEY.out.mono ?_)
      rintro e w5 ⟨G2, ⟨v, rfl, hv⟩, P2, W2⟩
      have hv' : v = .slice none 0 0 := hv
      subst hv'
      have FIN := Lib.hid (show ∃ m V S G', PInv (knP b p t) 0 m V S ∧ Pip w5 G' P V S ∧ Went w4 G w5 G' ∧ (t' + 1) + mu V ≤ 21 from ⟨m2, V2, S2, G2, HI2.out, P2, HWN.out.trans W2, by have := HMU.out; have := HT.out; omega⟩)
      clear KEY HI2 HMU hv P2 W2
      go_wp2_with fail
      exact ⟨⟨t' + 1, by rw [HW1.out], FIN.out⟩, by have := HT.out; rw [HW1.out]; simp [intOf]; omega⟩
    · obtain ⟨V2, S2, m2, hc, hI2⟩ := hN (by omega)
      have key : Calls Tryz.prog 14 #[.pointer (some ⟨P, 0, none⟩), .agg #[.int .i64 7, .int .i64 0, .bool false]] wr _ := hc wr G' P hP
      have KEY := Lib.hid key
      have hs : V2.s = knSt1 := hI2.s
      have HS := Lib.hid hs
      clear key hc hI hP hI2 hs hN
      go_wp2_with fail
      (with_reducible refine KEY.out.mono ?_)
      rintro e w5 ⟨G2, ⟨v, rfl, k1, rfl, hb1, hb2, hb3⟩, P2, W2⟩
      have r2 : w5.cell? ⟨k1, 2, none⟩ = some (.int .i64 1) := by simp [World.cell?, hb1, retL, knP]
      have r3 : w5.cell? ⟨k1, 3, none⟩ = some (.int .u64 5) := by simp [World.cell?, hb1, retL, knP]
      have HP2 := Lib.hid P2
      have HW2 := Lib.hid W2
      clear KEY hb1 hb2 hb3 P2 W2
      go_wp2_with fail
      (with_reducible refine (state_w HP2.out).mono ?_)
      rintro e w6 ⟨rfl, hb6⟩
      rw [HS.out]
      have hf := fld_done knSt1
      have hdn : knSt1.done = 1#64 := rfl
      rw [hdn] at hf
      generalize stA knSt1 = A at hf ⊢
      have FIN := Lib.hid (show Below w.heap.size w w6 from by
        have h1 := HWN.out.trans (HW2.out.trans (Went.below hb6))
        exact ⟨h1.fr.os.trans HB4.out.os, h1.fr.tape.trans HB4.out.tape, h1.fr.output.trans HB4.out.output, Nat.le_trans HB4.out.size h1.fr.size, fun k hk => (h1.fr.block k (Nat.lt_of_lt_of_le hk HB4.out.size) (fun hg => by have := HG.out k hg; omega)).trans (HB4.out.block k hk)⟩)
      clear HP2 HW2 hb6 r2 r3
      go_wp2_with fail
      go_ret
      exact ⟨rfl, FIN.out⟩
end Go.Proofs.YtfehilinnalflaaGreat
namespace Go.Proofs.YtfehilinnalflaaGreat
open Go.RowKit Go.BigFrame
set_option linter.unusedSimpArgs false
set_option linter.unusedVariables false
set_option maxRecDepth 100000
theorem step_load_rl {ops : Array Oper} {o : Oper} {a : Act} {w : World} {K : Act → World → Prop} {Q : Exit → Act → World → Prop} {E : Prop} {g : Nat} {S : St} {x : Operand}
    (hblk : HasSt w g S) (hg : o.guard = none) (ho : o.op = .load 37 x) (hx : a.eval x = .pointer (some ⟨g, 0, none⟩))
    (hK : K (a.put o.dst (.agg (stA S))) w) : if Region.wanted o (yielded ops a.tmps) = true then Oper.wp Tryz.prog o a w K Q else E := by
  have hw : Region.wanted o (yielded ops a.tmps) = true := by simp [Region.wanted, hg]
  rw [if_pos hw]
  exact wp_load_row 37 x ho g hx _ _ _ _ hblk Tryz.underlying37 rfl (by rw [stA_size]; exact infoSt) hK
theorem HasSt.row {w : World} {g : Nat} {S0 : St} (hg : HasSt w g S0) (S : St) : HasSt (w.setRow g (stA S)) g S := setRow_heap _ _ _ _ _ _ hg
theorem step_sts {ops : Array Oper} {rest : List Oper} {o : Oper} {a : Act} {w : World} {Q : Exit → Act → World → Prop} {g : Nat} {S S0 : St} {A : Array Value} {x y : Operand} (hA : A = stA S) (hgd : o.guard = none) (hg : HasSt w g S0)
    (hx : a.eval x = .pointer (some ⟨g, 0, none⟩)) (hy : a.eval y = .agg A) (ho : o.op = .store 37 x y)
    (h : wpList Tryz.prog ops Q rest (a.put o.dst undef) (w.setRow g (stA S))) : wpList Tryz.prog ops Q (o :: rest) a w :=
  wpList_store_row hgd 37 x y ho g _ hx (hy.trans (congrArg Value.agg hA)) 37 _ hg (by rw [stA_size]; exact infoSt) (by rw [stA_size, stA_size]) (stA_one _) h
theorem st_new (w : World) (S : St) : HasSt ((w.alloc (.cells (stA St0) 37)).setRow w.heap.size (stA S)) w.heap.size S ∧ Below w.heap.size w ((w.alloc (.cells (stA St0) 37)).setRow w.heap.size (stA S)) := by
  refine ⟨(HasSt.new w St0).row S, ?_⟩
  have u : Upd (w.alloc (.cells (stA St0) 37)) ((w.alloc (.cells (stA St0) 37)).setRow w.heap.size (stA S)) w.heap.size := Upd.row _ _ _
  exact u.below ((Below.refl _ _).alloc (Nat.le_refl _) _) (by simp) (Nat.le_refl _)
theorem st_cell {w w' : World} {B g k : Nat} {v : Value} (hb : Below B w w') (hB : B ≤ w'.heap.size) (hg : B ≤ g) : Below B w (w'.setCell ⟨g, k, none⟩ v) := (set_upd w' g k v).below hb hB hg
end Go.Proofs.YtfehilinnalflaaGreat
namespace Go.Proofs.YtfehilinnalflaaGreat
open Go.RowKit Go.BigFrame
set_option linter.unusedSimpArgs false
set_option linter.unusedVariables false
set_option maxRecDepth 100000
theorem ln_st0 : cleanS lnS = lnX (xs 0) 0#64 (BitVec.ofNat 64 0) := by
  have hx : (cleanS lnS).x = xs 0 := by
    funext i
    show updC St0.x 0 0#64 i = 0#64
    unfold updC
    split <;> rfl
  have hp : (cleanS lnS).pc = 0#64 := by kernel_rfl
  have hd : (cleanS lnS).done = BitVec.ofNat 64 0 := by kernel_rfl
  have e : ∀ (s : St) (X : Nat → BitVec 64) (P D : BitVec 64), s.x = X → s.pc = P → s.done = D → s = { s with x := X, pc := P, done := D } := by
    intro s X P D h1 h2 h3
    subst h1; subst h2; subst h3; rfl
  exact e _ _ _ _ hx hp hd
theorem below_fr {w w5 w6 : World} (h : Below w.heap.size w w5) (k : Fr (fun c => w.heap.size ≤ c) w5 w6) : Below w.heap.size w w6 :=
  ⟨k.os.trans h.os, k.tape.trans h.tape, k.output.trans h.output, Nat.le_trans h.size k.size, fun i hi => (k.block i (Nat.lt_of_lt_of_le hi h.size) (fun e => by omega)).trans (h.block i hi)⟩
set_option maxHeartbeats 4000000 in
theorem walkWholeLines (at_ late : Int) (w0 : (Lit.int .u8 at_).wf = true) (w1 : (Lit.int .u8 late).wf = true) (w : World) :
    Calls Tryz.prog 5 #[.int .u8 at_, .int .u8 late] w fun e w' => e = .returned (.bool true) ∧ Below w.heap.size w w' := by
  obtain ⟨aN, rfl, haN⟩ := u8_open w0
  obtain ⟨lN, rfl, hlN⟩ := u8_open w1
  have HAN := Lib.hid haN
  have HLN := Lib.hid hlN
  clear w0 w1 haN hlN
  go_enter Tryz.func5, Tryz.ntmps5
  go_wp2_with fail
  (with_reducible refine (known_b.run _).mono ?_)
  rintro e w1 ⟨rfl, HB0⟩
  have HB0 := Lib.hid HB0
  go_wp2_with fail
  have hk := (MapKept.heap_alloc w1 (.cells #[.int .i64 22, .int .i64 1, .int .i64 1, .int .i64 0, .int .i64 1, .int .i64 0, .int .i64 3, .int .i64 0, .int .i64 0, .int .i64 0, .int .i64 (-4), .int .i64 0] 28)).1
  have hb0 : Below w.heap.size w (w1.alloc (.cells #[.int .i64 22, .int .i64 1, .int .i64 1, .int .i64 0, .int .i64 1, .int .i64 0, .int .i64 3, .int .i64 0, .int .i64 0, .int .i64 0, .int .i64 (-4), .int .i64 0] 28)) := HBstep HB0.out ((Below.refl _ _).alloc (Nat.le_refl _) _)
  generalize w1.alloc (.cells #[.int .i64 22, .int .i64 1, .int .i64 1, .int .i64 0, .int .i64 1, .int .i64 0, .int .i64 3, .int .i64 0, .int .i64 0, .int .i64 0, .int .i64 (-4), .int .i64 0] 28) = W1 at hk hb0 ⊢
  have key := laid_code [lnI0, lnI1] (by decide) lnE (fun j x hx => by
    match j, hx with
    | 0, hx => cases hx; exact ln_enc0
    | 1, hx => cases hx; exact ln_enc1
    | j + 2, hx => cases hx) W1 w1.heap.size 28 hk 2 rfl
  (with_reducible refine key.mono ?_)
  clear key
  rintro e w2 ⟨p, g, q, h, rfl, hA, hL⟩
  have HM := Lib.hid (show IsMem w2 p g 92 lnF from hL.m)
  have hA1 := Lib.hid (show w.heap.size ≤ p ∧ w.heap.size ≤ g from ⟨Nat.le_trans hb0.size hA.lp, Nat.le_trans hb0.size hA.lg⟩)
  have HB2 := Lib.hid (HBstep hb0 hL.hb)
  clear hk hb0 hA hL HB0
  have hz1 : HasSt (w2.alloc (.cells Tryz.zeroCells37 37)) w2.heap.size St0 := by rw [z37]; exact HasSt.new w2 St0
  have hz0 := st_new w2 knS
  rw [← z37] at hz0
  have hzs := z37s
  obtain ⟨k3, hk3⟩ : ∃ k3, w2.heap.size = k3 := ⟨_, rfl⟩
  rw [hk3] at hz0 hz1
  obtain ⟨W3, hW3⟩ : ∃ W3, (w2.alloc (.cells Tryz.zeroCells37 37)).setRow k3 (stA knS) = W3 := ⟨_, rfl⟩
  rw [hW3] at hz0
  have H1 := Lib.hid hz1
  have H0 := Lib.hid hz0
  clear hz1 hz0
  have c0 : W3.cell? ⟨k3, 35, none⟩ = some (U (knS.c 0)) := H0.out.1.cell (stA_c knS 0 (by omega))
  have c3 : W3.cell? ⟨k3, 38, none⟩ = some (U (knS.c 3)) := H0.out.1.cell (stA_c knS 3 (by omega))
  have c4 : W3.cell? ⟨k3, 39, none⟩ = some (U (knS.c 4)) := H0.out.1.cell (stA_c knS 4 (by omega))
  have cf : ∀ j, W3.frozen? ⟨k3, j, none⟩ = false := fun j => H0.out.1.free j
  go_wp2_with (first | (refine step_sts (S := knS) rfl rfl H1.out rfl rfl rfl ?_; rw [hW3]))
  have s0 : HasSt ((((W3.setCell ⟨k3, 38, none⟩ (.int .u64 512)).setCell ⟨k3, 35, none⟩ (.int .u64 8)).setCell ⟨k3, 39, none⟩ (.int .u64 2048))) k3 lnS := ((H0.out.1.setC 3 512#64 (by omega)).setC 0 8#64 (by omega)).setC 4 2048#64 (by omega)
  have hk : w2.heap.size ≤ k3 := by omega
  have b3 : Below w2.heap.size w2 W3 := by rw [hk3]; exact H0.out.2
  have b4 : Below w2.heap.size w2 ((((W3.setCell ⟨k3, 38, none⟩ (.int .u64 512)).setCell ⟨k3, 35, none⟩ (.int .u64 8)).setCell ⟨k3, 39, none⟩ (.int .u64 2048))) := by
    have h1 := st_cell (k := 38) (v := .int .u64 512) b3 b3.size hk
    have h2 := st_cell (k := 35) (v := .int .u64 8) h1 h1.size hk
    exact st_cell (k := 39) (v := .int .u64 2048) h2 h2.size hk
  generalize (((W3.setCell ⟨k3, 38, none⟩ (.int .u64 512)).setCell ⟨k3, 35, none⟩ (.int .u64 8)).setCell ⟨k3, 39, none⟩ (.int .u64 2048)) = W4 at s0 b4 ⊢
  have HS4 := Lib.hid s0
  have HM4 := Lib.hid (HM.out.below b4)
  have HB4 := Lib.hid (HBstep HB2.out b4)
  clear s0 hk b3 b4 c0 c3 c4 cf H0 H1 hW3 hk3 hzs HM HB2
  go_cut [9] from 32 to 35 (fun v wx => ∃ (P : Nat) (G : Nat → Prop) (b t : Nat), v = .pointer (some ⟨P, 0, none⟩) ∧ Pip wx G P ⟨cleanS lnS, [], none, (cleanS lnS).pc, false⟩ ⟨busV0 lnF, tl0, b, p, t⟩ ∧ (∀ c, G c → w.heap.size ≤ c) ∧ Below w.heap.size w wx)
  case first =>
    have sd : HasSt W4.drew k3 lnS := HS4.out.below (Below.refl _ _).drew
    have md : IsMem W4.drew p g 92 lnF := HM4.out.below (Below.refl _ _).drew
    have bd : Below w.heap.size w W4.drew := HBstep HB4.out (Below.refl _ _).drew
    have SD := Lib.hid sd
    have MD := Lib.hid md
    have BD := Lib.hid bd
    clear sd md bd
    refine wp_region_any (by kernel_rfl) ?_
    show wpAny _ _ _ _ 5 #[false, false, false, false, false] _ W4.drew
    refine wpAny_take (i := 1) rfl (by kernel_rfl) (by kernel_rfl) (by kernel_rfl) (fun c a w h => h) (.inl ⟨rfl, fun w => rfl⟩) ?_
    refine wpAny_all (rs := [0, 2]) (by kernel_rfl) (by simp) ?_
    intro i hi
    have hi' : i = 0 ∨ i = 2 := by simpa using hi
    rcases hi' with rfl | rfl
    · skip
      refine wpOp_step rfl ?_
      intro K1 hK1
      refine step_load_rl SD.out rfl rfl rfl (hK1 _ _ ?_)
      refine wpAny_all (rs := [2]) (by kernel_rfl) (by simp) ?_
      intro i hi
      obtain rfl : i = 2 := by simpa using hi
      refine wpOp_step rfl ?_
      intro K2 hK2
      rw [if_pos (by simp [Region.wanted])]
      unfold Oper.wp
      go_simp
      (with_reducible refine (bus_b _ MD.out).mono ?_)
      rintro e w5 ⟨b, rfl, hbl, ⟨ks, vs, hBus⟩, hb5⟩
      refine hK2 _ _ ?_
      refine wpAny_all (rs := [3]) (by kernel_rfl) (by simp) ?_
      intro i hi
      obtain rfl : i = 3 := by simpa using hi
      refine wpOp_step rfl ?_
      intro K3 hK3
      rw [if_pos (by simp [Region.wanted])]
      unfold Oper.wp
      go_simp
      (with_reducible refine (pipe_b (B := w.heap.size) hBus lnS (Nat.le_trans BD.out.size hbl) hA1.out.1 hA1.out.2 (HBstep BD.out hb5).size).mono ?_)
      rintro e w6 ⟨P, G, t, rfl, hP, hG, hF⟩
      have hb6 := below_fr (HBstep BD.out hb5) hF
      refine hK3 _ _ ?_
      refine wpAny_all (rs := [4]) (by kernel_rfl) (by simp) ?_
      intro i hi
      obtain rfl : i = 4 := by simpa using hi
      refine wpOp_step rfl ?_
      intro K4 hK4
      rw [if_pos (by simp [Region.wanted])]
      unfold Oper.wp
      go_simp
      refine hK4 _ _ ?_
      refine wpAny_done (by kernel_rfl) ?_ _
      go_wp2_with fail
      go_meet
      exact ⟨P, G, b, t, rfl, hP, hG, hb6⟩
    · skip
      refine wpOp_step rfl ?_
      intro K2 hK2
      rw [if_pos (by simp [Region.wanted])]
      unfold Oper.wp
      go_simp
      (with_reducible refine (bus_b _ MD.out).mono ?_)
      rintro e w5 ⟨b, rfl, hbl, ⟨ks, vs, hBus⟩, hb5⟩
      refine hK2 _ _ ?_
      refine wpAny_all (rs := [0]) (by kernel_rfl) (by simp) ?_
      intro i hi
      obtain rfl : i = 0 := by simpa using hi
      refine wpOp_step rfl ?_
      intro K1 hK1
      refine step_load_rl (SD.out.below hb5) rfl rfl rfl (hK1 _ _ ?_)
      refine wpAny_all (rs := [3]) (by kernel_rfl) (by simp) ?_
      intro i hi
      obtain rfl : i = 3 := by simpa using hi
      refine wpOp_step rfl ?_
      intro K3 hK3
      rw [if_pos (by simp [Region.wanted])]
      unfold Oper.wp
      go_simp
      (with_reducible refine (pipe_b (B := w.heap.size) hBus lnS (Nat.le_trans BD.out.size hbl) hA1.out.1 hA1.out.2 (HBstep BD.out hb5).size).mono ?_)
      rintro e w6 ⟨P, G, t, rfl, hP, hG, hF⟩
      have hb6 := below_fr (HBstep BD.out hb5) hF
      refine hK3 _ _ ?_
      refine wpAny_all (rs := [4]) (by kernel_rfl) (by simp) ?_
      intro i hi
      obtain rfl : i = 4 := by simpa using hi
      refine wpOp_step rfl ?_
      intro K4 hK4
      rw [if_pos (by simp [Region.wanted])]
      unfold Oper.wp
      go_simp
      refine hK4 _ _ ?_
      refine wpAny_done (by kernel_rfl) ?_ _
      go_wp2_with fail
      go_meet
      exact ⟨P, G, b, t, rfl, hP, hG, hb6⟩
  case rest =>
    obtain ⟨P, G, b, t, rfl, hP, hG, hb6⟩ := hcut
    have HP := Lib.hid hP
    have HG := Lib.hid hG
    have HB := Lib.hid hb6
    have HI := Lib.hid (show ∃ n m V S G', PInv (lnP b p t) n m V S ∧ Pip wc G' P V S ∧ Went wc G wc G' ∧ n ≤ 0 ∧ (aN < 0 → 0 + mu V ≤ aN + 21) from
      ⟨0, 0, _, _, G, pinv0 (lnP b p t) (cleanS lnS) _ ln_st0.symm rfl (by rw [ln_st0]; rfl), hP, Went.refl _ _, Nat.le_refl _, fun h => by omega⟩)
    clear hP hG hb6 HS4 HM4 HB4 hA1 HP
    go_wp2_with fail
    go_loopw [10, 11] (fun i x wr => ∃ t' : Nat, i = .int .i64 t' ∧ t' ≤ aN + 21 ∧ ∃ n m V S G', PInv (lnP b p t) n m V S ∧ Pip wr G' P V S ∧ Went wc G wr G' ∧ n ≤ t' ∧ (aN < t' → t' + mu V ≤ aN + 21)) (fun i _ _ => 2000 - (intOf i).toNat)
    case atStart => exact ⟨0, rfl, by omega, HI.out⟩
    case round =>
      clear HI
      obtain ⟨t', rfl, ht, n, m, V, S, G', hI, hP, hW, hn, hT⟩ := hrel
      have haN := HAN.out
      have hd : decide ((t' : Int) < (aN : Int) + 1024) = true := decide_eq_true (by omega)
      have hw0 : wrap64 (aN : Int) = (aN : Int) := w64_in _ (by omega)
      have hw1 : wrap64 ((aN : Int) + 1024) = (aN : Int) + 1024 := w64_in _ (by omega)
      have HW2 := Lib.hid (show Value.int .i64 (wrap64 ((t' : Int) + 1)) = .int .i64 ((t' + 1 : Nat) : Int) from by rw [w64_in _ (by omega)]; rfl)
      have HMS := Lib.hid (show 2000 - (intOf (.int .i64 (wrap64 ((t' : Int) + 1)))).toNat < 2000 - (intOf (.int .i64 (t' : Int))).toNat from by
        rw [w64_in _ (by omega)]
        exact Nat.sub_lt_sub_left (show t' < 2000 by omega) (Nat.lt_succ_self t'))
      obtain ⟨la, hla⟩ : ∃ la : Int, (lN : Int) % 8 = la := ⟨_, rfl⟩
      have hla7 : 0 ≤ la ∧ la ≤ 7 := by omega
      have HI := Lib.hid hI
      have HP := Lib.hid hP
      have HW := Lib.hid hW
      have HN := Lib.hid hn
      have HT := Lib.hid hT
      have HLA := Lib.hid hla7
      have HT21 := Lib.hid ht
      by_cases hl : aN ≤ t'
      · have hl1 : decide ((aN : Int) ≤ (t' : Int)) = true := decide_eq_true (by omega)
        have hl2 : decide (aN ≤ t') = true := decide_eq_true hl
        have HL := Lib.hid hl
        by_cases hr : ∃ x l, V.l = x :: l ∧ x.stage = 3 ∧ x.left = 0
        · obtain ⟨x, l, hV, h3, hx0⟩ := hr
          obtain ⟨V2, S2, Pc, hc, hs2⟩ := ln_trap b p t hI (by omega) hV h3 hx0 la 0 hla7.1 hla7.2
          have key : Calls Tryz.prog 14 #[.pointer (some ⟨P, 0, none⟩), .agg #[.int .i64 la, .int .i64 0, .bool true]] wr _ := hc wr G' P hP
          have KEY := Lib.hid key
          have HS2 := Lib.hid hs2
          clear hc hs2 key hV h3 hx0 hI hP hW hn hT ht hla7 hl haN
          go_wp2_with fail
          (with_reducible refine KEY.out.mono ?_)
          rintro e w5 ⟨G2, ⟨v, rfl, k1, rfl, hb1, hb2, hb3⟩, P2, W2⟩
          obtain ⟨pn, hpn⟩ : ∃ pn : Nat, pn = Pc.toNat := ⟨_, rfl⟩
          have r0 : w5.cell? ⟨k1, 0, none⟩ = some (.int .u64 (pn : Int)) := by simp [World.cell?, hb1, retL, U, hpn]
          have r1 : w5.cell? ⟨k1, 1, none⟩ = some (.int .u32 0) := by simp [World.cell?, hb1, retL]
          have r2 : w5.cell? ⟨k1, 2, none⟩ = some (.int .i64 0) := by simp [World.cell?, hb1, retL]
          have r3 : w5.cell? ⟨k1, 3, none⟩ = some (.int .u64 0) := by simp [World.cell?, hb1, retL, U]
          have r4 : w5.cell? ⟨k1, 4, none⟩ = some (.bool true) := by simp [World.cell?, hb1, retL]
          have r5 : w5.cell? ⟨k1, 5, none⟩ = some (.int .u64 9223372036854775817) := by simp [World.cell?, hb1, retL, U]
          have r6 : w5.cell? ⟨k1, 6, none⟩ = some (.int .u64 0) := by simp [World.cell?, hb1, retL, U]
          have r7 : w5.cell? ⟨k1, 7, none⟩ = some (.int .u64 0) := by simp [World.cell?, hb1, retL, U]
          have r8 : w5.cell? ⟨k1, 8, none⟩ = some (.bool false) := by simp [World.cell?, hb1, retL]
          have r9 : w5.cell? ⟨k1, 9, none⟩ = some (.int .i64 3) := by simp [World.cell?, hb1, retL]
          have r10 : w5.cell? ⟨k1, 10, none⟩ = some (.bool false) := by simp [World.cell?, hb1, retL]
          have r11 : w5.cell? ⟨k1, 11, none⟩ = some (.bool true) := by simp [World.cell?, hb1, retL]
          have HPN := Lib.hid hpn
          have HP2 := Lib.hid P2
          have HW2 := Lib.hid (HW.out.trans W2)
          clear hpn P2 W2 hb1 hb2 hb3 KEY
          go_wp2_with fail
          have hk5 := (MapKept.heap_alloc w5 (.cells #[.int .u64 (pn : Int), .int .u32 0, .int .i64 0, .int .u64 0, .bool true, .int .u64 9223372036854775817, .int .u64 0, .int .u64 0, .bool false, .int .i64 3, .bool false, .bool true] 47)).1
          have hb5 : Below w5.heap.size w5 (w5.alloc (.cells #[.int .u64 (pn : Int), .int .u32 0, .int .i64 0, .int .u64 0, .bool true, .int .u64 9223372036854775817, .int .u64 0, .int .u64 0, .bool false, .int .i64 3, .bool false, .bool true] 47)) := (Below.refl _ _).alloc (Nat.le_refl _) _
          generalize w5.alloc (.cells #[.int .u64 (pn : Int), .int .u32 0, .int .i64 0, .int .u64 0, .bool true, .int .u64 9223372036854775817, .int .u64 0, .int .u64 0, .bool false, .int .i64 3, .bool false, .bool true] 47) = W6 at hk5 hb5 ⊢
          clear r0 r1 r2 r3 r4 r5 r6 r7 r8 r9 r10 r11
          (with_reducible refine (state_w (HP2.out.below hb5)).mono ?_)
          rintro e w7 ⟨rfl, hb7⟩
          rw [HS2.out]
          have hk6 := (hb7.block _ (blk_lt hk5)).trans hk5
          have HB7 := Lib.hid (HBstep hb5 hb7)
          obtain ⟨sT, hsT⟩ : ∃ sT, sT = lnT (xs n) Pc (BitVec.ofNat 64 n) := ⟨_, rfl⟩
          rw [← hsT]
          obtain ⟨i1, i2, i3, i4⟩ := ln_ti (xs n) Pc (BitVec.ofNat 64 n)
          rw [← hsT] at i1 i2 i3 i4
          have j1 : sT.x 1 = BitVec.ofNat 64 ((n + 1) / 2) := by rw [i3]; exact xs_one n
          obtain ⟨k7, hk7⟩ : ∃ k7, w7.heap.size = k7 := ⟨_, rfl⟩
          obtain ⟨k5, hk5e⟩ : ∃ k5, w5.heap.size = k5 := ⟨_, rfl⟩
          rw [hk5e] at hk6 ⊢
          have hz1 : HasSt (w7.alloc (.cells Tryz.zeroCells37 37)) k7 St0 := by rw [z37, ← hk7]; exact HasSt.new w7 St0
          have hz0 := st_new w7 sT
          rw [← z37, hk7] at hz0
          obtain ⟨W8, hW8⟩ : ∃ W8, (w7.alloc (.cells Tryz.zeroCells37 37)).setRow k7 (stA sT) = W8 := ⟨_, rfl⟩
          rw [hW8] at hz0
          have hb8 : Below w7.heap.size w7 W8 := by rw [hk7]; exact hz0.2
          have hk8 := (hb8.block _ (blk_lt hk6)).trans hk6
          have n1 : n ≤ 300 := by have := HN.out; have := HT21.out; have := HAN.out; omega
          have q1 : W8.cell? ⟨k7, 32, none⟩ = some (.int .u64 2048) := by have := hz0.1.cell (stA_pc sT); rw [i1] at this; exact this
          have q2 : W8.cell? ⟨k7, 41, none⟩ = some (.int .u64 (pn : Int)) := by have := hz0.1.cell (stA_c sT 6 (by omega)); rw [i2] at this; rw [HPN.out]; exact this
          have q3 : W8.cell? ⟨k7, 1, none⟩ = some (.int .u64 (((n + 1) / 2 : Nat) : Int)) := by
            have := hz0.1.cell (stA_x sT 1 (by omega))
            rw [j1] at this
            rw [this]
            unfold U
            rw [BitVec.toNat_ofNat, Nat.mod_eq_of_lt (by omega)]
          have q4 : W8.cell? ⟨k7, 64, none⟩ = some (.int .u64 (n : Int)) := by
            have := hz0.1.cell (stA_done sT)
            rw [i4] at this
            rw [this]
            unfold U
            rw [BitVec.toNat_ofNat, Nat.mod_eq_of_lt (by omega)]
          have p0 : W8.cell? ⟨k5, 0, none⟩ = some (.int .u64 (pn : Int)) := by simp [World.cell?, hk8]
          have p4 : W8.cell? ⟨k5, 4, none⟩ = some (.bool true) := by simp [World.cell?, hk8]
          have p5 : W8.cell? ⟨k5, 5, none⟩ = some (.int .u64 9223372036854775817) := by simp [World.cell?, hk8]
          have p6 : W8.cell? ⟨k5, 6, none⟩ = some (.int .u64 0) := by simp [World.cell?, hk8]
          have p7 : W8.cell? ⟨k5, 7, none⟩ = some (.int .u64 0) := by simp [World.cell?, hk8]
          have p8 : W8.cell? ⟨k5, 8, none⟩ = some (.bool false) := by simp [World.cell?, hk8]
          have hu : IntKind.u64.wrap ((n : Int) + 1) = ((n + 1 : Nat) : Int) := by rw [u64w]; omega
          have HZ1 := Lib.hid hz1
          have FIN := Lib.hid (show Below w.heap.size w W8 from by
            have h1 := HW2.out.trans ((Went.below HB7.out).trans (Went.below hb8))
            exact ⟨h1.fr.os.trans HB.out.os, h1.fr.tape.trans HB.out.tape, h1.fr.output.trans HB.out.output, Nat.le_trans HB.out.size h1.fr.size, fun k hk => (h1.fr.block k (Nat.lt_of_lt_of_le hk HB.out.size) (fun hg => by have := HG.out k hg; omega)).trans (HB.out.block k hk)⟩)
          clear hz1 hz0 hb8 hk8 i1 i2 i3 i4 j1 hsT hb5 hb7 hk6 hk5 HP2 HW2 HS2
          go_wp2_with (first | (refine step_sts (S := sT) rfl rfl HZ1.out rfl rfl rfl ?_; rw [hW8]))
          go_ret
          exact ⟨rfl, FIN.out⟩
        · obtain ⟨V2, S2, m2, hc, hI2, hmu⟩ := plan_wait (ln_plan b p t 1000 (by omega)) (by omega) hI hla7.1 hla7.2 0 true hr
          have key : Calls Tryz.prog 14 #[.pointer (some ⟨P, 0, none⟩), .agg #[.int .i64 la, .int .i64 0, .bool true]] wr _ := hc wr G' P hP
          have KEY := Lib.hid key
          have HI2 := Lib.hid hI2
          have HMU := Lib.hid hmu
          clear hc key hI hP hW hn hT ht hla7 hl haN hI2 hmu hr
          go_wp2_with fail
          (with_reducible refine KEY.out.mono ?_)
          rintro e w5 ⟨G2, ⟨v, rfl, hv⟩, P2, W2⟩
          have hv' : v = .slice none 0 0 := hv
          subst hv'
          have FIN := Lib.hid (show t' + 1 ≤ aN + 21 ∧ ∃ n m V S G', PInv (lnP b p t) n m V S ∧ Pip w5 G' P V S ∧ Went wc G w5 G' ∧ n ≤ t' + 1 ∧ (aN < t' + 1 → (t' + 1) + mu V ≤ aN + 21) from by
            have hm := HMU.out
            have hm0 := mu_le HI.out.sl HI.out.nv
            have hT' := HT.out
            have hL := HL.out
            have hb : (t' + 1) + mu V2 ≤ aN + 21 := by
              by_cases c : aN < t'
              · have := hT' c; omega
              · omega
            exact ⟨by omega, n, m2, V2, S2, G2, HI2.out, P2, HW.out.trans W2, by have := HN.out; omega, fun _ => hb⟩)
          clear KEY HI2 HMU hv P2 W2
          go_wp2_with fail
          exact ⟨⟨t' + 1, HW2.out, FIN.out⟩, HMS.out⟩
      · have hl1 : decide ((aN : Int) ≤ (t' : Int)) = false := decide_eq_false (by omega)
        have hl2 : decide (aN ≤ t') = false := decide_eq_false hl
        have HL := Lib.hid hl
        rcases plan_cyc (ln_plan b p t 1000 (by omega)) (by omega) hI (late := la) hla7.1 hla7.2 0 with ⟨V2, S2, m2, hc, hI2, hmu⟩ | ⟨_, hN2⟩
        · have key : Calls Tryz.prog 14 #[.pointer (some ⟨P, 0, none⟩), .agg #[.int .i64 la, .int .i64 0, .bool false]] wr _ := hc wr G' P hP
          have KEY := Lib.hid key
          have HI2 := Lib.hid hI2
          clear hc key hI hP hW hn hT ht hla7 hl haN hI2 hmu
          go_wp2_with fail
          (with_reducible refine KEY.out.mono ?_)
          rintro e w5 ⟨G2, ⟨v, rfl, hv⟩, P2, W2⟩
          have hv' : v = .slice none 0 0 := hv
          subst hv'
          have FIN := Lib.hid (show t' + 1 ≤ aN + 21 ∧ ∃ n m V S G', PInv (lnP b p t) n m V S ∧ Pip w5 G' P V S ∧ Went wc G w5 G' ∧ n ≤ t' + 1 ∧ (aN < t' + 1 → (t' + 1) + mu V ≤ aN + 21) from by
            have hL := HL.out
            exact ⟨by omega, n, m2, V2, S2, G2, HI2.out, P2, HW.out.trans W2, by have := HN.out; omega, fun h => by omega⟩)
          clear KEY HI2 hv P2 W2
          go_wp2_with fail
          exact ⟨⟨t' + 1, HW2.out, FIN.out⟩, HMS.out⟩
        · obtain ⟨V2, S2, m2, hc, hI2⟩ := hN2 (by omega)
          have key : Calls Tryz.prog 14 #[.pointer (some ⟨P, 0, none⟩), .agg #[.int .i64 la, .int .i64 0, .bool false]] wr _ := hc wr G' P hP
          have hrt : ((lnP b p t).ret n).trap = false ∧ ((lnP b p t).ret n).line = false := by
            show (if n % 2 = 0 then (_ : RetV) else _).trap = false ∧ (if n % 2 = 0 then (_ : RetV) else _).line = false
            split <;> exact ⟨rfl, rfl⟩
          generalize (lnP b p t).ret n = rr at key hrt hc
          obtain ⟨x0, x1, x2, x3, x4, x5, x6, x7, x8, x9, x10, x11⟩ := rr
          obtain ⟨e4, e11⟩ := hrt
          have e4' : x4 = false := e4
          have e11' : x11 = false := e11
          subst e4'; subst e11'
          have KEY := Lib.hid key
          have HI2 := Lib.hid hI2
          clear hc key hI hP hW hn hT ht hla7 hl haN hI2 hN2 e4 e11
          go_wp2_with fail
          (with_reducible refine KEY.out.mono ?_)
          rintro e w5 ⟨G2, ⟨v, rfl, k1, rfl, hb1, hb2, hb3⟩, P2, W2⟩
          have r0 : w5.cell? ⟨k1, 0, none⟩ = some (U x0) := by simp [World.cell?, hb1, retL]
          have r1 : w5.cell? ⟨k1, 1, none⟩ = some (.int .u32 x1) := by simp [World.cell?, hb1, retL]
          have r2 : w5.cell? ⟨k1, 2, none⟩ = some (.int .i64 x2) := by simp [World.cell?, hb1, retL]
          have r3 : w5.cell? ⟨k1, 3, none⟩ = some (U x3) := by simp [World.cell?, hb1, retL]
          have r4 : w5.cell? ⟨k1, 4, none⟩ = some (.bool false) := by simp [World.cell?, hb1, retL]
          have r5 : w5.cell? ⟨k1, 5, none⟩ = some (U x5) := by simp [World.cell?, hb1, retL]
          have r6 : w5.cell? ⟨k1, 6, none⟩ = some (U x6) := by simp [World.cell?, hb1, retL]
          have r7 : w5.cell? ⟨k1, 7, none⟩ = some (U x7) := by simp [World.cell?, hb1, retL]
          have r8 : w5.cell? ⟨k1, 8, none⟩ = some (.bool x8) := by simp [World.cell?, hb1, retL]
          have r9 : w5.cell? ⟨k1, 9, none⟩ = some (.int .i64 x9) := by simp [World.cell?, hb1, retL]
          have r10 : w5.cell? ⟨k1, 10, none⟩ = some (.bool x10) := by simp [World.cell?, hb1, retL]
          have r11 : w5.cell? ⟨k1, 11, none⟩ = some (.bool false) := by simp [World.cell?, hb1, retL]
          have FIN := Lib.hid (fun (w6 : World) (hb6 : Below w5.heap.size w5 w6) => (show t' + 1 ≤ aN + 21 ∧ ∃ n m V S G', PInv (lnP b p t) n m V S ∧ Pip w6 G' P V S ∧ Went wc G w6 G' ∧ n ≤ t' + 1 ∧ (aN < t' + 1 → (t' + 1) + mu V ≤ aN + 21) from by
            have hL := HL.out
            exact ⟨by omega, n + 1, m2, V2, S2, G2, HI2.out, P2.below hb6, HW.out.trans (W2.trans (Went.below hb6)), by have := HN.out; omega, fun h => by omega⟩))
          clear KEY HI2 P2 W2 hb1 hb2 hb3
          go_wp2_with fail
          exact ⟨⟨t' + 1, HW2.out, FIN.out _ ((Below.refl _ _).alloc (Nat.le_refl _) _)⟩, HMS.out⟩
end Go.Proofs.YtfehilinnalflaaGreat
