/- Part 2 of the texts behind the law: contracts and lemmas, each proved; no condition but what each names. -/

import Derived.Test.YtfehilinnalflaaGreatQ01
import Derived.Test.YtfehilinnalflaaGreatQ02
import Derived.Test.YtfehilinnalflaaGreatQ03
import Derived.Test.YtfehilinnalflaaGreatQ04
import Derived.Test.YtfehilinnalflaaGreatQ05
import Derived.Test.YtfehilinnalflaaGreatQ06
import Derived.Test.YtfehilinnalflaaGreatQ07
import Derived.Test.YtfehilinnalflaaGreatQ08
import Derived.Test.YtfehilinnalflaaGreatQ09
import Derived.Test.YtfehilinnalflaaGreatQ10
import Derived.Test.YtfehilinnalflaaGreatQ11
import Derived.Test.YtfehilinnalflaaGreatQ12
import Derived.Test.YtfehilinnalflaaGreatQ13
import Derived.Test.YtfehilinnalflaaGreatQ14
import Derived.Test.YtfehilinnalflaaGreatQ15
import Derived.Test.YtfehilinnalflaaGreatQ16
import Derived.Test.YtfehilinnalflaaGreatQ17
import Derived.Test.YtfehilinnalflaaGreatQ18
import Derived.Test.YtfehilinnalflaaGreatQ19
import Derived.Test.YtfehilinnalflaaGreatQ20
import Derived.Test.YtfehilinnalflaaGreatR01
namespace Go.Proofs.YtfehilinnalflaaGreat
open Go.RowKit Go.BigFrame
set_option linter.unusedSimpArgs false
set_option linter.unusedVariables false
set_option maxRecDepth 100000
theorem pd_fbU {w w5 w6 : World} (h : Below w.heap.size w w5) (k : Fr (fun c => w.heap.size ≤ c) w5 w6) : Below w.heap.size w w6 :=
  ⟨k.os.trans h.os, k.tape.trans h.tape, k.output.trans h.output, Nat.le_trans h.size k.size, fun i hi => (k.block i (Nat.lt_of_lt_of_le hi h.size) (fun e => by omega)).trans (h.block i hi)⟩
def pdSaU : St := { St0 with lev := 1 }
def pdSbU : St := { pdSaU with x := updC St0.x 5 0x8000000000000010#64 }
theorem pd_zaU : Tryz.zeroCells37.setIfInBounds 33 (.int .i64 1) = stA pdSaU := by kernel_rfl
theorem pd_zbU : (stA pdSaU).setIfInBounds 5 (.int .u64 9223372036854775824) = stA pdSbU := by kernel_rfl
theorem pd_zcU : (stA pdSbU).setIfInBounds 7 (.int .u64 264) = stA pdS := by kernel_rfl
theorem pd_orU : U (7680#64 ||| 201#64) = .int .u64 (bits .or .u64 7680 201) := by kernel_rfl
theorem pd_coU : codeOf 4096#64 8 = 0 ∧ codeOf 4352#64 8 = 0 ∧ codeOf 4360#64 8 = 0 ∧ codeOf 7688#64 8 = 0 := by refine ⟨?_, ?_, ?_, ?_⟩ <;> kernel_rfl
set_option maxHeartbeats 4000000 in
theorem walkWholePagedU (late : Int) (w0 : (Lit.int .u8 late).wf = true) (w : World) :
    Calls Tryz.prog 4 #[.int .u8 late, .bool false] w fun e w' => e = .returned (.bool true) ∧ Below w.heap.size w w' := by
  obtain ⟨lN, rfl, hlN⟩ := u8_open w0
  have HLN := Lib.hid hlN
  clear w0 hlN
  go_enter Tryz.func4, Tryz.ntmps4
  go_wp2_with fail
  (with_reducible refine (known_b.run _).mono ?_)
  rintro e w1 ⟨rfl, HB0⟩
  have HB0 := Lib.hid HB0
  go_wp2_with fail
  have hk := (MapKept.heap_alloc w1 (.cells #[.int .i64 54, .int .i64 0, .int .i64 5, .int .i64 0, .int .i64 0, .int .i64 384, .int .i64 14, .int .i64 6, .int .i64 7, .int .i64 0, .int .i64 0, .int .i64 0, .int .i64 22, .int .i64 8, .int .i64 0, .int .i64 0, .int .i64 3, .int .i64 0] 28)).1
  have hb0 : Below w.heap.size w (w1.alloc (.cells #[.int .i64 54, .int .i64 0, .int .i64 5, .int .i64 0, .int .i64 0, .int .i64 384, .int .i64 14, .int .i64 6, .int .i64 7, .int .i64 0, .int .i64 0, .int .i64 0, .int .i64 22, .int .i64 8, .int .i64 0, .int .i64 0, .int .i64 3, .int .i64 0] 28)) := HBstep HB0.out ((Below.refl _ _).alloc (Nat.le_refl _) _)
  generalize w1.alloc (.cells #[.int .i64 54, .int .i64 0, .int .i64 5, .int .i64 0, .int .i64 0, .int .i64 384, .int .i64 14, .int .i64 6, .int .i64 7, .int .i64 0, .int .i64 0, .int .i64 0, .int .i64 22, .int .i64 8, .int .i64 0, .int .i64 0, .int .i64 3, .int .i64 0] 28) = W1 at hk hb0 ⊢
  have key := laid_code [pdI0, pdI1, pdI2] (by decide) pdE (fun j x hx => by
    match j, hx with
    | 0, hx => cases hx; exact pd_enc0
    | 1, hx => cases hx; exact pd_enc1
    | 2, hx => cases hx; exact pd_enc2
    | j + 3, hx => cases hx) W1 w1.heap.size 28 hk 3 rfl
  (with_reducible refine key.mono ?_)
  clear key
  rintro e w2 ⟨p, g, q, h, rfl, hA, hL⟩
  have HM := Lib.hid (show IsMem w2 p g 92 pdF0 from hL.m)
  have hA1 := Lib.hid (show w.heap.size ≤ p ∧ w.heap.size ≤ g from ⟨Nat.le_trans hb0.size hA.lp, Nat.le_trans hb0.size hA.lg⟩)
  have HB2 := Lib.hid (HBstep hb0 hL.hb)
  clear hk hb0 hA hL HB0
  obtain ⟨q1, q2, q3, q4⟩ := pd_coU
  have Q1 := Lib.hid q1
  have Q2 := Lib.hid q2
  have Q3 := Lib.hid q3
  have Q4 := Lib.hid q4
  clear q1 q2 q3 q4
  have k1 : Calls Tryz.prog 13 #[.pointer (some ⟨p, 0, none⟩), .int .u64 4096, .int .i64 8, .int .u64 4353] w2 _ := write_all 4096#64 8 4353#64 w2 HM.out
  have K1 := Lib.hid k1
  clear k1
  go_wp2_with fail
  (with_reducible refine K1.out.mono ?_)
  rintro e w3 ⟨rfl, hu, M3⟩
  have HB3 := Lib.hid (hu.below HB2.out HB2.out.size hA1.out.2)
  have k2 : Calls Tryz.prog 13 #[.pointer (some ⟨p, 0, none⟩), .int .u64 4352, .int .i64 8, .int .u64 207] w3 _ := write_all 4352#64 8 207#64 w3 M3
  have K2 := Lib.hid k2
  clear hu M3 k2 K1 HB2 HM
  go_wp2_with fail
  (with_reducible refine K2.out.mono ?_)
  rintro e w4 ⟨rfl, hu, M4⟩
  have HB4 := Lib.hid (hu.below HB3.out HB3.out.size hA1.out.2)
  have k3 : Calls Tryz.prog 13 #[.pointer (some ⟨p, 0, none⟩), .int .u64 4360, .int .i64 8, .int .u64 (bits .or .u64 7680 201)] w4 _ := pd_orU ▸ write_all 4360#64 8 (7680#64 ||| 201#64) w4 M4
  have K3 := Lib.hid k3
  clear hu M4 k3 K2 HB3
  go_wp2_with fail
  (with_reducible refine K3.out.mono ?_)
  rintro e w5 ⟨rfl, hu, M5⟩
  have HB5 := Lib.hid (hu.below HB4.out HB4.out.size hA1.out.2)
  have k4 : Calls Tryz.prog 13 #[.pointer (some ⟨p, 0, none⟩), .int .u64 7688, .int .i64 8, .int .u64 4242] w5 _ := write_all 7688#64 8 4242#64 w5 M5
  have K4 := Lib.hid k4
  clear hu M5 k4 K3 HB4
  go_wp2_with fail
  (with_reducible refine K4.out.mono ?_)
  rintro e w6 ⟨rfl, hu, M6⟩
  have HM := Lib.hid (show IsMem w6 p g 92 (pdF 201#64) from M6)
  have HB2 := Lib.hid (hu.below HB5.out HB5.out.size hA1.out.2)
  clear hu M6 K4 HB5
  have hz1 : HasSt (w6.alloc (.cells Tryz.zeroCells37 37)) w6.heap.size St0 := by rw [z37]; exact HasSt.new w6 St0
  have hz0 := st_new w6 pdSaU
  rw [← z37] at hz0
  have hzs := pd_zaU
  obtain ⟨k3, hk3⟩ : ∃ k3, w6.heap.size = k3 := ⟨_, rfl⟩
  rw [hk3] at hz0 hz1
  obtain ⟨W3, hW3⟩ : ∃ W3, (w6.alloc (.cells Tryz.zeroCells37 37)).setRow k3 (stA pdSaU) = W3 := ⟨_, rfl⟩
  rw [hW3] at hz0
  have H1 := Lib.hid hz1
  have H0 := Lib.hid hz0
  clear hz1 hz0
  have c5 : W3.cell? ⟨k3, 5, none⟩ = some (U (pdSaU.x 5)) := H0.out.1.cell (stA_x pdSaU 5 (by omega))
  have c7 : W3.cell? ⟨k3, 7, none⟩ = some (U (pdSaU.x 7)) := H0.out.1.cell (stA_x pdSaU 7 (by omega))
  have cf : ∀ j, W3.frozen? ⟨k3, j, none⟩ = false := fun j => H0.out.1.free j
  go_wp2_with (first | (refine step_sts (S := pdSaU) rfl rfl H1.out rfl rfl rfl ?_; rw [hW3]))
  have s0 : HasSt ((W3.setCell ⟨k3, 5, none⟩ (.int .u64 9223372036854775824)).setCell ⟨k3, 7, none⟩ (.int .u64 264)) k3 pdS := (H0.out.1.set 5 _ pd_zbU).set 7 _ pd_zcU
  have hk : w6.heap.size ≤ k3 := by omega
  have b3 : Below w6.heap.size w6 W3 := by rw [hk3]; exact H0.out.2
  have b4 : Below w6.heap.size w6 ((W3.setCell ⟨k3, 5, none⟩ (.int .u64 9223372036854775824)).setCell ⟨k3, 7, none⟩ (.int .u64 264)) := by
    have h1 := st_cell (k := 5) (v := .int .u64 9223372036854775824) b3 b3.size hk
    exact st_cell (k := 7) (v := .int .u64 264) h1 h1.size hk
  generalize ((W3.setCell ⟨k3, 5, none⟩ (.int .u64 9223372036854775824)).setCell ⟨k3, 7, none⟩ (.int .u64 264)) = W4 at s0 b4 ⊢
  have HS4 := Lib.hid s0
  have HM4 := Lib.hid (HM.out.below b4)
  have HB4 := Lib.hid (HBstep HB2.out b4)
  clear s0 hk b3 b4 c5 c7 cf H0 H1 hW3 hk3 hzs HM HB2 Q1 Q2 Q3 Q4
  go_cut [10] from 42 to 45 (fun v wx => ∃ (P : Nat) (G : Nat → Prop) (b t : Nat), v = .pointer (some ⟨P, 0, none⟩) ∧ Pip wx G P ⟨cleanS pdS, [], none, (cleanS pdS).pc, false⟩ ⟨busV0 (pdF 201#64), tl0, b, p, t⟩ ∧ (∀ c, G c → w.heap.size ≤ c) ∧ Below w.heap.size w wx)
  case first =>
    have sd : HasSt W4.drew k3 pdS := HS4.out.below (Below.refl _ _).drew
    have md : IsMem W4.drew p g 92 (pdF 201#64) := HM4.out.below (Below.refl _ _).drew
    have bd : Below w.heap.size w W4.drew := HBstep HB4.out (Below.refl _ _).drew
    have SD := Lib.hid sd
    have MD := Lib.hid md
    have BD := Lib.hid bd
    clear sd md bd
    refine wp_region_any (by kernel_rfl) ?_
    show wpAny _ _ _ _ 5 #[false, false, false, false, false] _ W4.drew
    refine wpAny_take (i := 1) rfl (by kernel_rfl) (by kernel_rfl) (by kernel_rfl) (fun c a w h => h) (.inl ⟨rfl, fun w => rfl⟩) ?_
    refine wpAny_all (rs := [0, 2]) (by kernel_rfl) (by simp) ?_
    intro i hi
    have hi' : i = 0 ∨ i = 2 := by simpa using hi
    rcases hi' with rfl | rfl
    · skip
      refine wpOp_step rfl ?_
      intro K1 hK1
      refine step_load_rl SD.out rfl rfl rfl (hK1 _ _ ?_)
      refine wpAny_all (rs := [2]) (by kernel_rfl) (by simp) ?_
      intro i hi
      obtain rfl : i = 2 := by simpa using hi
      refine wpOp_step rfl ?_
      intro K2 hK2
      rw [if_pos (by simp [Region.wanted])]
      unfold Oper.wp
      go_simp
      (with_reducible refine (bus_b _ MD.out).mono ?_)
      rintro e w5 ⟨b, rfl, hbl, ⟨ks, vs, hBus⟩, hb5⟩
      refine hK2 _ _ ?_
      refine wpAny_all (rs := [3]) (by kernel_rfl) (by simp) ?_
      intro i hi
      obtain rfl : i = 3 := by simpa using hi
      refine wpOp_step rfl ?_
      intro K3 hK3
      rw [if_pos (by simp [Region.wanted])]
      unfold Oper.wp
      go_simp
      (with_reducible refine (pipe_b (B := w.heap.size) hBus pdS (Nat.le_trans BD.out.size hbl) hA1.out.1 hA1.out.2 (HBstep BD.out hb5).size).mono ?_)
      rintro e w6 ⟨P, G, t, rfl, hP, hG, hF⟩
      have hb6 := pd_fbU (HBstep BD.out hb5) hF
      refine hK3 _ _ ?_
      refine wpAny_all (rs := [4]) (by kernel_rfl) (by simp) ?_
      intro i hi
      obtain rfl : i = 4 := by simpa using hi
      refine wpOp_step rfl ?_
      intro K4 hK4
      rw [if_pos (by simp [Region.wanted])]
      unfold Oper.wp
      go_simp
      refine hK4 _ _ ?_
      refine wpAny_done (by kernel_rfl) ?_ _
      go_wp2_with fail
      go_meet
      exact ⟨P, G, b, t, rfl, hP, hG, hb6⟩
    · skip
      refine wpOp_step rfl ?_
      intro K2 hK2
      rw [if_pos (by simp [Region.wanted])]
      unfold Oper.wp
      go_simp
      (with_reducible refine (bus_b _ MD.out).mono ?_)
      rintro e w5 ⟨b, rfl, hbl, ⟨ks, vs, hBus⟩, hb5⟩
      refine hK2 _ _ ?_
      refine wpAny_all (rs := [0]) (by kernel_rfl) (by simp) ?_
      intro i hi
      obtain rfl : i = 0 := by simpa using hi
      refine wpOp_step rfl ?_
      intro K1 hK1
      refine step_load_rl (SD.out.below hb5) rfl rfl rfl (hK1 _ _ ?_)
      refine wpAny_all (rs := [3]) (by kernel_rfl) (by simp) ?_
      intro i hi
      obtain rfl : i = 3 := by simpa using hi
      refine wpOp_step rfl ?_
      intro K3 hK3
      rw [if_pos (by simp [Region.wanted])]
      unfold Oper.wp
      go_simp
      (with_reducible refine (pipe_b (B := w.heap.size) hBus pdS (Nat.le_trans BD.out.size hbl) hA1.out.1 hA1.out.2 (HBstep BD.out hb5).size).mono ?_)
      rintro e w6 ⟨P, G, t, rfl, hP, hG, hF⟩
      have hb6 := pd_fbU (HBstep BD.out hb5) hF
      refine hK3 _ _ ?_
      refine wpAny_all (rs := [4]) (by kernel_rfl) (by simp) ?_
      intro i hi
      obtain rfl : i = 4 := by simpa using hi
      refine wpOp_step rfl ?_
      intro K4 hK4
      rw [if_pos (by simp [Region.wanted])]
      unfold Oper.wp
      go_simp
      refine hK4 _ _ ?_
      refine wpAny_done (by kernel_rfl) ?_ _
      go_wp2_with fail
      go_meet
      exact ⟨P, G, b, t, rfl, hP, hG, hb6⟩
  case rest =>
    obtain ⟨P, G, b, t, rfl, hP, hG, hb6⟩ := hcut
    have hP2 : Pip wc G P ⟨pdB, [], none, pdB.pc, false⟩ (pdH 201#64 b p t 0#64 e0T) := by
      have e : (⟨busV0 (pdF 201#64), e0T, b, p, t⟩ : HS) = pdH 201#64 b p t 0#64 e0T := rfl
      rw [tl0_eq, e] at hP
      exact hP
    have hI0 := pinv0 (pdP 201#64 b p t) pdB (pdH 201#64 b p t 0#64 e0T) rfl rfl (by rw [pd_pb]; rfl)
    have hw0 : wrap64 (lN : Int) = (lN : Int) := w64_in _ (by have := HLN.out; omega)
    have kR : Calls Tryz.prog 12 #[.pointer (some ⟨P, 0, none⟩), .int .i64 2, .int .i64 (lN : Int)] wc _ := runs_w (pd_drive0 b p t) (by omega) lN (by have := HLN.out; omega) hP2 (.inl ⟨by simp, rfl, 0, hI0⟩)
    rw [← hw0] at kR
    clear hw0
    have KR := Lib.hid kR
    have HG := Lib.hid hG
    have HB := Lib.hid hb6
    clear hP hG hb6 HS4 HM4 HB4 hA1 hP2 hI0 kR
    go_wp2_with fail
    (with_reducible refine KR.out.mono ?_)
    rintro e w7 ⟨v, L, t7, rfl, hlen, hR⟩
    obtain ⟨V7, S7, G7, hI7, hP7, hW7, hRt, _⟩ := hR.st
    have hL : L = pdL0 ++ [pdR] := by
      rcases hI7 with ⟨h, _⟩ | ⟨h, _⟩
      · omega
      · exact h
    have FIN := Lib.hid (show Below w.heap.size w w7 from by
      have h1 := hW7
      exact ⟨h1.fr.os.trans HB.out.os, h1.fr.tape.trans HB.out.tape, h1.fr.output.trans HB.out.output, Nat.le_trans HB.out.size h1.fr.size, fun k hk => (h1.fr.block k (Nat.lt_of_lt_of_le hk HB.out.size) (fun hg => by have := HG.out k hg; omega)).trans (HB.out.block k hk)⟩)
    subst hL
    rcases hRt with ⟨_, h0⟩ | ⟨La, ca, rfl, hAt, _, _⟩
    · cases h0
    have x4 : w7.cell? ⟨La, 4, none⟩ = some (.bool false) := hAt.cell (k := 0) (j := 4) rfl rfl
    have y2 : w7.cell? ⟨La, 14, none⟩ = some (.int .i64 0) := hAt.cell (k := 1) (j := 2) rfl rfl
    have y3 : w7.cell? ⟨La, 15, none⟩ = some (.int .u64 0) := hAt.cell (k := 1) (j := 3) rfl rfl
    have y4 : w7.cell? ⟨La, 16, none⟩ = some (.bool true) := hAt.cell (k := 1) (j := 4) rfl rfl
    have y5 : w7.cell? ⟨La, 17, none⟩ = some (.int .u64 13) := hAt.cell (k := 1) (j := 5) rfl rfl
    have y6 : w7.cell? ⟨La, 18, none⟩ = some (.int .u64 264) := hAt.cell (k := 1) (j := 6) rfl rfl
    have y7 : w7.cell? ⟨La, 19, none⟩ = some (.int .u64 0) := hAt.cell (k := 1) (j := 7) rfl rfl
    have y8 : w7.cell? ⟨La, 20, none⟩ = some (.bool false) := hAt.cell (k := 1) (j := 8) rfl rfl
    have y9 : w7.cell? ⟨La, 21, none⟩ = some (.int .i64 3) := hAt.cell (k := 1) (j := 9) rfl rfl
    clear hAt hI7 hP7 hW7 hR KR HG HB hlen
    go_wp2_with fail
    go_ret
    exact ⟨rfl, FIN.out⟩
end Go.Proofs.YtfehilinnalflaaGreat
