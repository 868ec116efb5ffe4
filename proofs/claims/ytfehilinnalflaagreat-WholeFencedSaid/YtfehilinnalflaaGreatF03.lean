/- Part 3 of the texts behind the law: contracts and lemmas, each proved; no condition but what each names. -/
import Derived.Laws.BitsAllLaws
import Derived.Test.YtfehilinnalflaaGreatF01
import Derived.Test.YtfehilinnalflaaGreatF02
import Derived.Test.YtfehilinnalflaaGreatQ01
import Derived.Test.YtfehilinnalflaaGreatQ02
import Derived.Test.YtfehilinnalflaaGreatQ03
import Derived.Test.YtfehilinnalflaaGreatQ04
import Derived.Test.YtfehilinnalflaaGreatQ05
import Derived.Test.YtfehilinnalflaaGreatQ06
import Derived.Test.YtfehilinnalflaaGreatQ07
import Derived.Test.YtfehilinnalflaaGreatQ08
import Derived.Test.YtfehilinnalflaaGreatQ09
import Derived.Test.YtfehilinnalflaaGreatQ10
import Derived.Test.YtfehilinnalflaaGreatQ11
import Derived.Test.YtfehilinnalflaaGreatQ12
import Derived.Test.YtfehilinnalflaaGreatQ13
import Derived.Test.YtfehilinnalflaaGreatQ14
import Derived.Test.YtfehilinnalflaaGreatQ15
import Derived.Test.YtfehilinnalflaaGreatQ16
import Derived.Test.YtfehilinnalflaaGreatQ17
import Derived.Test.YtfehilinnalflaaGreatQ18
import Derived.Test.YtfehilinnalflaaGreatQ19
import Derived.Test.YtfehilinnalflaaGreatQ20
namespace Go.Proofs.YtfehilinnalflaaGreat
open Go.RowKit Go.BigFrame
set_option linter.unusedSimpArgs false
set_option linter.unusedVariables false
set_option maxRecDepth 100000
set_option maxHeartbeats 4000000 in
theorem fe_h4 (v D : BitVec 64) (k : Nat) (b p t : Nat) (T : BitVec 64) (pick : Int) : slV (bT (feZ v D k) (feH (feF1 v) b p t T) 260#64 pick) = feW4 ∧ (bT (feZ v D k) (feH (feF1 v) b p t T) 260#64 pick).theM (feH (feF1 v) b p t T) = feH (feF1 v) b p t T ∧ (bT (feZ v D k) (feH (feF1 v) b p t T) 260#64 pick).needB = (((decide (b = b) && true) && true) && true) := by
  refine ⟨?_, ?_, ?_⟩ <;> kernel_rfl
theorem fe_st0 (v : BitVec 64) : cleanS (feS v) = feY v 0#64 0#64 := by
  have hp : (feB v).pc = 0#64 := by kernel_rfl
  have hd : (feB v).done = 0#64 := by kernel_rfl
  have e : ∀ (s : St) (P D : BitVec 64), s.pc = P → s.done = D → s = { s with pc := P, done := D } := by
    intro s P D h1 h2
    subst h1; subst h2; rfl
  exact e _ _ _ hp hd
end Go.Proofs.YtfehilinnalflaaGreat
namespace Go.Proofs.YtfehilinnalflaaGreat
open Go.RowKit Go.BigFrame
set_option linter.unusedSimpArgs false
set_option linter.unusedVariables false
set_option maxRecDepth 100000
section
variable (v P D : BitVec 64) (b p t : Nat) (T : BitVec 64) (pick : Int)
set_option maxHeartbeats 4000000 in
theorem fe_g1 : slV (bT (feY v P D) (feH (feF1 v) b p t T) 4#64 pick) = feW1 ∧ (bT (feY v P D) (feH (feF1 v) b p t T) 4#64 pick).theM (feH (feF1 v) b p t T) = feH (feF1 v) b p t T ∧ (bT (feY v P D) (feH (feF1 v) b p t T) 4#64 pick).needB = (((decide (b = b) && true) && true) && true) := by
  refine ⟨?_, ?_, ?_⟩ <;> kernel_rfl
set_option maxHeartbeats 4000000 in
theorem fe_g2 : slV (bT (feY v P D) (feH (feF1 v) b p t T) 8#64 pick) = feW2 ∧ (bT (feY v P D) (feH (feF1 v) b p t T) 8#64 pick).theM (feH (feF1 v) b p t T) = feH (feF1 v) b p t T ∧ (bT (feY v P D) (feH (feF1 v) b p t T) 8#64 pick).needB = (((decide (b = b) && true) && true) && true) := by
  refine ⟨?_, ?_, ?_⟩ <;> kernel_rfl
set_option maxHeartbeats 4000000 in
theorem fe_g4 : slV (bT (feY v P D) (feH (feF1 v) b p t T) 260#64 pick) = feW4 ∧ (bT (feY v P D) (feH (feF1 v) b p t T) 260#64 pick).theM (feH (feF1 v) b p t T) = feH (feF1 v) b p t T ∧ (bT (feY v P D) (feH (feF1 v) b p t T) 260#64 pick).needB = (((decide (b = b) && true) && true) && true) := by
  refine ⟨?_, ?_, ?_⟩ <;> kernel_rfl
end
end Go.Proofs.YtfehilinnalflaaGreat
namespace Go.Proofs.YtfehilinnalflaaGreat
open Go.RowKit Go.BigFrame
set_option linter.unusedSimpArgs false
set_option linter.unusedVariables false
set_option maxRecDepth 100000
def feLast : Nat → Bool
  | 0 => false
  | 1 => true
  | 2 => false
  | 3 => false
  | _ => true
noncomputable def feWq (k : Nat) : BitVec 64 := BitVec.ofInt 64 (feW k)
noncomputable def fePl (k : Nat) (b p t : Nat) : Plan where
  st n := match n with
    | 0 => feY (feWq k) 0#64 0#64
    | 1 => feY (feWq k) 4#64 1#64
    | 2 => feY (feWq k) 8#64 2#64
    | 3 => feY (feWq k) 256#64 3#64
    | _ => feZ (feWq k) 3#64 k
  hs n m := match n with
    | 0 => feH feF0 b p t 0#64
    | 1 => feH (feF1 (feWq k)) b p t 0#64
    | 2 => feH (feF1 (feWq k)) b p t 1#64
    | 3 => feH (feF1 (feWq k)) b p t 2#64
    | _ => feH (feF1 (feWq k)) b p t 3#64
  slot := feSl k
  pc m := match m with
    | 0 => 0#64
    | 1 => 4#64
    | 2 => 8#64
    | 3 => 256#64
    | _ => 260#64
  last := feLast
  fl n := n == 1
  ret n := match n with
    | 0 => ⟨0#64, 0x00732023, 0, 0#64, false, 0#64, 0#64, 0#64, false, 0, false, false⟩
    | 1 => ⟨4#64, 0x0000100f, 0, 0#64, false, 0#64, 0#64, 0#64, false, 0, false, false⟩
    | 2 => ⟨8#64, 0x0f80006f, 0, 0#64, false, 0#64, 0#64, 0#64, false, 0, false, false⟩
    | _ => ⟨256#64, feW k, 5, 0#64 + BitVec.ofInt 64 (feK k), false, 0#64, 0#64, 0#64, false, 0, false, false⟩
theorem fe_last {n m : Nat} (h : ∀ j, n ≤ j → j + 1 < m → feLast j = false) : (n ≤ 1 → m ≤ 2) ∧ (n ≤ 4 → m ≤ 5) := by
  refine ⟨fun hn => ?_, fun hn => ?_⟩
  · by_cases c : m ≤ 2
    · exact c
    · have := h 1 hn (by omega); cases this
  · by_cases c : m ≤ 5
    · exact c
    · have := h 4 hn (by omega); cases this
theorem fe_and3 (b : Nat) : (((decide (b = b) && true) && true) && true) = true := by simp
set_option maxHeartbeats 1000000 in
theorem fe_plan (k : Nat) (hk : k < 4096) (b p t : Nat) : PlanOk (fePl k b p t) 4 false := by
  refine ⟨fun m => ?_, fun i j => fe_mvs k i j, fun n m pick hn hw hm => ?_, fun n m hn hw hm => ?_, fun n m at_ stops hn hw hm => ?_, fun n hn => ?_⟩
  · match m with
    | 0 => rfl
    | 1 => rfl
    | 2 => rfl
    | 3 => rfl
    | _ + 4 => rfl
  · have hl : ∀ j, n ≤ j → j + 1 < m + 1 → feLast j = false := hw.2.2
    obtain ⟨h2, h5⟩ := fe_last hl
    match n, m with
    | 0, 0 => exact ⟨(fe_n0 (feWq k) 0#64 0#64 b p t 0#64 pick).trans (fe_and3 b), fe_f0 .., fe_m0 ..⟩
    | 0, 1 => exact ⟨(fe_n1 (feWq k) 0#64 0#64 b p t 0#64 pick).trans (fe_and3 b), fe_f1 .., fe_m1 ..⟩
    | 0, m + 2 => have := h2 (by omega); omega
    | 1, 0 => omega
    | 1, 1 => obtain ⟨a1, a2, a3⟩ := fe_g1 (feWq k) 4#64 1#64 b p t 0#64 pick; exact ⟨a3.trans (fe_and3 b), a1, a2⟩
    | 1, m + 2 => have := h2 (by omega); omega
    | 2, 0 => omega
    | 2, 1 => omega
    | 2, 2 => obtain ⟨a1, a2, a3⟩ := fe_g2 (feWq k) 8#64 2#64 b p t 1#64 pick; exact ⟨a3.trans (fe_and3 b), a1, a2⟩
    | 2, 3 => obtain ⟨a1, a2, a3⟩ := fe_g3 k hk 8#64 2#64 b p t 1#64 pick; exact ⟨a3, a1, a2⟩
    | 2, 4 => obtain ⟨a1, a2, a3⟩ := fe_g4 (feWq k) 8#64 2#64 b p t 1#64 pick; exact ⟨a3.trans (fe_and3 b), a1, a2⟩
    | 2, m + 5 => have := h5 (by omega); omega
    | 3, 0 => omega
    | 3, 1 => omega
    | 3, 2 => omega
    | 3, 3 => obtain ⟨a1, a2, a3⟩ := fe_g3 k hk 256#64 3#64 b p t 2#64 pick; exact ⟨a3, a1, a2⟩
    | 3, 4 => obtain ⟨a1, a2, a3⟩ := fe_g4 (feWq k) 256#64 3#64 b p t 2#64 pick; exact ⟨a3.trans (fe_and3 b), a1, a2⟩
    | 3, m + 5 => have := h5 (by omega); omega
    | 4, 0 => omega
    | 4, 1 => omega
    | 4, 2 => omega
    | 4, 3 => omega
    | 4, 4 => obtain ⟨a1, a2, a3⟩ := fe_h4 (feWq k) 3#64 k b p t 3#64 pick; exact ⟨a3.trans (fe_and3 b), a1, a2⟩
    | 4, m + 5 => have := h5 (by omega); omega
    | n + 5, m => omega
  · match m with
    | 0 => exact ⟨fe_x0.1, fe_x0.2.1, fe_x0.2.2.1, fun _ => fe_x0.2.2.2⟩
    | 1 => exact ⟨fe_x1.1, fe_x1.2.1, fe_x1.2.2, fun h => by cases h⟩
    | 2 => exact ⟨fe_x2.1, fe_x2.2.1, fe_x2.2.2.1, fun _ => fe_x2.2.2.2⟩
    | 3 => obtain ⟨a1, a2, a3, a4⟩ := fe_x3 k hk; exact ⟨a1, a2, a3, fun _ => a4⟩
    | _ + 4 => exact ⟨fe_x4.1, fe_x4.2.1, fe_x4.2.2, fun h => by cases h⟩
  · match n with
    | 0 =>
      obtain ⟨h1, h2, h3, h4, h5⟩ := fe_ret0 (feWq k) b p t at_ stops
      refine ⟨h1, ?_, h3, h4, h5⟩
      show ({ retV (dT (feY (feWq k) 0#64 0#64) (feH feF0 b p t 0#64) at_ stops feV0 false) with line := false } : RetV) = _
      rw [h2]; rfl
    | 1 =>
      obtain ⟨h1, h2, h3, h4, h5⟩ := fe_ret1 (feWq k) b p t at_ stops
      refine ⟨h1, ?_, h3, h4, h5⟩
      show ({ retV (dT (feY (feWq k) 4#64 1#64) (feH (feF1 (feWq k)) b p t 1#64) at_ stops feV1 false) with line := false } : RetV) = _
      rw [h2]; rfl
    | 2 =>
      obtain ⟨h1, h2, h3, h4, h5⟩ := fe_ret2 (feWq k) b p t at_ stops
      refine ⟨h1, ?_, h3, h4, h5⟩
      show ({ retV (dT (feY (feWq k) 8#64 2#64) (feH (feF1 (feWq k)) b p t 2#64) at_ stops feV2 false) with line := false } : RetV) = _
      rw [h2]; rfl
    | 3 =>
      obtain ⟨h1, h2, h3, h4, h5⟩ := fe_ret3 k hk (feWq k) b p t at_ stops
      refine ⟨h1, ?_, h3, h4, h5⟩
      show ({ retV (dT (feY (feWq k) 256#64 3#64) (feH (feF1 (feWq k)) b p t 3#64) at_ stops (feV3 k) false) with line := false } : RetV) = _
      rw [h2]; rfl
    | n + 4 => omega
  · match n with
    | 0 => exact ⟨fun h => (by cases h), fun h => (by cases h)⟩
    | 1 => exact ⟨fun _ => rfl, fun _ => rfl⟩
    | 2 => exact ⟨fun h => (by cases h), fun h => (by cases h)⟩
    | 3 => exact ⟨fun h => (by cases h), fun h => (by cases h)⟩
    | n + 4 => omega
theorem fe_drive (k : Nat) (hk : k < 4096) (b p t : Nat) : Drive 4 false fun L V S => L = (List.range L.length).map (fun i => (fePl k b p t).ret (0 + i)) ∧ L.length ≤ 4 ∧ ∃ m, PInv (fePl k b p t) (0 + L.length) m V S := drive_plan (fe_plan k hk b p t) (n := 0) 4 (by omega)
end Go.Proofs.YtfehilinnalflaaGreat
namespace Go.Proofs.YtfehilinnalflaaGreat
open Go.RowKit Go.BigFrame
set_option linter.unusedSimpArgs false
set_option linter.unusedVariables false
set_option maxRecDepth 100000
theorem and_4095 (n : Nat) : n &&& 4095 = n % 4096 := Nat.and_two_pow_sub_one_eq_mod n 12
theorem or_659 (k : Nat) : (k * 1048576 ||| 640) ||| 19 = k * 1048576 + 659 := by
  rw [Nat.or_assoc]
  show k * 1048576 ||| 659 = _
  have := Nat.two_pow_add_eq_or_of_lt (b := 659) (i := 20) (by decide) k
  rw [Nat.mul_comm]
  exact this.symm
theorem fe_arg {v : Int} (h : (Lit.int .i16 v).wf = true) : ∃ kn : Nat, kn < 4096 ∧ wrap64 (wrap64 v * 4503599627370496) / 4503599627370496 = feK kn ∧
    bits .or .u64 (bits .or .u64 (IntKind.u64.wrap (IntKind.u64.wrap (bits .and .u32 (feK kn % 4294967296) 4095) * 1048576)) 640) 19 = feW kn := by
  have h2 := h
  simp [Lit.wf, IntKind.min, IntKind.max, IntKind.signed, IntKind.bits] at h2
  refine ⟨(v % 4096).toNat, by omega, ?_, ?_⟩
  · unfold feK wrap64
    split <;> omega
  · obtain ⟨kn, hkn, hlt⟩ : ∃ kn : Nat, (v % 4096).toNat = kn ∧ kn < 4096 := ⟨_, rfl, by omega⟩
    rw [hkn]
    have e2 : bits .and .u32 (feK kn % 4294967296) 4095 = (kn : Int) := by
      obtain ⟨m, hm⟩ : ∃ m : Nat, feK kn % 4294967296 = (m : Int) := ⟨(feK kn % 4294967296).toNat, by omega⟩
      have hb : m < 4294967296 := by omega
      rw [hm]
      have := Go.u32_and_nat m 4095 hb (by decide)
      rw [and_4095] at this
      refine this.trans ?_
      have hm2 : m % 4096 = kn := by
        unfold feK at hm
        split at hm <;> omega
      rw [hm2]
    rw [e2, IntKind.wrap_u64, IntKind.wrap_u64]
    have e3 : ((kn : Int) % 18446744073709551616 * 1048576) % 18446744073709551616 = ((kn * 1048576 : Nat) : Int) := by omega
    rw [e3]
    have e4 := Go.u64_or_nat (kn * 1048576) 640 (by omega) (by decide)
    have hl : kn * 1048576 ||| 640 < 2 ^ 64 := Nat.or_lt_two_pow (by omega) (by decide)
    have e5 := Go.u64_or_nat (kn * 1048576 ||| 640) 19 hl (by decide)
    rw [or_659] at e5
    exact (congrArg (fun z => bits .or .u64 z 19) e4).trans e5
end Go.Proofs.YtfehilinnalflaaGreat
namespace Go.Proofs.YtfehilinnalflaaGreat
open Go.RowKit Go.BigFrame
set_option linter.unusedSimpArgs false
set_option linter.unusedVariables false
set_option maxRecDepth 100000
theorem fe_fb {w w5 w6 : World} (h : Below w.heap.size w w5) (k : Fr (fun c => w.heap.size ≤ c) w5 w6) : Below w.heap.size w w6 :=
  ⟨k.os.trans h.os, k.tape.trans h.tape, k.output.trans h.output, Nat.le_trans h.size k.size, fun i hi => (k.block i (Nat.lt_of_lt_of_le hi h.size) (fun e => by omega)).trans (h.block i hi)⟩
def feSa : St := { St0 with lev := 3 }
def feSb : St := { feSa with x := updC St0.x 6 256#64 }
theorem fe_za : Tryz.zeroCells37.setIfInBounds 33 (.int .i64 3) = stA feSa := by kernel_rfl
theorem fe_zb : (stA feSa).setIfInBounds 6 (.int .u64 256) = stA feSb := by kernel_rfl
theorem fe_zc (q : BitVec 64) : (stA feSb).setIfInBounds 7 (U q) = stA (feS q) := by kernel_rfl
set_option maxHeartbeats 4000000 in
theorem walkWholeFenced (v late : Int) (w0 : (Lit.int .i16 v).wf = true) (w1 : (Lit.int .u8 late).wf = true) (w : World) :
    Calls Tryz.prog 3 #[.int .i16 v, .int .u8 late] w fun e w' => e = .returned (.bool true) ∧ Below w.heap.size w w' := by
  obtain ⟨lN, rfl, hlN⟩ := u8_open w1
  obtain ⟨kn, hkn, hK, hW⟩ := fe_arg w0
  have hqq : ((feWq kn).toNat : Int) = feW kn := by unfold feWq; rw [feW_nat kn hkn]; rfl
  rw [← hqq] at hW
  obtain ⟨qn, hqn⟩ : ∃ qn : Nat, (feWq kn).toNat = qn := ⟨_, rfl⟩
  obtain ⟨kI, hkI⟩ : ∃ kI : Int, feK kn = kI := ⟨_, rfl⟩
  have hvl : (((0#64 + BitVec.ofInt 64 (feK kn)) : BitVec 64).toNat : Int) = IntKind.u64.wrap kI := by rw [BitVec.zero_add, ← hkI, u_wrap]
  have hzc : (stA feSb).setIfInBounds 7 (.int .u64 (qn : Int)) = stA (feS (feWq kn)) := by rw [← hqn]; exact fe_zc (feWq kn)
  have hlt : qn < 4294967296 := by have := feW_nat kn hkn; rw [← hqn]; unfold feWq; omega
  rw [hqn] at hqq hW
  rw [hkI] at hK hW
  have HLN := Lib.hid hlN
  have HKN := Lib.hid hkn
  have HQQ := Lib.hid hqq
  have HVL := Lib.hid hvl
  have HZC := Lib.hid hzc
  have HLT := Lib.hid hlt
  clear w0 w1 hlN hkn hqq hqn hkI hvl hzc hlt
  go_enter Tryz.func3, Tryz.ntmps3
  go_wp2_with fail
  (with_reducible refine (known_b.run _).mono ?_)
  rintro e w1 ⟨rfl, HB0⟩
  have HB0 := Lib.hid HB0
  go_wp2_with fail
  have hk := (MapKept.heap_alloc w1 (.cells #[.int .i64 20, .int .i64 0, .int .i64 6, .int .i64 7, .int .i64 0, .int .i64 0, .int .i64 51, .int .i64 0, .int .i64 0, .int .i64 0, .int .i64 0, .int .i64 0, .int .i64 3, .int .i64 0, .int .i64 0, .int .i64 0, .int .i64 248, .int .i64 0] 28)).1
  have hb0 : Below w.heap.size w (w1.alloc (.cells #[.int .i64 20, .int .i64 0, .int .i64 6, .int .i64 7, .int .i64 0, .int .i64 0, .int .i64 51, .int .i64 0, .int .i64 0, .int .i64 0, .int .i64 0, .int .i64 0, .int .i64 3, .int .i64 0, .int .i64 0, .int .i64 0, .int .i64 248, .int .i64 0] 28)) := HBstep HB0.out ((Below.refl _ _).alloc (Nat.le_refl _) _)
  generalize w1.alloc (.cells #[.int .i64 20, .int .i64 0, .int .i64 6, .int .i64 7, .int .i64 0, .int .i64 0, .int .i64 51, .int .i64 0, .int .i64 0, .int .i64 0, .int .i64 0, .int .i64 0, .int .i64 3, .int .i64 0, .int .i64 0, .int .i64 0, .int .i64 248, .int .i64 0] 28) = W1 at hk hb0 ⊢
  have key := laid_code [feI0, feI1, feI2] (by decide) feE (fun j x hx => by
    match j, hx with
    | 0, hx => cases hx; exact fe_enc0
    | 1, hx => cases hx; exact fe_enc1
    | 2, hx => cases hx; exact fe_enc2
    | j + 3, hx => cases hx) W1 w1.heap.size 28 hk 3 rfl
  (with_reducible refine key.mono ?_)
  clear key
  rintro e w6 ⟨p, g, q, h, rfl, hA, hL⟩
  have HM := Lib.hid (show IsMem w6 p g 92 feF0 from hL.m)
  have hA1 := Lib.hid (show w.heap.size ≤ p ∧ w.heap.size ≤ g from ⟨Nat.le_trans hb0.size hA.lp, Nat.le_trans hb0.size hA.lg⟩)
  have HB2 := Lib.hid (HBstep hb0 hL.hb)
  clear hk hb0 hA hL HB0
  have hz1 : HasSt (w6.alloc (.cells Tryz.zeroCells37 37)) w6.heap.size St0 := by rw [z37]; exact HasSt.new w6 St0
  have hz0 := st_new w6 feSa
  rw [← z37] at hz0
  have hzs := fe_za
  obtain ⟨k3, hk3⟩ : ∃ k3, w6.heap.size = k3 := ⟨_, rfl⟩
  rw [hk3] at hz0 hz1
  obtain ⟨W3, hW3⟩ : ∃ W3, (w6.alloc (.cells Tryz.zeroCells37 37)).setRow k3 (stA feSa) = W3 := ⟨_, rfl⟩
  rw [hW3] at hz0
  have H1 := Lib.hid hz1
  have H0 := Lib.hid hz0
  clear hz1 hz0
  have c6 : W3.cell? ⟨k3, 6, none⟩ = some (U (feSa.x 6)) := H0.out.1.cell (stA_x feSa 6 (by omega))
  have c7 : W3.cell? ⟨k3, 7, none⟩ = some (U (feSa.x 7)) := H0.out.1.cell (stA_x feSa 7 (by omega))
  have cf : ∀ j, W3.frozen? ⟨k3, j, none⟩ = false := fun j => H0.out.1.free j
  go_wp2_with (first | (refine step_sts (S := feSa) rfl rfl H1.out rfl rfl rfl ?_; rw [hW3]))
  have s0 : HasSt ((W3.setCell ⟨k3, 6, none⟩ (.int .u64 256)).setCell ⟨k3, 7, none⟩ (.int .u64 (qn : Int))) k3 (feS (feWq kn)) := (H0.out.1.set 6 _ fe_zb).set 7 _ HZC.out
  have hk : w6.heap.size ≤ k3 := by omega
  have b3 : Below w6.heap.size w6 W3 := by rw [hk3]; exact H0.out.2
  have b4 : Below w6.heap.size w6 ((W3.setCell ⟨k3, 6, none⟩ (.int .u64 256)).setCell ⟨k3, 7, none⟩ (.int .u64 (qn : Int))) := by
    have h1 := st_cell (k := 6) (v := .int .u64 256) b3 b3.size hk
    exact st_cell (k := 7) (v := .int .u64 (qn : Int)) h1 h1.size hk
  generalize ((W3.setCell ⟨k3, 6, none⟩ (.int .u64 256)).setCell ⟨k3, 7, none⟩ (.int .u64 (qn : Int))) = W4 at s0 b4 ⊢
  have HS4 := Lib.hid s0
  have HM4 := Lib.hid (HM.out.below b4)
  have HB4 := Lib.hid (HBstep HB2.out b4)
  clear s0 hk b3 b4 c6 c7 cf H0 H1 hW3 hk3 hzs HM HB2
  go_cut [11] from 42 to 45 (fun v wx => ∃ (P : Nat) (G : Nat → Prop) (b t : Nat), v = .pointer (some ⟨P, 0, none⟩) ∧ Pip wx G P ⟨cleanS (feS (feWq kn)), [], none, (cleanS (feS (feWq kn))).pc, false⟩ ⟨busV0 feF0, tl0, b, p, t⟩ ∧ (∀ c, G c → w.heap.size ≤ c) ∧ Below w.heap.size w wx)
  case first =>
    have sd : HasSt W4.drew k3 (feS (feWq kn)) := HS4.out.below (Below.refl _ _).drew
    have md : IsMem W4.drew p g 92 feF0 := HM4.out.below (Below.refl _ _).drew
    have bd : Below w.heap.size w W4.drew := HBstep HB4.out (Below.refl _ _).drew
    have SD := Lib.hid sd
    have MD := Lib.hid md
    have BD := Lib.hid bd
    clear sd md bd
    refine wp_region_any (by kernel_rfl) ?_
    show wpAny _ _ _ _ 5 #[false, false, false, false, false] _ W4.drew
    refine wpAny_take (i := 1) rfl (by kernel_rfl) (by kernel_rfl) (by kernel_rfl) (fun c a w h => h) (.inl ⟨rfl, fun w => rfl⟩) ?_
    refine wpAny_all (rs := [0, 2]) (by kernel_rfl) (by simp) ?_
    intro i hi
    have hi' : i = 0 ∨ i = 2 := by simpa using hi
    rcases hi' with rfl | rfl
    · skip
      refine wpOp_step rfl ?_
      intro K1 hK1
      refine step_load_rl SD.out rfl rfl rfl (hK1 _ _ ?_)
      refine wpAny_all (rs := [2]) (by kernel_rfl) (by simp) ?_
      intro i hi
      obtain rfl : i = 2 := by simpa using hi
      refine wpOp_step rfl ?_
      intro K2 hK2
      rw [if_pos (by simp [Region.wanted])]
      unfold Oper.wp
      go_simp
      (with_reducible refine (bus_b _ MD.out).mono ?_)
      rintro e w5 ⟨b, rfl, hbl, ⟨ks, vs, hBus⟩, hb5⟩
      refine hK2 _ _ ?_
      refine wpAny_all (rs := [3]) (by kernel_rfl) (by simp) ?_
      intro i hi
      obtain rfl : i = 3 := by simpa using hi
      refine wpOp_step rfl ?_
      intro K3 hK3
      rw [if_pos (by simp [Region.wanted])]
      unfold Oper.wp
      go_simp
      (with_reducible refine (pipe_b (B := w.heap.size) hBus (feS (feWq kn)) (Nat.le_trans BD.out.size hbl) hA1.out.1 hA1.out.2 (HBstep BD.out hb5).size).mono ?_)
      rintro e w6 ⟨P, G, t, rfl, hP, hG, hF⟩
      have hb6 := fe_fb (HBstep BD.out hb5) hF
      refine hK3 _ _ ?_
      refine wpAny_all (rs := [4]) (by kernel_rfl) (by simp) ?_
      intro i hi
      obtain rfl : i = 4 := by simpa using hi
      refine wpOp_step rfl ?_
      intro K4 hK4
      rw [if_pos (by simp [Region.wanted])]
      unfold Oper.wp
      go_simp
      refine hK4 _ _ ?_
      refine wpAny_done (by kernel_rfl) ?_ _
      go_wp2_with fail
      go_meet
      exact ⟨P, G, b, t, rfl, hP, hG, hb6⟩
    · skip
      refine wpOp_step rfl ?_
      intro K2 hK2
      rw [if_pos (by simp [Region.wanted])]
      unfold Oper.wp
      go_simp
      (with_reducible refine (bus_b _ MD.out).mono ?_)
      rintro e w5 ⟨b, rfl, hbl, ⟨ks, vs, hBus⟩, hb5⟩
      refine hK2 _ _ ?_
      refine wpAny_all (rs := [0]) (by kernel_rfl) (by simp) ?_
      intro i hi
      obtain rfl : i = 0 := by simpa using hi
      refine wpOp_step rfl ?_
      intro K1 hK1
      refine step_load_rl (SD.out.below hb5) rfl rfl rfl (hK1 _ _ ?_)
      refine wpAny_all (rs := [3]) (by kernel_rfl) (by simp) ?_
      intro i hi
      obtain rfl : i = 3 := by simpa using hi
      refine wpOp_step rfl ?_
      intro K3 hK3
      rw [if_pos (by simp [Region.wanted])]
      unfold Oper.wp
      go_simp
      (with_reducible refine (pipe_b (B := w.heap.size) hBus (feS (feWq kn)) (Nat.le_trans BD.out.size hbl) hA1.out.1 hA1.out.2 (HBstep BD.out hb5).size).mono ?_)
      rintro e w6 ⟨P, G, t, rfl, hP, hG, hF⟩
      have hb6 := fe_fb (HBstep BD.out hb5) hF
      refine hK3 _ _ ?_
      refine wpAny_all (rs := [4]) (by kernel_rfl) (by simp) ?_
      intro i hi
      obtain rfl : i = 4 := by simpa using hi
      refine wpOp_step rfl ?_
      intro K4 hK4
      rw [if_pos (by simp [Region.wanted])]
      unfold Oper.wp
      go_simp
      refine hK4 _ _ ?_
      refine wpAny_done (by kernel_rfl) ?_ _
      go_wp2_with fail
      go_meet
      exact ⟨P, G, b, t, rfl, hP, hG, hb6⟩
  case rest =>
    obtain ⟨P, G, b, t, rfl, hP, hG, hb6⟩ := hcut
    have hst0 : cleanS (feS (feWq kn)) = feY (feWq kn) 0#64 0#64 := fe_st0 _
    have hP2 : Pip wc G P ⟨feY (feWq kn) 0#64 0#64, [], none, (feY (feWq kn) 0#64 0#64).pc, false⟩ (feH feF0 b p t 0#64) := by
      have e : (⟨busV0 feF0, e0T, b, p, t⟩ : HS) = feH feF0 b p t 0#64 := rfl
      rw [tl0_eq, e, hst0] at hP
      exact hP
    have hI0 := pinv0 (fePl kn b p t) (feY (feWq kn) 0#64 0#64) (feH feF0 b p t 0#64) rfl rfl rfl
    have hw0 : wrap64 (lN : Int) = (lN : Int) := w64_in _ (by have := HLN.out; omega)
    have kR : Calls Tryz.prog 12 #[.pointer (some ⟨P, 0, none⟩), .int .i64 4, .int .i64 (lN : Int)] wc _ := runs_w (fe_drive kn HKN.out b p t) (by omega) lN (by have := HLN.out; omega) hP2 ⟨rfl, by simp, 0, hI0⟩
    rw [← hw0] at kR
    clear hw0
    have KR := Lib.hid kR
    have HG := Lib.hid hG
    have HB := Lib.hid hb6
    clear hP hG hb6 HS4 HM4 HB4 hA1 hP2 hI0 kR hst0
    go_wp2_with fail
    (with_reducible refine KR.out.mono ?_)
    rintro e w7 ⟨v, L, t7, rfl, hlen, hR⟩
    obtain ⟨V7, S7, G7, hI7, hP7, hW7, hRt, _⟩ := hR.st
    have hL : L = [⟨0#64, 0x00732023, 0, 0#64, false, 0#64, 0#64, 0#64, false, 0, false, false⟩, ⟨4#64, 0x0000100f, 0, 0#64, false, 0#64, 0#64, 0#64, false, 0, false, false⟩, ⟨8#64, 0x0f80006f, 0, 0#64, false, 0#64, 0#64, 0#64, false, 0, false, false⟩, ⟨256#64, feW kn, 5, 0#64 + BitVec.ofInt 64 (feK kn), false, 0#64, 0#64, 0#64, false, 0, false, false⟩] := by
      have e := hI7.1
      rw [hlen] at e
      rw [e]; rfl
    have FIN := Lib.hid (show Below w.heap.size w w7 from by
      have h1 := hW7
      exact ⟨h1.fr.os.trans HB.out.os, h1.fr.tape.trans HB.out.tape, h1.fr.output.trans HB.out.output, Nat.le_trans HB.out.size h1.fr.size, fun k hk => (h1.fr.block k (Nat.lt_of_lt_of_le hk HB.out.size) (fun hg => by have := HG.out k hg; omega)).trans (HB.out.block k hk)⟩)
    subst hL
    rcases hRt with ⟨_, h0⟩ | ⟨La, ca, rfl, hAt, _, _⟩
    · cases h0
    have x0 : w7.cell? ⟨La, 36, none⟩ = some (.int .u64 256) := hAt.cell (k := 3) (j := 0) rfl rfl
    have x1 : w7.cell? ⟨La, 37, none⟩ = some (.int .u32 (qn : Int)) := by rw [HQQ.out]; exact hAt.cell (k := 3) (j := 1) rfl rfl
    have x2 : w7.cell? ⟨La, 38, none⟩ = some (.int .i64 5) := hAt.cell (k := 3) (j := 2) rfl rfl
    have x3 : w7.cell? ⟨La, 39, none⟩ = some (.int .u64 (IntKind.u64.wrap kI)) := by rw [← HVL.out]; exact hAt.cell (k := 3) (j := 3) rfl rfl
    have hwq : IntKind.u64.wrap (qn : Int) = (qn : Int) := by rw [IntKind.wrap_u64]; have := HLT.out; omega
    clear hAt hI7 hP7 hW7 hR KR HG HB hlen
    go_wp2_with fail
    go_ret
    exact ⟨rfl, FIN.out⟩
end Go.Proofs.YtfehilinnalflaaGreat
