/- Part 2 of the texts behind the law: contracts and lemmas, each proved; no condition but what each names. -/

import Derived.Test.YtfehilinnalflaaGreatF01
import Derived.Test.YtfehilinnalflaaGreatQ01
import Derived.Test.YtfehilinnalflaaGreatQ02
import Derived.Test.YtfehilinnalflaaGreatQ03
import Derived.Test.YtfehilinnalflaaGreatQ04
import Derived.Test.YtfehilinnalflaaGreatQ05
import Derived.Test.YtfehilinnalflaaGreatQ06
import Derived.Test.YtfehilinnalflaaGreatQ07
import Derived.Test.YtfehilinnalflaaGreatQ08
import Derived.Test.YtfehilinnalflaaGreatQ09
import Derived.Test.YtfehilinnalflaaGreatQ10
import Derived.Test.YtfehilinnalflaaGreatQ11
import Derived.Test.YtfehilinnalflaaGreatQ12
import Derived.Test.YtfehilinnalflaaGreatQ13
import Derived.Test.YtfehilinnalflaaGreatQ14
import Derived.Test.YtfehilinnalflaaGreatQ15
import Derived.Test.YtfehilinnalflaaGreatQ16
import Derived.Test.YtfehilinnalflaaGreatQ17
import Derived.Test.YtfehilinnalflaaGreatQ18
import Derived.Test.YtfehilinnalflaaGreatQ19
import Derived.Test.YtfehilinnalflaaGreatQ20
namespace Go.Proofs.YtfehilinnalflaaGreat
open Go.RowKit Go.BigFrame
set_option linter.unusedSimpArgs false
set_option linter.unusedVariables false
set_option maxRecDepth 100000
section
variable (v D : BitVec 64) (f : Nat → UInt8) (b p t : Nat) (T : BitVec 64) (pick : Int)
theorem fe_iv (P : BitVec 64) : intV (feY v P D) false false = (0#64, 0, false, false) := by kernel_rfl
set_option maxHeartbeats 4000000 in
theorem fe_t0 : eT (E3 (feY v 0#64 D) (feH feF0 b p t T) feV0) = feY v 4#64 (D + 1#64) := by kernel_rfl
set_option maxHeartbeats 4000000 in
theorem fe_r0 : rF (E3 (feY v 0#64 D) (feH feF0 b p t T) feV0) = ⟨0#64, 0x00732023, 0, 0#64, false, 0#64, 0#64, 0#64, false, 0, false, false⟩ := by kernel_rfl
set_option maxHeartbeats 4000000 in
theorem fe_s0 : (E3 (feY v 0#64 D) (feH feF0 b p t T) feV0).theM (feH feF0 b p t T) = feH (feF1 v) b p t T := by kernel_rfl
set_option maxHeartbeats 4000000 in
theorem fe_t1 : eT (E3 (feY v 4#64 D) (feH f b p t T) feV1) = feY v 8#64 (D + 1#64) := by kernel_rfl
set_option maxHeartbeats 4000000 in
theorem fe_r1 : rF (E3 (feY v 4#64 D) (feH f b p t T) feV1) = ⟨4#64, 0x0000100f, 0, 0#64, false, 0#64, 0#64, 0#64, false, 0, false, false⟩ := by kernel_rfl
set_option maxHeartbeats 4000000 in
theorem fe_s1 : (E3 (feY v 4#64 D) (feH f b p t T) feV1).theM (feH f b p t T) = feH f b p t T := by kernel_rfl
theorem fe_fe1 : fenM (feY v 4#64 D) feV1 (feH f b p t T) = feH f b p t T := by kernel_rfl
set_option maxHeartbeats 4000000 in
theorem fe_t2 : eT (E3 (feY v 8#64 D) (feH f b p t T) feV2) = feY v 256#64 (D + 1#64) := by kernel_rfl
set_option maxHeartbeats 4000000 in
theorem fe_r2 : rF (E3 (feY v 8#64 D) (feH f b p t T) feV2) = ⟨8#64, 0x0f80006f, 0, 0#64, false, 0#64, 0#64, 0#64, false, 0, false, false⟩ := by kernel_rfl
set_option maxHeartbeats 4000000 in
theorem fe_s2 : (E3 (feY v 8#64 D) (feH f b p t T) feV2).theM (feH f b p t T) = feH f b p t T := by kernel_rfl
theorem fe_fe2 : fenM (feY v 8#64 D) feV2 (feH f b p t T) = feH f b p t T := by kernel_rfl
theorem fe_fe0 : fenM (feY v 0#64 D) feV0 (feH f b p t T) = feH f b p t T := by kernel_rfl
end
end Go.Proofs.YtfehilinnalflaaGreat
namespace Go.Proofs.YtfehilinnalflaaGreat
open Go.RowKit Go.BigFrame
set_option linter.unusedSimpArgs false
set_option linter.unusedVariables false
set_option maxRecDepth 100000
section
variable (v D : BitVec 64) (f : Nat → UInt8) (b p t : Nat) (T : BitVec 64) (pick : Int) (k : Nat)
set_option maxHeartbeats 4000000 in
theorem fe_d1 : (E3 (feY v 4#64 D) (feH f b p t T) feV1).needB = true := by kernel_rfl
set_option maxHeartbeats 4000000 in
theorem fe_d2 : (E3 (feY v 8#64 D) (feH f b p t T) feV2).needB = true := by kernel_rfl
theorem fe_fn0 : (t_fence_Do (feH f b p t T) (feH f b p t T).t (feY v 0#64 D) 20 0 6 7 0 0).needB = true := by kernel_rfl
theorem fe_fn1 : (t_fence_Do (feH f b p t T) (feH f b p t T).t (feY v 4#64 D) 51 0 0 0 0 0).needB = true := by kernel_rfl
theorem fe_fn2 : (t_fence_Do (feH f b p t T) (feH f b p t T).t (feY v 8#64 D) 3 0 0 0 248 0).needB = true := by kernel_rfl
theorem fe_x0 : (t_guess_Next feW0.pc feW0.w).needB = true ∧ (alT feW0.i).needB = true ∧ (!feW0.ok || (!feW0.is || alV feW0.i)) = false ∧ nxV feW0.pc feW0.w = 4#64 := by refine ⟨?_, ?_, ?_, ?_⟩ <;> kernel_rfl
theorem fe_x1 : (t_guess_Next feW1.pc feW1.w).needB = true ∧ (alT feW1.i).needB = true ∧ (!feW1.ok || (!feW1.is || alV feW1.i)) = true := by refine ⟨?_, ?_, ?_⟩ <;> kernel_rfl
theorem fe_x2 : (t_guess_Next feW2.pc feW2.w).needB = true ∧ (alT feW2.i).needB = true ∧ (!feW2.ok || (!feW2.is || alV feW2.i)) = false ∧ nxV feW2.pc feW2.w = 256#64 := by refine ⟨?_, ?_, ?_, ?_⟩ <;> kernel_rfl
theorem fe_x4 : (t_guess_Next feW4.pc feW4.w).needB = true ∧ (alT feW4.i).needB = true ∧ (!feW4.ok || (!feW4.is || alV feW4.i)) = true := by refine ⟨?_, ?_, ?_⟩ <;> kernel_rfl
theorem fe_z0 : alV feV0.i = false ∧ wrV feV0.pc feV0.w 4#64 = false ∧ (t_guess_Wrong feV0.pc feV0.w 4#64).needB = true ∧ (alT feV0.i).needB = true := by refine ⟨?_, ?_, ?_, ?_⟩ <;> kernel_rfl
theorem fe_z1 : alV feV1.i = true ∧ (t_guess_Wrong feV1.pc feV1.w 8#64).needB = true ∧ (alT feV1.i).needB = true := by refine ⟨?_, ?_, ?_⟩ <;> kernel_rfl
theorem fe_z2 : alV feV2.i = false ∧ wrV feV2.pc feV2.w 256#64 = false ∧ (t_guess_Wrong feV2.pc feV2.w 256#64).needB = true ∧ (alT feV2.i).needB = true := by refine ⟨?_, ?_, ?_, ?_⟩ <;> kernel_rfl
end
end Go.Proofs.YtfehilinnalflaaGreat
namespace Go.Proofs.YtfehilinnalflaaGreat
open Go.RowKit Go.BigFrame
set_option linter.unusedSimpArgs false
set_option linter.unusedVariables false
set_option maxRecDepth 100000
set_option maxHeartbeats 4000000 in
theorem fe_d0 (v D : BitVec 64) (b p t : Nat) (T : BitVec 64) : (E3 (feY v 0#64 D) (feH feF0 b p t T) feV0).needB = ((((decide (b = b) && (((decide (b = b) && true) && true) && true)) && true) && true) && true) := by kernel_rfl
end Go.Proofs.YtfehilinnalflaaGreat
namespace Go.Proofs.YtfehilinnalflaaGreat
open Go.RowKit Go.BigFrame
set_option linter.unusedSimpArgs false
set_option linter.unusedVariables false
set_option maxRecDepth 100000
section
variable (a : BitVec 64) (w : Int)
def p3 : List Bool := [true, false, false]
theorem gn_c : (t_guess_Next a w).conds p3 = [Tr.sel 0 (fun vs => Ch.I (pickC vs 1 0)) (t_decode_Decode w) == 0, Tr.sel 0 (fun vs => Ch.I (pickC vs 0 0)) (t_decode_Decode w) == 3, Tr.sel 0 (fun vs => Ch.I (pickC vs 0 0)) (t_insn_Class (Tr.sel 0 (fun vs => Ch.I (pickC vs 0 0)) (t_decode_Decode w))) == 2] := by kernel_rfl
theorem gn_w : (t_guess_Next a w).wants p3 = ((t_decode_Decode w).needB && ((t_insn_Class (Tr.sel 0 (fun vs => Ch.I (pickC vs 0 0)) (t_decode_Decode w))).needB && true)) := by kernel_rfl
theorem gn_e : ((t_guess_Next a w).way p3).needB = true ∧ Tr.sel 0#64 (fun vs => Ch.U (pickC vs 0 0)) ((t_guess_Next a w).way p3) = a + 4#64 := by refine ⟨?_, ?_⟩ <;> kernel_rfl
theorem cl22 : (t_insn_Class 22).needB = true ∧ (Tr.sel 0 (fun vs => Ch.I (pickC vs 0 0)) (t_insn_Class 22) == 2) = false := by refine ⟨?_, ?_⟩ <;> kernel_rfl
theorem gn_fe (k : Nat) (h : k < 4096) : (t_guess_Next a (feW k)).needB = true ∧ Tr.sel 0#64 (fun vs => Ch.U (pickC vs 0 0)) (t_guess_Next a (feW k)) = a + 4#64 := by
  obtain ⟨d0, d1, g0, _⟩ := fe_dec k h
  have hc := gn_c a (feW k)
  have hw := gn_w a (feW k)
  obtain ⟨e1, e2⟩ := gn_e a (feW k)
  rw [d1, g0, cl22.2] at hc
  rw [d0, g0, cl22.1] at hw
  have hc' : (t_guess_Next a (feW k)).conds p3 = p3 := hc
  refine ⟨?_, ?_⟩
  · rw [way_need _ _ hc', hw, e1]; rfl
  · rw [way_sel _ _ _ _ hc', e2]
theorem fe_x3 (k : Nat) (h : k < 4096) : (t_guess_Next (feW3 k).pc (feW3 k).w).needB = true ∧ (alT (feW3 k).i).needB = true ∧ (!(feW3 k).ok || (!(feW3 k).is || alV (feW3 k).i)) = false ∧ nxV (feW3 k).pc (feW3 k).w = 260#64 := by
  obtain ⟨n1, n2⟩ := gn_fe 256#64 k h
  refine ⟨n1, ?_, ?_, ?_⟩
  · kernel_rfl
  · kernel_rfl
  · exact n2
end
end Go.Proofs.YtfehilinnalflaaGreat
namespace Go.Proofs.YtfehilinnalflaaGreat
open Go.RowKit Go.BigFrame
set_option linter.unusedSimpArgs false
set_option linter.unusedVariables false
set_option maxRecDepth 100000
theorem way_slV (t : Tr) (ps : List Bool) (h : t.conds ps = ps) : slV t = slV (t.way ps) := by
  unfold slV
  simp only [way_sel _ _ t ps h]
noncomputable def feR (v : BitVec 64) : Int := IntKind.u32.wrap ((rdF (feF1 v) 256#64 4).toNat : Int)
section
variable (v P D : BitVec 64) (b p t : Nat) (T : BitVec 64) (pick : Int)
set_option maxHeartbeats 4000000 in
theorem fe_c3 : (bT (feY v P D) (feH (feF1 v) b p t T) 256#64 pick).conds [true, true, true] = [true, true, Tr.sel 0 (fun vs => Ch.I (pickC vs 1 0)) (t_decode_Decode (feR v)) == 0] := by kernel_rfl
set_option maxHeartbeats 4000000 in
theorem fe_w3 : (bT (feY v P D) (feH (feF1 v) b p t T) 256#64 pick).wants [true, true, true] = (((decide (b = b) && true) && true) && ((t_decode_Decode (feR v)).needB && true)) := by kernel_rfl
set_option maxHeartbeats 4000000 in
theorem fe_v3 : slV ((bT (feY v P D) (feH (feF1 v) b p t T) 256#64 pick).way [true, true, true]) = ⟨256#64, feR v, 0#64, 0#64, 0#64, false, true, ⟨Tr.sel 0 (fun vs => Ch.I (pickC vs 0 0)) (t_decode_Decode (feR v)), Tr.sel 0 (fun vs => Ch.I (pickC vs 0 1)) (t_decode_Decode (feR v)), Tr.sel 0 (fun vs => Ch.I (pickC vs 0 2)) (t_decode_Decode (feR v)), Tr.sel 0 (fun vs => Ch.I (pickC vs 0 3)) (t_decode_Decode (feR v)), Tr.sel 0 (fun vs => Ch.I (pickC vs 0 4)) (t_decode_Decode (feR v)), Tr.sel 0 (fun vs => Ch.I (pickC vs 0 5)) (t_decode_Decode (feR v))⟩, true, 0, 0⟩ := by kernel_rfl
set_option maxHeartbeats 4000000 in
theorem fe_y3 : ((bT (feY v P D) (feH (feF1 v) b p t T) 256#64 pick).way [true, true, true]).theM (feH (feF1 v) b p t T) = feH (feF1 v) b p t T ∧ ((bT (feY v P D) (feH (feF1 v) b p t T) 256#64 pick).way [true, true, true]).needB = true := by
  refine ⟨?_, ?_⟩ <;> kernel_rfl
end
end Go.Proofs.YtfehilinnalflaaGreat
namespace Go.Proofs.YtfehilinnalflaaGreat
open Go.RowKit Go.BigFrame
set_option linter.unusedSimpArgs false
set_option linter.unusedVariables false
set_option maxRecDepth 100000
theorem put_same4 (f : Nat → UInt8) (a : Nat) (v : BitVec 64) : readF (putF f a (bytesL v 4)) a 4 = bitsB v 0 32 := by
  apply BitVec.eq_of_getLsbD_eq; intro j hj
  have hr := readF_bit (putF f a (bytesL v 4)) a 4 j hj
  rw [show ((4 : Nat) : Int) = 4 from rfl] at hr
  rw [hr, bits_bit]
  by_cases c : j / 8 < 4
  · rw [putF_in f v a 4 (j / 8) (by omega) (by omega), byteU_bit, show 8 * (j / 8) + j % 8 = j by omega, decide_eq_true c, decide_eq_true (show j % 8 < 8 by omega), decide_eq_true (show j < 64 by omega), decide_eq_true (show j < 32 by omega), Nat.zero_add]
    cases v.getLsbD j <;> rfl
  · rw [decide_eq_false c, decide_eq_false (show ¬ j < 32 by omega)]
    simp
theorem fe_code : codeOf 256#64 4 = 0 := by kernel_rfl
theorem fe_rd (v : BitVec 64) : rdF (feF1 v) 256#64 4 = bitsB v 0 32 := by
  unfold rdF feF1 wrF
  rw [if_pos fe_code, if_pos fe_code]
  exact put_same4 feF0 256 v
end Go.Proofs.YtfehilinnalflaaGreat
namespace Go.Proofs.YtfehilinnalflaaGreat
open Go.RowKit Go.BigFrame
set_option linter.unusedSimpArgs false
set_option linter.unusedVariables false
set_option maxRecDepth 100000
noncomputable def feD (w : Int) (j : Nat) : Int := Tr.sel 0 (fun vs => Ch.I (pickC vs 0 j)) (t_decode_Decode w)
noncomputable def feLg (s : St) (w : Int) : Tr := t_legal_Insn s (feD w 0) (feD w 1) (feD w 2) (feD w 3) (feD w 4) (feD w 5)
noncomputable def feDo (S : HS) (b : Nat) (s : St) (w : Int) : Tr := t_exec_does S b s (feD w 0) (feD w 1) (feD w 2) (feD w 3) (feD w 4) (feD w 5)
noncomputable def feWr (w : Int) : Tr := t_insn_Writes (feD w 0) (feD w 1) (feD w 2) (feD w 3) (feD w 4) (feD w 5)
noncomputable def feWn (w : Int) : Int := Tr.sel 0 (fun vs => Ch.I (pickC vs 0 0)) (feWr w)
def p4 : List Bool := [false, false, false, true]
section
variable (S : HS) (b : Nat) (s : St) (w : Int)
set_option maxHeartbeats 4000000 in
theorem do_conds : (t_exec_Do S b s w).conds p4 = [Tr.sel 0 (fun vs => Ch.I (pickC vs 1 0)) (t_decode_Decode w) != 0, !Tr.sel false (fun vs => Ch.B (pickC vs 1 0)) (feLg s w), !Tr.sel false (fun vs => Ch.B (pickC vs 0 6)) (feDo S b s w), feWn w != 0] := by kernel_rfl
set_option maxHeartbeats 4000000 in
theorem do_wants : (t_exec_Do S b s w).wants p4 = ((t_decode_Decode w).needB && ((feLg s w).needB && ((feDo S b s w).needB && ((feWr w).needB && ((decide (0 ≤ feWn w) && decide (feWn w < 32)) && true))))) := by kernel_rfl
end
end Go.Proofs.YtfehilinnalflaaGreat
namespace Go.Proofs.YtfehilinnalflaaGreat
open Go.RowKit Go.BigFrame
set_option linter.unusedSimpArgs false
set_option linter.unusedVariables false
set_option maxRecDepth 100000
theorem is_fe (K : Int) (h : -2048 ≤ K ∧ K ≤ 2047) : (t_insn_Is 22 5 0 0 K 0).needB = true ∧ Tr.sel false (fun vs => Ch.B (pickC vs 0 0)) (t_insn_Is 22 5 0 0 K 0) = true := by
  have hc : (t_insn_Is 22 5 0 0 K 0).conds feQ = feQ := by
    rw [is_conds, decide_eq_false (show ¬ K < -2048 by omega), decide_eq_false (show ¬ K > 2047 by omega), Int.tmod_one]; rfl
  obtain ⟨v1, v2⟩ := is_way K
  refine ⟨?_, ?_⟩
  · rw [way_need _ _ hc, is_wants, v1]; rfl
  · rw [way_sel _ _ _ _ hc, v2]
section
variable (v D : BitVec 64) (f : Nat → UInt8) (b p t : Nat) (T : BitVec 64) (K : Int)
theorem lg_c : (t_legal_Insn (feY v 256#64 D) 22 5 0 0 K 0).conds [false] = [!Tr.sel false (fun vs => Ch.B (pickC vs 0 0)) (t_insn_Is 22 5 0 0 K 0)] := by kernel_rfl
theorem lg_w : (t_legal_Insn (feY v 256#64 D) 22 5 0 0 K 0).wants [false] = ((t_insn_Is 22 5 0 0 K 0).needB && true) := by kernel_rfl
theorem lg_e : ((t_legal_Insn (feY v 256#64 D) 22 5 0 0 K 0).way [false]).needB = true ∧ Tr.sel false (fun vs => Ch.B (pickC vs 1 0)) ((t_legal_Insn (feY v 256#64 D) 22 5 0 0 K 0).way [false]) = true := by refine ⟨?_, ?_⟩ <;> kernel_rfl
theorem lg_fe (h : -2048 ≤ K ∧ K ≤ 2047) : (t_legal_Insn (feY v 256#64 D) 22 5 0 0 K 0).needB = true ∧ Tr.sel false (fun vs => Ch.B (pickC vs 1 0)) (t_legal_Insn (feY v 256#64 D) 22 5 0 0 K 0) = true := by
  obtain ⟨i1, i2⟩ := is_fe K h
  have hc : (t_legal_Insn (feY v 256#64 D) 22 5 0 0 K 0).conds [false] = [false] := by rw [lg_c, i2]; rfl
  obtain ⟨e1, e2⟩ := lg_e v D K
  refine ⟨?_, ?_⟩
  · rw [way_need _ _ hc, lg_w, i1, e1]; rfl
  · rw [way_sel _ _ _ _ hc, e2]
theorem do_fe0 : (t_exec_does (feH f b p t T) b (feY v 256#64 D) 22 5 0 0 K 0).needB = true ∧ Tr.sel false (fun vs => Ch.B (pickC vs 0 6)) (t_exec_does (feH f b p t T) b (feY v 256#64 D) 22 5 0 0 K 0) = true := by refine ⟨?_, ?_⟩ <;> kernel_rfl
theorem do_fe1 : Tr.sel St0 (fun vs => Ch.T (pickC vs 0 0)) (t_exec_does (feH f b p t T) b (feY v 256#64 D) 22 5 0 0 K 0) = feY v 260#64 D := by kernel_rfl
theorem do_fe2 : Tr.sel 0#64 (fun vs => Ch.U (pickC vs 0 1)) (t_exec_does (feH f b p t T) b (feY v 256#64 D) 22 5 0 0 K 0) = 0#64 + BitVec.ofInt 64 K := by kernel_rfl
theorem wr_c : (t_insn_Writes 22 5 0 0 K 0).conds [false] = [!Tr.sel false (fun vs => Ch.B (pickC vs 0 0)) (t_insn_Is 22 5 0 0 K 0)] := by kernel_rfl
theorem wr_w : (t_insn_Writes 22 5 0 0 K 0).wants [false] = ((t_insn_Is 22 5 0 0 K 0).needB && true) := by kernel_rfl
theorem wr_e : ((t_insn_Writes 22 5 0 0 K 0).way [false]).needB = true ∧ Tr.sel 0 (fun vs => Ch.I (pickC vs 0 0)) ((t_insn_Writes 22 5 0 0 K 0).way [false]) = 5 := by refine ⟨?_, ?_⟩ <;> kernel_rfl
theorem wr_fe (h : -2048 ≤ K ∧ K ≤ 2047) : (t_insn_Writes 22 5 0 0 K 0).needB = true ∧ Tr.sel 0 (fun vs => Ch.I (pickC vs 0 0)) (t_insn_Writes 22 5 0 0 K 0) = 5 := by
  obtain ⟨i1, i2⟩ := is_fe K h
  have hc : (t_insn_Writes 22 5 0 0 K 0).conds [false] = [false] := by rw [wr_c, i2]; rfl
  obtain ⟨e1, e2⟩ := wr_e K
  refine ⟨?_, ?_⟩
  · rw [way_need _ _ hc, wr_w, i1, e1]; rfl
  · rw [way_sel _ _ _ _ hc, e2]
theorem do_fe3 : (t_exec_does (feH f b p t T) b (feY v 256#64 D) 22 5 0 0 K 0).theM (feH f b p t T) = feH f b p t T := by kernel_rfl
end
end Go.Proofs.YtfehilinnalflaaGreat
namespace Go.Proofs.YtfehilinnalflaaGreat
open Go.RowKit Go.BigFrame
set_option linter.unusedSimpArgs false
set_option linter.unusedVariables false
set_option maxRecDepth 100000
section
variable (S : HS) (b : Nat) (s : St) (w : Int)
noncomputable def feTs : St := Tr.sel St0 (fun vs => Ch.T (pickC vs 0 0)) (feDo S b s w)
noncomputable def feVl : BitVec 64 := Tr.sel 0#64 (fun vs => Ch.U (pickC vs 0 1)) (feDo S b s w)
set_option maxHeartbeats 4000000 in
theorem do_need : ((t_exec_Do S b s w).way p4).needB = true := by kernel_rfl
set_option maxHeartbeats 4000000 in
theorem do_eT : eT ((t_exec_Do S b s w).way p4) = { feTs S b s w with x := updC (feTs S b s w).x (feWn w).toNat (feVl S b s w), done := (feTs S b s w).done + 1#64 } := by kernel_rfl
set_option maxHeartbeats 4000000 in
theorem do_rF : rF ((t_exec_Do S b s w).way p4) = ⟨s.pc, w, feWn w, feVl S b s w, false, 0#64, 0#64, 0#64, false, 0, false, false⟩ := by kernel_rfl
end
end Go.Proofs.YtfehilinnalflaaGreat
namespace Go.Proofs.YtfehilinnalflaaGreat
open Go.RowKit Go.BigFrame
set_option linter.unusedSimpArgs false
set_option linter.unusedVariables false
set_option maxRecDepth 100000
set_option maxHeartbeats 4000000 in
theorem do_M (S : HS) (b : Nat) (s : St) (w : Int) : ((t_exec_Do S b s w).way p4).theM S = (feDo S b s w).theM S := by kernel_rfl
theorem way_eT (t : Tr) (ps : List Bool) (h : t.conds ps = ps) : eT t = eT (t.way ps) := way_sel _ _ t ps h
theorem way_rF (t : Tr) (ps : List Bool) (h : t.conds ps = ps) : rF t = rF (t.way ps) := by
  unfold rF
  simp only [way_sel _ _ t ps h]
def feV3 (k : Nat) : SlV := { feW3 k with stage := 3, left := 0 }
noncomputable def feZ (v D : BitVec 64) (k : Nat) : St := { feY v 260#64 D with x := updC (feY v 260#64 D).x 5 (0#64 + BitVec.ofInt 64 (feK k)), done := D + 1#64 }
theorem fe_E3 (k : Nat) (h : k < 4096) (v D : BitVec 64) (f : Nat → UInt8) (b p t : Nat) (T : BitVec 64) :
    (E3 (feY v 256#64 D) (feH f b p t T) (feV3 k)).needB = true ∧ eT (E3 (feY v 256#64 D) (feH f b p t T) (feV3 k)) = feZ v D k ∧ rF (E3 (feY v 256#64 D) (feH f b p t T) (feV3 k)) = ⟨256#64, feW k, 5, 0#64 + BitVec.ofInt 64 (feK k), false, 0#64, 0#64, 0#64, false, 0, false, false⟩ ∧ (E3 (feY v 256#64 D) (feH f b p t T) (feV3 k)).theM (feH f b p t T) = feH f b p t T := by
  obtain ⟨d0, d1, g0, g1, g2, g3, g4, g5⟩ := fe_dec k h
  have hin := feK_in k h
  have eL : feLg (feY v 256#64 D) (feW k) = t_legal_Insn (feY v 256#64 D) 22 5 0 0 (feK k) 0 := by unfold feLg feD; rw [g0, g1, g2, g3, g4, g5]
  have eD : feDo (feH f b p t T) b (feY v 256#64 D) (feW k) = t_exec_does (feH f b p t T) b (feY v 256#64 D) 22 5 0 0 (feK k) 0 := by unfold feDo feD; rw [g0, g1, g2, g3, g4, g5]
  have eW : feWr (feW k) = t_insn_Writes 22 5 0 0 (feK k) 0 := by unfold feWr feD; rw [g0, g1, g2, g3, g4, g5]
  obtain ⟨l1, l2⟩ := lg_fe v D (feK k) hin
  obtain ⟨w1, w2⟩ := wr_fe (feK k) hin
  obtain ⟨x1, x2⟩ := do_fe0 v D f b p t T (feK k)
  have x3 := do_fe1 v D f b p t T (feK k)
  have x4 := do_fe2 v D f b p t T (feK k)
  have x5 := do_fe3 v D f b p t T (feK k)
  have eN : feWn (feW k) = 5 := by unfold feWn; rw [eW]; exact w2
  have hE : E3 (feY v 256#64 D) (feH f b p t T) (feV3 k) = t_exec_Do (feH f b p t T) b (feY v 256#64 D) (feW k) := rfl
  have hc : (t_exec_Do (feH f b p t T) b (feY v 256#64 D) (feW k)).conds p4 = p4 := by
    rw [do_conds, d1, eL, eD, eN, l2, x2]; rfl
  rw [hE]
  refine ⟨?_, ?_, ?_, ?_⟩
  · rw [way_need _ _ hc, do_wants, do_need, d0, eL, l1, eD, x1, eW, w1, eN]; rfl
  · rw [way_eT _ _ hc, do_eT]
    unfold feTs feVl
    rw [eD, eN, x3, x4]; rfl
  · rw [way_rF _ _ hc, do_rF]
    unfold feVl
    rw [eD, eN, x4]; rfl
  · rw [way_theM _ _ _ hc, do_M, eD, x5]
theorem fe_word (k : Nat) (h : k < 4096) : feR (BitVec.ofInt 64 (feW k)) = feW k := by
  unfold feR
  rw [fe_rd, bits_nat _ _ _ (by omega), feW_nat k h]
  have e : (k * 1048576 + 659) / 2 ^ 0 % 2 ^ 32 = k * 1048576 + 659 := by omega
  rw [e]
  show IntKind.u32.wrap ((k * 1048576 + 659 : Nat) : Int) = ((k * 1048576 + 659 : Nat) : Int)
  have : IntKind.u32.wrap ((k * 1048576 + 659 : Nat) : Int) = ((k * 1048576 + 659 : Nat) : Int) % 4294967296 := by rfl
  rw [this]; omega
theorem fe_g3 (k : Nat) (h : k < 4096) (P D : BitVec 64) (b p t : Nat) (T : BitVec 64) (pick : Int) : slV (bT (feY (BitVec.ofInt 64 (feW k)) P D) (feH (feF1 (BitVec.ofInt 64 (feW k))) b p t T) 256#64 pick) = feW3 k ∧ (bT (feY (BitVec.ofInt 64 (feW k)) P D) (feH (feF1 (BitVec.ofInt 64 (feW k))) b p t T) 256#64 pick).theM (feH (feF1 (BitVec.ofInt 64 (feW k))) b p t T) = feH (feF1 (BitVec.ofInt 64 (feW k))) b p t T ∧ (bT (feY (BitVec.ofInt 64 (feW k)) P D) (feH (feF1 (BitVec.ofInt 64 (feW k))) b p t T) 256#64 pick).needB = true := by
  obtain ⟨d0, d1, g0, g1, g2, g3, g4, g5⟩ := fe_dec k h
  have hc := fe_c3 (BitVec.ofInt 64 (feW k)) P D b p t T pick
  have hw := fe_w3 (BitVec.ofInt 64 (feW k)) P D b p t T pick
  have hv := fe_v3 (BitVec.ofInt 64 (feW k)) P D b p t T pick
  obtain ⟨y1, y2⟩ := fe_y3 (BitVec.ofInt 64 (feW k)) P D b p t T pick
  rw [fe_word k h] at hc hw hv
  rw [d1] at hc
  rw [d0] at hw
  rw [g0, g1, g2, g3, g4, g5] at hv
  have hc' : (bT (feY (BitVec.ofInt 64 (feW k)) P D) (feH (feF1 (BitVec.ofInt 64 (feW k))) b p t T) 256#64 pick).conds [true, true, true] = [true, true, true] := hc
  refine ⟨?_, ?_, ?_⟩
  · rw [way_slV _ _ hc', hv]; rfl
  · rw [way_theM _ _ _ hc', y1]
  · rw [way_need _ _ hc', hw, y2]; simp
end Go.Proofs.YtfehilinnalflaaGreat
namespace Go.Proofs.YtfehilinnalflaaGreat
open Go.RowKit Go.BigFrame
set_option linter.unusedSimpArgs false
set_option linter.unusedVariables false
set_option maxRecDepth 100000
theorem gw_n (a : BitVec 64) (w : Int) (c : BitVec 64) : (t_guess_Wrong a w c).needB = ((t_guess_Next a w).needB && true) := by kernel_rfl
theorem gw_v (a : BitVec 64) (w : Int) (c : BitVec 64) : wrV a w c = (nxV a w != c) := by kernel_rfl
theorem fe_z3 (k : Nat) (h : k < 4096) : alV (feV3 k).i = false ∧ wrV (feV3 k).pc (feV3 k).w 260#64 = false ∧ (t_guess_Wrong (feV3 k).pc (feV3 k).w 260#64).needB = true ∧ (alT (feV3 k).i).needB = true := by
  obtain ⟨n1, n2, n3, n4⟩ := fe_x3 k h
  refine ⟨?_, ?_, ?_, n2⟩
  · kernel_rfl
  · rw [gw_v, show nxV (feV3 k).pc (feV3 k).w = 260#64 from n4]; rfl
  · rw [gw_n, show (t_guess_Next (feV3 k).pc (feV3 k).w).needB = true from n1]; rfl
theorem fe_fn3 (v D : BitVec 64) (f : Nat → UInt8) (b p t : Nat) (T : BitVec 64) (K : Int) : (t_fence_Do (feH f b p t T) (feH f b p t T).t (feY v 256#64 D) 22 5 0 0 K 0).needB = true := by kernel_rfl
theorem fe_fe3 (v D : BitVec 64) (f : Nat → UInt8) (b p t : Nat) (T : BitVec 64) (k : Nat) : fenM (feY v 256#64 D) (feV3 k) (feH f b p t T) = feH f b p t T := by kernel_rfl
end Go.Proofs.YtfehilinnalflaaGreat
namespace Go.Proofs.YtfehilinnalflaaGreat
open Go.RowKit Go.BigFrame
set_option linter.unusedSimpArgs false
set_option linter.unusedVariables false
set_option maxRecDepth 100000
theorem fe_ivq (f : Nat → UInt8) (b p t : Nat) (T v P D : BitVec 64) (h : T.toNat < 18446744073709551615) : (ivQ (feY v P D) (feH f b p t T) false).2.2.2 = false := by
  have e : ivQ (feY v P D) (feH f b p t T) false = intV (feY v P D) false false := by
    unfold ivQ
    have e : decide ((feH f b p t T).bus.al.toNat ≤ (feH f b p t T).bus.t.toNat) = false := ones_no T h
    rw [e]
  rw [e, fe_iv]
set_option maxHeartbeats 4000000 in
theorem fe_ret1 (v : BitVec 64) (b p t : Nat) (at_ : BitVec 64) (stops : Bool) :
    (dT (feY v 4#64 1#64) (feH (feF1 v) b p t 1#64) at_ stops feV1 false).needB = true ∧ retV (dT (feY v 4#64 1#64) (feH (feF1 v) b p t 1#64) at_ stops feV1 false) = ⟨4#64, 0x0000100f, 0, 0#64, false, 0#64, 0#64, 0#64, false, 0, false, false⟩ ∧ stT (dT (feY v 4#64 1#64) (feH (feF1 v) b p t 1#64) at_ stops feV1 false) = feY v 8#64 (1#64 + 1#64) ∧ flT (dT (feY v 4#64 1#64) (feH (feF1 v) b p t 1#64) at_ stops feV1 false) = true ∧ (dT (feY v 4#64 1#64) (feH (feF1 v) b p t 1#64) at_ stops feV1 false).theM (feH (feF1 v) b p t 1#64) = feH (feF1 v) b p t 1#64 := by
  obtain ⟨y1, y2, y3⟩ := fe_z1
  have key := plain_ret (s := feY v 4#64 1#64) (S := feH (feF1 v) b p t 1#64) (S' := feH (feF1 v) b p t 1#64) (x := feV1) at_ stops (fe_ivq (feF1 v) b p t 1#64 v 4#64 1#64 (by decide)) rfl (fe_t1 v 1#64 (feF1 v) b p t 1#64) (fe_r1 v 1#64 (feF1 v) b p t 1#64) rfl (fe_d1 v 1#64 (feF1 v) b p t 1#64) (fe_s1 v 1#64 (feF1 v) b p t 1#64) (fe_fe1 v 1#64 (feF1 v) b p t 1#64) (fe_fn1 v 1#64 (feF1 v) b p t 1#64) y3 y2 ⟨rfl, rfl, rfl⟩
  rw [y1, Bool.true_or] at key
  exact key
end Go.Proofs.YtfehilinnalflaaGreat
namespace Go.Proofs.YtfehilinnalflaaGreat
open Go.RowKit Go.BigFrame
set_option linter.unusedSimpArgs false
set_option linter.unusedVariables false
set_option maxRecDepth 100000
set_option maxHeartbeats 4000000 in
theorem fe_ret0 (v : BitVec 64) (b p t : Nat) (at_ : BitVec 64) (stops : Bool) :
    (dT (feY v 0#64 0#64) (feH feF0 b p t 0#64) at_ stops feV0 false).needB = true ∧ retV (dT (feY v 0#64 0#64) (feH feF0 b p t 0#64) at_ stops feV0 false) = ⟨0#64, 0x00732023, 0, 0#64, false, 0#64, 0#64, 0#64, false, 0, false, false⟩ ∧ stT (dT (feY v 0#64 0#64) (feH feF0 b p t 0#64) at_ stops feV0 false) = feY v 4#64 (0#64 + 1#64) ∧ flT (dT (feY v 0#64 0#64) (feH feF0 b p t 0#64) at_ stops feV0 false) = false ∧ (dT (feY v 0#64 0#64) (feH feF0 b p t 0#64) at_ stops feV0 false).theM (feH feF0 b p t 0#64) = feH (feF1 v) b p t 0#64 := by
  obtain ⟨y1, y2, y3, y4⟩ := fe_z0
  have hd : (E3 (feY v 0#64 0#64) (feH feF0 b p t 0#64) feV0).needB = true := by rw [fe_d0]; simp
  have key := plain_ret (s := feY v 0#64 0#64) (S := feH feF0 b p t 0#64) (S' := feH (feF1 v) b p t 0#64) (x := feV0) at_ stops (fe_ivq feF0 b p t 0#64 v 0#64 0#64 (by decide)) rfl (fe_t0 v 0#64 b p t 0#64) (fe_r0 v 0#64 b p t 0#64) rfl hd (fe_s0 v 0#64 b p t 0#64) (fe_fe0 v 0#64 (feF1 v) b p t 0#64) (fe_fn0 v 0#64 (feF1 v) b p t 0#64) y4 y3 (show b = b ∧ p = p ∧ t = t from ⟨rfl, rfl, rfl⟩)
  have e : (alV feV0.i || wrV feV0.pc feV0.w (feY v 4#64 (0#64 + 1#64)).pc) = false := by
    rw [y1, Bool.false_or]
    exact y2
  rw [e] at key
  exact key
end Go.Proofs.YtfehilinnalflaaGreat
namespace Go.Proofs.YtfehilinnalflaaGreat
open Go.RowKit Go.BigFrame
set_option linter.unusedSimpArgs false
set_option linter.unusedVariables false
set_option maxRecDepth 100000
set_option maxHeartbeats 4000000 in
theorem fe_ret2 (v : BitVec 64) (b p t : Nat) (at_ : BitVec 64) (stops : Bool) :
    (dT (feY v 8#64 2#64) (feH (feF1 v) b p t 2#64) at_ stops feV2 false).needB = true ∧ retV (dT (feY v 8#64 2#64) (feH (feF1 v) b p t 2#64) at_ stops feV2 false) = ⟨8#64, 0x0f80006f, 0, 0#64, false, 0#64, 0#64, 0#64, false, 0, false, false⟩ ∧ stT (dT (feY v 8#64 2#64) (feH (feF1 v) b p t 2#64) at_ stops feV2 false) = feY v 256#64 (2#64 + 1#64) ∧ flT (dT (feY v 8#64 2#64) (feH (feF1 v) b p t 2#64) at_ stops feV2 false) = false ∧ (dT (feY v 8#64 2#64) (feH (feF1 v) b p t 2#64) at_ stops feV2 false).theM (feH (feF1 v) b p t 2#64) = feH (feF1 v) b p t 2#64 := by
  obtain ⟨y1, y2, y3, y4⟩ := fe_z2
  have key := plain_ret (s := feY v 8#64 2#64) (S := feH (feF1 v) b p t 2#64) (S' := feH (feF1 v) b p t 2#64) (x := feV2) at_ stops (fe_ivq (feF1 v) b p t 2#64 v 8#64 2#64 (by decide)) rfl (fe_t2 v 2#64 (feF1 v) b p t 2#64) (fe_r2 v 2#64 (feF1 v) b p t 2#64) rfl (fe_d2 v 2#64 (feF1 v) b p t 2#64) (fe_s2 v 2#64 (feF1 v) b p t 2#64) (fe_fe2 v 2#64 (feF1 v) b p t 2#64) (fe_fn2 v 2#64 (feF1 v) b p t 2#64) y4 y3 ⟨rfl, rfl, rfl⟩
  have e : (alV feV2.i || wrV feV2.pc feV2.w (feY v 256#64 (2#64 + 1#64)).pc) = false := by
    rw [y1, Bool.false_or]
    exact y2
  rw [e] at key
  exact key
set_option maxHeartbeats 4000000 in
theorem fe_ret3 (k : Nat) (hk : k < 4096) (v : BitVec 64) (b p t : Nat) (at_ : BitVec 64) (stops : Bool) :
    (dT (feY v 256#64 3#64) (feH (feF1 v) b p t 3#64) at_ stops (feV3 k) false).needB = true ∧ retV (dT (feY v 256#64 3#64) (feH (feF1 v) b p t 3#64) at_ stops (feV3 k) false) = ⟨256#64, feW k, 5, 0#64 + BitVec.ofInt 64 (feK k), false, 0#64, 0#64, 0#64, false, 0, false, false⟩ ∧ stT (dT (feY v 256#64 3#64) (feH (feF1 v) b p t 3#64) at_ stops (feV3 k) false) = feZ v 3#64 k ∧ flT (dT (feY v 256#64 3#64) (feH (feF1 v) b p t 3#64) at_ stops (feV3 k) false) = false ∧ (dT (feY v 256#64 3#64) (feH (feF1 v) b p t 3#64) at_ stops (feV3 k) false).theM (feH (feF1 v) b p t 3#64) = feH (feF1 v) b p t 3#64 := by
  obtain ⟨y1, y2, y3, y4⟩ := fe_z3 k hk
  obtain ⟨q1, q2, q3, q4⟩ := fe_E3 k hk v 3#64 (feF1 v) b p t 3#64
  have key := plain_ret (s := feY v 256#64 3#64) (S := feH (feF1 v) b p t 3#64) (S' := feH (feF1 v) b p t 3#64) (x := feV3 k) at_ stops (fe_ivq (feF1 v) b p t 3#64 v 256#64 3#64 (by decide)) rfl q2 q3 rfl q1 q4 (fe_fe3 v 3#64 (feF1 v) b p t 3#64 k) (fe_fn3 v 3#64 (feF1 v) b p t 3#64 (feK k)) y4 y3 ⟨rfl, rfl, rfl⟩
  have e : (alV (feV3 k).i || wrV (feV3 k).pc (feV3 k).w (feZ v 3#64 k).pc) = false := by
    rw [y1, Bool.false_or]
    exact y2
  rw [e] at key
  exact key
end Go.Proofs.YtfehilinnalflaaGreat
namespace Go.Proofs.YtfehilinnalflaaGreat
open Go.RowKit Go.BigFrame
set_option linter.unusedSimpArgs false
set_option linter.unusedVariables false
set_option maxRecDepth 100000
def feSl (k : Nat) : Nat → SlV
  | 0 => feW0
  | 1 => feW1
  | 2 => feW2
  | 3 => feW3 k
  | _ => feW4
section
variable (k : Nat)
theorem fe_mv : (t_insn_Size feW0.i.op).needB = true ∧ (t_insn_Size feW1.i.op).needB = true ∧ (t_insn_Size feW2.i.op).needB = true ∧ (t_insn_Size (feW3 k).i.op).needB = true ∧ (t_insn_Size feW4.i.op).needB = true := by refine ⟨?_, ?_, ?_, ?_, ?_⟩ <;> kernel_rfl
theorem fe_wt0 : (wtT feW0.i feW0.i).needB = true ∧ (wtT feW0.i feW1.i).needB = true ∧ (wtT feW0.i feW2.i).needB = true ∧ (wtT feW0.i (feW3 k).i).needB = true ∧ (wtT feW0.i feW4.i).needB = true := by refine ⟨?_, ?_, ?_, ?_, ?_⟩ <;> kernel_rfl
theorem fe_wt1 : (wtT feW1.i feW0.i).needB = true ∧ (wtT feW1.i feW1.i).needB = true ∧ (wtT feW1.i feW2.i).needB = true ∧ (wtT feW1.i (feW3 k).i).needB = true ∧ (wtT feW1.i feW4.i).needB = true := by refine ⟨?_, ?_, ?_, ?_, ?_⟩ <;> kernel_rfl
theorem fe_wt2 : (wtT feW2.i feW0.i).needB = true ∧ (wtT feW2.i feW1.i).needB = true ∧ (wtT feW2.i feW2.i).needB = true ∧ (wtT feW2.i (feW3 k).i).needB = true ∧ (wtT feW2.i feW4.i).needB = true := by refine ⟨?_, ?_, ?_, ?_, ?_⟩ <;> kernel_rfl
theorem fe_wt3 : (wtT (feW3 k).i feW0.i).needB = true ∧ (wtT (feW3 k).i feW1.i).needB = true ∧ (wtT (feW3 k).i feW2.i).needB = true ∧ (wtT (feW3 k).i (feW3 k).i).needB = true ∧ (wtT (feW3 k).i feW4.i).needB = true := by refine ⟨?_, ?_, ?_, ?_, ?_⟩ <;> kernel_rfl
theorem fe_wt4 : (wtT feW4.i feW0.i).needB = true ∧ (wtT feW4.i feW1.i).needB = true ∧ (wtT feW4.i feW2.i).needB = true ∧ (wtT feW4.i (feW3 k).i).needB = true ∧ (wtT feW4.i feW4.i).needB = true := by refine ⟨?_, ?_, ?_, ?_, ?_⟩ <;> kernel_rfl
theorem fe_mvs (i j : Nat) : (t_insn_Size (feSl k i).i.op).needB = true ∧ (wtT (feSl k i).i (feSl k j).i).needB = true := by
  obtain ⟨m0, m1, m2, m3, m4⟩ := fe_mv k
  obtain ⟨w00, w01, w02, w03, w04⟩ := fe_wt0 k
  obtain ⟨w10, w11, w12, w13, w14⟩ := fe_wt1 k
  obtain ⟨w20, w21, w22, w23, w24⟩ := fe_wt2 k
  obtain ⟨w30, w31, w32, w33, w34⟩ := fe_wt3 k
  obtain ⟨w40, w41, w42, w43, w44⟩ := fe_wt4 k
  match i, j with
  | 0, 0 => exact ⟨m0, w00⟩
  | 0, 1 => exact ⟨m0, w01⟩
  | 0, 2 => exact ⟨m0, w02⟩
  | 0, 3 => exact ⟨m0, w03⟩
  | 0, _ + 4 => exact ⟨m0, w04⟩
  | 1, 0 => exact ⟨m1, w10⟩
  | 1, 1 => exact ⟨m1, w11⟩
  | 1, 2 => exact ⟨m1, w12⟩
  | 1, 3 => exact ⟨m1, w13⟩
  | 1, _ + 4 => exact ⟨m1, w14⟩
  | 2, 0 => exact ⟨m2, w20⟩
  | 2, 1 => exact ⟨m2, w21⟩
  | 2, 2 => exact ⟨m2, w22⟩
  | 2, 3 => exact ⟨m2, w23⟩
  | 2, _ + 4 => exact ⟨m2, w24⟩
  | 3, 0 => exact ⟨m3, w30⟩
  | 3, 1 => exact ⟨m3, w31⟩
  | 3, 2 => exact ⟨m3, w32⟩
  | 3, 3 => exact ⟨m3, w33⟩
  | 3, _ + 4 => exact ⟨m3, w34⟩
  | _ + 4, 0 => exact ⟨m4, w40⟩
  | _ + 4, 1 => exact ⟨m4, w41⟩
  | _ + 4, 2 => exact ⟨m4, w42⟩
  | _ + 4, 3 => exact ⟨m4, w43⟩
  | _ + 4, _ + 4 => exact ⟨m4, w44⟩
end
end Go.Proofs.YtfehilinnalflaaGreat
