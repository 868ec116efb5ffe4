/- Part 14 of the texts behind the law: contracts and lemmas, each proved; no condition but what each names. -/
import Derived.WalkKit
import Derived.Deep.QuietTactic
import Derived.BigQuiet
import Derived.Outline
import Derived.Handy
import Derived.Lib.Hide
import Derived.Test.YtfehilinnalflaaGreatQ01
import Derived.Test.YtfehilinnalflaaGreatQ05
import Derived.Test.YtfehilinnalflaaGreatQ08
import Derived.Test.YtfehilinnalflaaGreatQ11
import Derived.Test.YtfehilinnalflaaGreatQ13
namespace Go.Proofs.YtfehilinnalflaaGreat
open Go.RowKit Go.BigFrame
set_option linter.unusedSimpArgs false
set_option linter.unusedVariables false
set_option maxRecDepth 100000
noncomputable def rWide (x : Int) : Bool := opcI x == 19
def sel8 (l : List Int) (i : Int) : Int := l.getD i.toNat 0
noncomputable def rOp (x f3 : Int) : Int := bif rWide x then sel8 [22, 28, 23, 24, 25, 29, 26, 27] f3 else sel8 [31, 32, 0, 0, 0, 33, 0, 0] f3
noncomputable def rB (x : Int) : Int := bif rWide x then 6 else 5
noncomputable def rR1 (x : Int) : BitVec 64 := bitsB (BitVec.ofInt 64 x) (loOf 20) (nOf 20 (rB x))
noncomputable def rR2 (x : Int) : BitVec 64 := bitsB (BitVec.ofInt 64 x) (loOf (20 + rB x)) (nOf (20 + rB x) (12 - rB x))
noncomputable def rAb (x : Int) : BitVec 64 := rR2 x <<< (rB x).toNat
noncomputable def rDir (x f3 : Int) : Bool := rOp x f3 == 0 || (f3 != 1 && f3 != 5)
noncomputable def rArith (x f3 : Int) : Bool := ((rAb x).toNat : Int) == 1024 && f3 == 5
noncomputable def rBad (x f3 : Int) : Bool := !rArith x f3 && ((rAb x).toNat : Int) != 0
noncomputable def rOpO (x f3 : Int) : Int := bif rDir x f3 then rOp x f3 else bif rArith x f3 then rOp x f3 + 1 else bif rBad x f3 then 0 else rOp x f3
noncomputable def rReg (x f3 d : Int) : Int := bif rDir x f3 then d else bif rBad x f3 then 0 else d
noncomputable def rImm (x d1 f3 d3 d4 d5 : Int) : Int := bif rDir x f3 then immI x d1 f3 d3 d4 d5 (rOp x f3) else bif rBad x f3 then 0 else wrap64 ((rR1 x).toNat : Int)
noncomputable def rOk (x f3 : Int) : Bool := bif rDir x f3 then rOp x f3 != 0 else !rBad x f3
theorem hab6 (r : BitVec 64) : IntKind.u64.wrap ((r.toNat : Int) * 64) = ((r <<< 6).toNat : Int) := by
  rw [u_wrap, BitVec.toNat_ofInt, BitVec.toNat_shiftLeft, Nat.shiftLeft_eq]; omega
theorem hab5 (r : BitVec 64) : IntKind.u64.wrap ((r.toNat : Int) * 32) = ((r <<< 5).toNat : Int) := by
  rw [u_wrap, BitVec.toNat_ofInt, BitVec.toNat_shiftLeft, Nat.shiftLeft_eq]; omega
def RV (op d1 d3 im : Int) (ok : Bool) : Value := .tuple #[.agg #[.int .i64 op, .int .i64 d1, .int .i64 d3, .int .i64 0, .int .i64 im, .int .i64 0], .bool ok]
theorem bif2 {α : Type} {a b : Bool} (ha : a = false) (hb : b = false) (x y z : α) : (bif a then x else bif b then y else z) = z := by subst ha; subst hb; rfl
theorem rv_eq (op d1 d3 im : Int) (ok : Bool) : Value.tuple #[.agg #[.int .i64 op, .int .i64 d1, .int .i64 d3, .int .i64 0, .int .i64 im, .int .i64 0], .bool ok] = RV op d1 d3 im ok := rfl
theorem rv_bad (x f3 d1 d3 d4 d5 : Int) (hd : rDir x f3 = false) (hA : rArith x f3 = false) (hB : rBad x f3 = true) : Value.tuple #[.agg #[.int .i64 0, .int .i64 0, .int .i64 0, .int .i64 0, .int .i64 0, .int .i64 0], .bool false] = RV (rOpO x f3) (rReg x f3 d1) (rReg x f3 d3) (rImm x d1 f3 d3 d4 d5) (rOk x f3) := by
  have h1 : rOpO x f3 = 0 := by unfold rOpO; rw [hd, hA, hB]; rfl
  have h2 : ∀ d, rReg x f3 d = 0 := fun d => by unfold rReg; rw [hd, hB]; rfl
  have h3 : rImm x d1 f3 d3 d4 d5 = 0 := by unfold rImm; rw [hd, hB]; rfl
  have h4 : rOk x f3 = false := by unfold rOk; rw [hd, hB]; rfl
  rw [h1, h2, h2, h3, h4]; rfl
theorem rv_imm (x f3 d1 d3 d4 d5 : Int) (hd : rDir x f3 = false) (hB : rBad x f3 = false) : rImm x d1 f3 d3 d4 d5 = wrap64 ((rR1 x).toNat : Int) := by
  exact bif2 hd hB _ _ _
theorem rv_shift (x f3 d1 d3 d4 d5 : Int) {op : Int} (hd : rDir x f3 = false) (hA : rArith x f3 = false) (hB : rBad x f3 = false) (hop : rOp x f3 = op) : Value.tuple #[.agg #[.int .i64 op, .int .i64 d1, .int .i64 d3, .int .i64 0, .int .i64 (wrap64 ((rR1 x).toNat : Int)), .int .i64 0], .bool true] = RV (rOpO x f3) (rReg x f3 d1) (rReg x f3 d3) (rImm x d1 f3 d3 d4 d5) (rOk x f3) := by
  have h1 : rOpO x f3 = op := by unfold rOpO; rw [hd, hA, hB, hop]; rfl
  have h2 : ∀ d, rReg x f3 d = d := fun d => by unfold rReg; rw [hd, hB]; rfl
  have h4 : rOk x f3 = true := by unfold rOk; rw [hd, hB]; rfl
  rw [h1, h2, h2, rv_imm x f3 d1 d3 d4 d5 hd hB, h4]
  exact rv_eq _ _ _ _ _
theorem rv_arith (x f3 d1 d3 d4 d5 : Int) {op : Int} (hd : rDir x f3 = false) (hA : rArith x f3 = true) (hB : rBad x f3 = false) (hop : rOp x f3 = op) : Value.tuple #[.agg #[.int .i64 (op + 1), .int .i64 d1, .int .i64 d3, .int .i64 0, .int .i64 (wrap64 ((rR1 x).toNat : Int)), .int .i64 0], .bool true] = RV (rOpO x f3) (rReg x f3 d1) (rReg x f3 d3) (rImm x d1 f3 d3 d4 d5) (rOk x f3) := by
  have h1 : rOpO x f3 = op + 1 := by unfold rOpO; rw [hd, hA, hop]; rfl
  have h2 : ∀ d, rReg x f3 d = d := fun d => by unfold rReg; rw [hd, hB]; rfl
  have h4 : rOk x f3 = true := by unfold rOk; rw [hd, hB]; rfl
  rw [h1, h2, h2, rv_imm x f3 d1 d3 d4 d5 hd hB, h4]
  exact rv_eq _ _ _ _ _
theorem rk1_6 (x : Int) (hb : rB x = 6) : Gives Tryz.prog 78 #[.int .u64 ((BitVec.ofInt 64 x).toNat : Int), .int .i64 20, .int .i64 6] (.int .u64 ((rR1 x).toNat : Int)) := by
  have := bits_b (BitVec.ofInt 64 x) 20 6
  have e : rR1 x = bitsB (BitVec.ofInt 64 x) (loOf 20) (nOf 20 6) := by unfold rR1; rw [hb]
  rw [e]; exact this
theorem rk2_6 (x : Int) (hb : rB x = 6) : Gives Tryz.prog 78 #[.int .u64 ((BitVec.ofInt 64 x).toNat : Int), .int .i64 26, .int .i64 6] (.int .u64 ((rR2 x).toNat : Int)) := by
  have := bits_b (BitVec.ofInt 64 x) 26 6
  have e : rR2 x = bitsB (BitVec.ofInt 64 x) (loOf 26) (nOf 26 6) := by unfold rR2; rw [hb]; rfl
  rw [e]; exact this
theorem rk3_6 (x : Int) (hb : rB x = 6) : IntKind.u64.wrap (((rR2 x).toNat : Int) * 64) = ((rAb x).toNat : Int) := by
  have ha : rAb x = rR2 x <<< 6 := by unfold rAb; rw [hb]; rfl
  rw [ha]; exact hab6 _
theorem rk1_5 (x : Int) (hb : rB x = 5) : Gives Tryz.prog 78 #[.int .u64 ((BitVec.ofInt 64 x).toNat : Int), .int .i64 20, .int .i64 5] (.int .u64 ((rR1 x).toNat : Int)) := by
  have := bits_b (BitVec.ofInt 64 x) 20 5
  have e : rR1 x = bitsB (BitVec.ofInt 64 x) (loOf 20) (nOf 20 5) := by unfold rR1; rw [hb]
  rw [e]; exact this
theorem rk2_5 (x : Int) (hb : rB x = 5) : Gives Tryz.prog 78 #[.int .u64 ((BitVec.ofInt 64 x).toNat : Int), .int .i64 25, .int .i64 7] (.int .u64 ((rR2 x).toNat : Int)) := by
  have := bits_b (BitVec.ofInt 64 x) 25 7
  have e : rR2 x = bitsB (BitVec.ofInt 64 x) (loOf 25) (nOf 25 7) := by unfold rR2; rw [hb]; rfl
  rw [e]; exact this
theorem rk3_5 (x : Int) (hb : rB x = 5) : IntKind.u64.wrap (((rR2 x).toNat : Int) * 32) = ((rAb x).toNat : Int) := by
  have ha : rAb x = rR2 x <<< 5 := by unfold rAb; rw [hb]; rfl
  rw [ha]; exact hab5 _
theorem rk_w0 (x d1 d3 d4 d5 : Int) (hw : rWide x = true) : Gives Tryz.prog 175 #[.agg #[.int .u32 x, .int .i64 d1, .int .i64 0, .int .i64 d3, .int .i64 d4, .int .i64 d5]] (RV (rOpO x 0) (rReg x 0 d1) (rReg x 0 d3) (rImm x d1 0 d3 d4 d5) (rOk x 0)) := by
    have hq : opcI x = 19 := by simpa [rWide] using hw
    have hb : rB x = 6 := by unfold rB; rw [hw]; rfl
    have hop : rOp x 0 = 22 := by unfold rOp; rw [hw]; rfl
    have hd : rDir x 0 = true := by unfold rDir; rw [hop]; rfl
    refine (reck_w0 x d1 d3 d4 d5 (immI x d1 0 d3 d4 d5 22) (opcI x) hq (opc_b x) (imm_b x d1 0 d3 d4 d5 22)).to ?_
    unfold RV rOpO rReg rImm rOk; rw [hd, hop]; rfl
theorem rk_w1 (x d1 d3 d4 d5 : Int) (hw : rWide x = true) : Gives Tryz.prog 175 #[.agg #[.int .u32 x, .int .i64 d1, .int .i64 1, .int .i64 d3, .int .i64 d4, .int .i64 d5]] (RV (rOpO x 1) (rReg x 1 d1) (rReg x 1 d3) (rImm x d1 1 d3 d4 d5) (rOk x 1)) := by
    have hq : opcI x = 19 := by simpa [rWide] using hw
    have hb : rB x = 6 := by unfold rB; rw [hw]; rfl
    have hop : rOp x 1 = 28 := by unfold rOp; rw [hw]; rfl
    have hd : rDir x 1 = false := by unfold rDir; rw [hop]; rfl
    have k1 := rk1_6 x hb
    have k2 := rk2_6 x hb
    have hab := rk3_6 x hb
    cases e1 : (((rAb x).toNat : Int) == 1024) with
    | true =>
      have e2 : (((rAb x).toNat : Int) != 0) = true := by have := eq_of_beq e1; rw [this]; rfl
      have hA : rArith x 1 = false := by unfold rArith; rw [e1]; rfl
      have hB : rBad x 1 = true := by unfold rBad; rw [hA, e2]; rfl
      refine (reck_w1_01t x d1 d3 d4 d5 (opcI x) hq (BitVec.ofInt 64 x) (rR1 x) (rR2 x) (rAb x) (u_wrap x) (opc_b x) k1 k2 hab e1 e2).to ?_
      exact rv_bad _ _ _ _ _ _ hd hA hB
    | false =>
      cases e2 : (((rAb x).toNat : Int) != 0) with
      | true =>
        have hA : rArith x 1 = false := by unfold rArith; rw [e1]; rfl
        have hB : rBad x 1 = true := by unfold rBad; rw [hA, e2]; rfl
        refine (reck_w1_01 x d1 d3 d4 d5 (opcI x) hq (BitVec.ofInt 64 x) (rR1 x) (rR2 x) (rAb x) (u_wrap x) (opc_b x) k1 k2 hab e1 e2).to ?_
        exact rv_bad _ _ _ _ _ _ hd hA hB
      | false =>
        have hA : rArith x 1 = false := by unfold rArith; rw [e1]; rfl
        have hB : rBad x 1 = false := by unfold rBad; rw [hA, e2]; rfl
        refine (reck_w1_00 x d1 d3 d4 d5 (opcI x) hq (BitVec.ofInt 64 x) (rR1 x) (rR2 x) (rAb x) (u_wrap x) (opc_b x) k1 k2 hab e1 e2).to ?_
        exact rv_shift _ _ _ _ _ _ hd hA hB hop
theorem rk_w2 (x d1 d3 d4 d5 : Int) (hw : rWide x = true) : Gives Tryz.prog 175 #[.agg #[.int .u32 x, .int .i64 d1, .int .i64 2, .int .i64 d3, .int .i64 d4, .int .i64 d5]] (RV (rOpO x 2) (rReg x 2 d1) (rReg x 2 d3) (rImm x d1 2 d3 d4 d5) (rOk x 2)) := by
    have hq : opcI x = 19 := by simpa [rWide] using hw
    have hb : rB x = 6 := by unfold rB; rw [hw]; rfl
    have hop : rOp x 2 = 23 := by unfold rOp; rw [hw]; rfl
    have hd : rDir x 2 = true := by unfold rDir; rw [hop]; rfl
    refine (reck_w2 x d1 d3 d4 d5 (immI x d1 2 d3 d4 d5 23) (opcI x) hq (opc_b x) (imm_b x d1 2 d3 d4 d5 23)).to ?_
    unfold RV rOpO rReg rImm rOk; rw [hd, hop]; rfl
theorem rk_w3 (x d1 d3 d4 d5 : Int) (hw : rWide x = true) : Gives Tryz.prog 175 #[.agg #[.int .u32 x, .int .i64 d1, .int .i64 3, .int .i64 d3, .int .i64 d4, .int .i64 d5]] (RV (rOpO x 3) (rReg x 3 d1) (rReg x 3 d3) (rImm x d1 3 d3 d4 d5) (rOk x 3)) := by
    have hq : opcI x = 19 := by simpa [rWide] using hw
    have hb : rB x = 6 := by unfold rB; rw [hw]; rfl
    have hop : rOp x 3 = 24 := by unfold rOp; rw [hw]; rfl
    have hd : rDir x 3 = true := by unfold rDir; rw [hop]; rfl
    refine (reck_w3 x d1 d3 d4 d5 (immI x d1 3 d3 d4 d5 24) (opcI x) hq (opc_b x) (imm_b x d1 3 d3 d4 d5 24)).to ?_
    unfold RV rOpO rReg rImm rOk; rw [hd, hop]; rfl
theorem rk_w4 (x d1 d3 d4 d5 : Int) (hw : rWide x = true) : Gives Tryz.prog 175 #[.agg #[.int .u32 x, .int .i64 d1, .int .i64 4, .int .i64 d3, .int .i64 d4, .int .i64 d5]] (RV (rOpO x 4) (rReg x 4 d1) (rReg x 4 d3) (rImm x d1 4 d3 d4 d5) (rOk x 4)) := by
    have hq : opcI x = 19 := by simpa [rWide] using hw
    have hb : rB x = 6 := by unfold rB; rw [hw]; rfl
    have hop : rOp x 4 = 25 := by unfold rOp; rw [hw]; rfl
    have hd : rDir x 4 = true := by unfold rDir; rw [hop]; rfl
    refine (reck_w4 x d1 d3 d4 d5 (immI x d1 4 d3 d4 d5 25) (opcI x) hq (opc_b x) (imm_b x d1 4 d3 d4 d5 25)).to ?_
    unfold RV rOpO rReg rImm rOk; rw [hd, hop]; rfl
theorem rk_w5 (x d1 d3 d4 d5 : Int) (hw : rWide x = true) : Gives Tryz.prog 175 #[.agg #[.int .u32 x, .int .i64 d1, .int .i64 5, .int .i64 d3, .int .i64 d4, .int .i64 d5]] (RV (rOpO x 5) (rReg x 5 d1) (rReg x 5 d3) (rImm x d1 5 d3 d4 d5) (rOk x 5)) := by
    have hq : opcI x = 19 := by simpa [rWide] using hw
    have hb : rB x = 6 := by unfold rB; rw [hw]; rfl
    have hop : rOp x 5 = 29 := by unfold rOp; rw [hw]; rfl
    have hd : rDir x 5 = false := by unfold rDir; rw [hop]; rfl
    have k1 := rk1_6 x hb
    have k2 := rk2_6 x hb
    have hab := rk3_6 x hb
    cases e1 : (((rAb x).toNat : Int) == 1024) with
    | true =>
      have hA : rArith x 5 = true := by unfold rArith; rw [e1]; rfl
      have hB : rBad x 5 = false := by unfold rBad; rw [hA]; rfl
      refine (reck_w5_10 x d1 d3 d4 d5 (opcI x) hq (BitVec.ofInt 64 x) (rR1 x) (rR2 x) (rAb x) (u_wrap x) (opc_b x) k1 k2 hab e1).to ?_
      exact rv_arith _ _ _ _ _ _ hd hA hB hop
    | false =>
      cases e2 : (((rAb x).toNat : Int) != 0) with
      | true =>
        have hA : rArith x 5 = false := by unfold rArith; rw [e1]; rfl
        have hB : rBad x 5 = true := by unfold rBad; rw [hA, e2]; rfl
        refine (reck_w5_01 x d1 d3 d4 d5 (opcI x) hq (BitVec.ofInt 64 x) (rR1 x) (rR2 x) (rAb x) (u_wrap x) (opc_b x) k1 k2 hab e1 e2).to ?_
        exact rv_bad _ _ _ _ _ _ hd hA hB
      | false =>
        have hA : rArith x 5 = false := by unfold rArith; rw [e1]; rfl
        have hB : rBad x 5 = false := by unfold rBad; rw [hA, e2]; rfl
        refine (reck_w5_00 x d1 d3 d4 d5 (opcI x) hq (BitVec.ofInt 64 x) (rR1 x) (rR2 x) (rAb x) (u_wrap x) (opc_b x) k1 k2 hab e1 e2).to ?_
        exact rv_shift _ _ _ _ _ _ hd hA hB hop
theorem rk_w6 (x d1 d3 d4 d5 : Int) (hw : rWide x = true) : Gives Tryz.prog 175 #[.agg #[.int .u32 x, .int .i64 d1, .int .i64 6, .int .i64 d3, .int .i64 d4, .int .i64 d5]] (RV (rOpO x 6) (rReg x 6 d1) (rReg x 6 d3) (rImm x d1 6 d3 d4 d5) (rOk x 6)) := by
    have hq : opcI x = 19 := by simpa [rWide] using hw
    have hb : rB x = 6 := by unfold rB; rw [hw]; rfl
    have hop : rOp x 6 = 26 := by unfold rOp; rw [hw]; rfl
    have hd : rDir x 6 = true := by unfold rDir; rw [hop]; rfl
    refine (reck_w6 x d1 d3 d4 d5 (immI x d1 6 d3 d4 d5 26) (opcI x) hq (opc_b x) (imm_b x d1 6 d3 d4 d5 26)).to ?_
    unfold RV rOpO rReg rImm rOk; rw [hd, hop]; rfl
theorem rk_w7 (x d1 d3 d4 d5 : Int) (hw : rWide x = true) : Gives Tryz.prog 175 #[.agg #[.int .u32 x, .int .i64 d1, .int .i64 7, .int .i64 d3, .int .i64 d4, .int .i64 d5]] (RV (rOpO x 7) (rReg x 7 d1) (rReg x 7 d3) (rImm x d1 7 d3 d4 d5) (rOk x 7)) := by
    have hq : opcI x = 19 := by simpa [rWide] using hw
    have hb : rB x = 6 := by unfold rB; rw [hw]; rfl
    have hop : rOp x 7 = 27 := by unfold rOp; rw [hw]; rfl
    have hd : rDir x 7 = true := by unfold rDir; rw [hop]; rfl
    refine (reck_w7 x d1 d3 d4 d5 (immI x d1 7 d3 d4 d5 27) (opcI x) hq (opc_b x) (imm_b x d1 7 d3 d4 d5 27)).to ?_
    unfold RV rOpO rReg rImm rOk; rw [hd, hop]; rfl
theorem rk_n0 (x d1 d3 d4 d5 : Int) (hw : rWide x = false) : Gives Tryz.prog 175 #[.agg #[.int .u32 x, .int .i64 d1, .int .i64 0, .int .i64 d3, .int .i64 d4, .int .i64 d5]] (RV (rOpO x 0) (rReg x 0 d1) (rReg x 0 d3) (rImm x d1 0 d3 d4 d5) (rOk x 0)) := by
    have hq : (opcI x == 19) = false := by exact hw
    have hb : rB x = 5 := by unfold rB; rw [hw]; rfl
    have hop : rOp x 0 = 31 := by unfold rOp; rw [hw]; rfl
    have hd : rDir x 0 = true := by unfold rDir; rw [hop]; rfl
    refine (reck_n0 x d1 d3 d4 d5 (immI x d1 0 d3 d4 d5 31) (opcI x) hq (opc_b x) (imm_b x d1 0 d3 d4 d5 31)).to ?_
    unfold RV rOpO rReg rImm rOk; rw [hd, hop]; rfl
theorem rk_n1 (x d1 d3 d4 d5 : Int) (hw : rWide x = false) : Gives Tryz.prog 175 #[.agg #[.int .u32 x, .int .i64 d1, .int .i64 1, .int .i64 d3, .int .i64 d4, .int .i64 d5]] (RV (rOpO x 1) (rReg x 1 d1) (rReg x 1 d3) (rImm x d1 1 d3 d4 d5) (rOk x 1)) := by
    have hq : (opcI x == 19) = false := by exact hw
    have hb : rB x = 5 := by unfold rB; rw [hw]; rfl
    have hop : rOp x 1 = 32 := by unfold rOp; rw [hw]; rfl
    have hd : rDir x 1 = false := by unfold rDir; rw [hop]; rfl
    have k1 := rk1_5 x hb
    have k2 := rk2_5 x hb
    have hab := rk3_5 x hb
    cases e1 : (((rAb x).toNat : Int) == 1024) with
    | true =>
      have e2 : (((rAb x).toNat : Int) != 0) = true := by have := eq_of_beq e1; rw [this]; rfl
      have hA : rArith x 1 = false := by unfold rArith; rw [e1]; rfl
      have hB : rBad x 1 = true := by unfold rBad; rw [hA, e2]; rfl
      refine (reck_n1_01t x d1 d3 d4 d5 (opcI x) hq (BitVec.ofInt 64 x) (rR1 x) (rR2 x) (rAb x) (u_wrap x) (opc_b x) k1 k2 hab e1 e2).to ?_
      exact rv_bad _ _ _ _ _ _ hd hA hB
    | false =>
      cases e2 : (((rAb x).toNat : Int) != 0) with
      | true =>
        have hA : rArith x 1 = false := by unfold rArith; rw [e1]; rfl
        have hB : rBad x 1 = true := by unfold rBad; rw [hA, e2]; rfl
        refine (reck_n1_01 x d1 d3 d4 d5 (opcI x) hq (BitVec.ofInt 64 x) (rR1 x) (rR2 x) (rAb x) (u_wrap x) (opc_b x) k1 k2 hab e1 e2).to ?_
        exact rv_bad _ _ _ _ _ _ hd hA hB
      | false =>
        have hA : rArith x 1 = false := by unfold rArith; rw [e1]; rfl
        have hB : rBad x 1 = false := by unfold rBad; rw [hA, e2]; rfl
        refine (reck_n1_00 x d1 d3 d4 d5 (opcI x) hq (BitVec.ofInt 64 x) (rR1 x) (rR2 x) (rAb x) (u_wrap x) (opc_b x) k1 k2 hab e1 e2).to ?_
        exact rv_shift _ _ _ _ _ _ hd hA hB hop
theorem rk_n2 (x d1 d3 d4 d5 : Int) (hw : rWide x = false) : Gives Tryz.prog 175 #[.agg #[.int .u32 x, .int .i64 d1, .int .i64 2, .int .i64 d3, .int .i64 d4, .int .i64 d5]] (RV (rOpO x 2) (rReg x 2 d1) (rReg x 2 d3) (rImm x d1 2 d3 d4 d5) (rOk x 2)) := by
    have hq : (opcI x == 19) = false := by exact hw
    have hb : rB x = 5 := by unfold rB; rw [hw]; rfl
    have hop : rOp x 2 = 0 := by unfold rOp; rw [hw]; rfl
    have hd : rDir x 2 = true := by unfold rDir; rw [hop]; rfl
    refine (reck_n2 x d1 d3 d4 d5 (immI x d1 2 d3 d4 d5 0) (opcI x) hq (opc_b x) (imm_b x d1 2 d3 d4 d5 0)).to ?_
    unfold RV rOpO rReg rImm rOk; rw [hd, hop]; rfl
theorem rk_n3 (x d1 d3 d4 d5 : Int) (hw : rWide x = false) : Gives Tryz.prog 175 #[.agg #[.int .u32 x, .int .i64 d1, .int .i64 3, .int .i64 d3, .int .i64 d4, .int .i64 d5]] (RV (rOpO x 3) (rReg x 3 d1) (rReg x 3 d3) (rImm x d1 3 d3 d4 d5) (rOk x 3)) := by
    have hq : (opcI x == 19) = false := by exact hw
    have hb : rB x = 5 := by unfold rB; rw [hw]; rfl
    have hop : rOp x 3 = 0 := by unfold rOp; rw [hw]; rfl
    have hd : rDir x 3 = true := by unfold rDir; rw [hop]; rfl
    refine (reck_n3 x d1 d3 d4 d5 (immI x d1 3 d3 d4 d5 0) (opcI x) hq (opc_b x) (imm_b x d1 3 d3 d4 d5 0)).to ?_
    unfold RV rOpO rReg rImm rOk; rw [hd, hop]; rfl
theorem rk_n4 (x d1 d3 d4 d5 : Int) (hw : rWide x = false) : Gives Tryz.prog 175 #[.agg #[.int .u32 x, .int .i64 d1, .int .i64 4, .int .i64 d3, .int .i64 d4, .int .i64 d5]] (RV (rOpO x 4) (rReg x 4 d1) (rReg x 4 d3) (rImm x d1 4 d3 d4 d5) (rOk x 4)) := by
    have hq : (opcI x == 19) = false := by exact hw
    have hb : rB x = 5 := by unfold rB; rw [hw]; rfl
    have hop : rOp x 4 = 0 := by unfold rOp; rw [hw]; rfl
    have hd : rDir x 4 = true := by unfold rDir; rw [hop]; rfl
    refine (reck_n4 x d1 d3 d4 d5 (immI x d1 4 d3 d4 d5 0) (opcI x) hq (opc_b x) (imm_b x d1 4 d3 d4 d5 0)).to ?_
    unfold RV rOpO rReg rImm rOk; rw [hd, hop]; rfl
theorem rk_n5 (x d1 d3 d4 d5 : Int) (hw : rWide x = false) : Gives Tryz.prog 175 #[.agg #[.int .u32 x, .int .i64 d1, .int .i64 5, .int .i64 d3, .int .i64 d4, .int .i64 d5]] (RV (rOpO x 5) (rReg x 5 d1) (rReg x 5 d3) (rImm x d1 5 d3 d4 d5) (rOk x 5)) := by
    have hq : (opcI x == 19) = false := by exact hw
    have hb : rB x = 5 := by unfold rB; rw [hw]; rfl
    have hop : rOp x 5 = 33 := by unfold rOp; rw [hw]; rfl
    have hd : rDir x 5 = false := by unfold rDir; rw [hop]; rfl
    have k1 := rk1_5 x hb
    have k2 := rk2_5 x hb
    have hab := rk3_5 x hb
    cases e1 : (((rAb x).toNat : Int) == 1024) with
    | true =>
      have hA : rArith x 5 = true := by unfold rArith; rw [e1]; rfl
      have hB : rBad x 5 = false := by unfold rBad; rw [hA]; rfl
      refine (reck_n5_10 x d1 d3 d4 d5 (opcI x) hq (BitVec.ofInt 64 x) (rR1 x) (rR2 x) (rAb x) (u_wrap x) (opc_b x) k1 k2 hab e1).to ?_
      exact rv_arith _ _ _ _ _ _ hd hA hB hop
    | false =>
      cases e2 : (((rAb x).toNat : Int) != 0) with
      | true =>
        have hA : rArith x 5 = false := by unfold rArith; rw [e1]; rfl
        have hB : rBad x 5 = true := by unfold rBad; rw [hA, e2]; rfl
        refine (reck_n5_01 x d1 d3 d4 d5 (opcI x) hq (BitVec.ofInt 64 x) (rR1 x) (rR2 x) (rAb x) (u_wrap x) (opc_b x) k1 k2 hab e1 e2).to ?_
        exact rv_bad _ _ _ _ _ _ hd hA hB
      | false =>
        have hA : rArith x 5 = false := by unfold rArith; rw [e1]; rfl
        have hB : rBad x 5 = false := by unfold rBad; rw [hA, e2]; rfl
        refine (reck_n5_00 x d1 d3 d4 d5 (opcI x) hq (BitVec.ofInt 64 x) (rR1 x) (rR2 x) (rAb x) (u_wrap x) (opc_b x) k1 k2 hab e1 e2).to ?_
        exact rv_shift _ _ _ _ _ _ hd hA hB hop
theorem rk_n6 (x d1 d3 d4 d5 : Int) (hw : rWide x = false) : Gives Tryz.prog 175 #[.agg #[.int .u32 x, .int .i64 d1, .int .i64 6, .int .i64 d3, .int .i64 d4, .int .i64 d5]] (RV (rOpO x 6) (rReg x 6 d1) (rReg x 6 d3) (rImm x d1 6 d3 d4 d5) (rOk x 6)) := by
    have hq : (opcI x == 19) = false := by exact hw
    have hb : rB x = 5 := by unfold rB; rw [hw]; rfl
    have hop : rOp x 6 = 0 := by unfold rOp; rw [hw]; rfl
    have hd : rDir x 6 = true := by unfold rDir; rw [hop]; rfl
    refine (reck_n6 x d1 d3 d4 d5 (immI x d1 6 d3 d4 d5 0) (opcI x) hq (opc_b x) (imm_b x d1 6 d3 d4 d5 0)).to ?_
    unfold RV rOpO rReg rImm rOk; rw [hd, hop]; rfl
theorem rk_n7 (x d1 d3 d4 d5 : Int) (hw : rWide x = false) : Gives Tryz.prog 175 #[.agg #[.int .u32 x, .int .i64 d1, .int .i64 7, .int .i64 d3, .int .i64 d4, .int .i64 d5]] (RV (rOpO x 7) (rReg x 7 d1) (rReg x 7 d3) (rImm x d1 7 d3 d4 d5) (rOk x 7)) := by
    have hq : (opcI x == 19) = false := by exact hw
    have hb : rB x = 5 := by unfold rB; rw [hw]; rfl
    have hop : rOp x 7 = 0 := by unfold rOp; rw [hw]; rfl
    have hd : rDir x 7 = true := by unfold rDir; rw [hop]; rfl
    refine (reck_n7 x d1 d3 d4 d5 (immI x d1 7 d3 d4 d5 0) (opcI x) hq (opc_b x) (imm_b x d1 7 d3 d4 d5 0)).to ?_
    unfold RV rOpO rReg rImm rOk; rw [hd, hop]; rfl
theorem reck_all (x d1 f3 d3 d4 d5 : Int) (h0 : 0 ≤ f3) (h1 : f3 < 8) : Gives Tryz.prog 175 #[.agg #[.int .u32 x, .int .i64 d1, .int .i64 f3, .int .i64 d3, .int .i64 d4, .int .i64 d5]] (RV (rOpO x f3) (rReg x f3 d1) (rReg x f3 d3) (rImm x d1 f3 d3 d4 d5) (rOk x f3)) := by
  have h8 : f3 = 0 ∨ f3 = 1 ∨ f3 = 2 ∨ f3 = 3 ∨ f3 = 4 ∨ f3 = 5 ∨ f3 = 6 ∨ f3 = 7 := by omega
  cases hw : rWide x with
  | true =>
    rcases h8 with rfl | rfl | rfl | rfl | rfl | rfl | rfl | rfl
    · exact rk_w0 x d1 d3 d4 d5 hw
    · exact rk_w1 x d1 d3 d4 d5 hw
    · exact rk_w2 x d1 d3 d4 d5 hw
    · exact rk_w3 x d1 d3 d4 d5 hw
    · exact rk_w4 x d1 d3 d4 d5 hw
    · exact rk_w5 x d1 d3 d4 d5 hw
    · exact rk_w6 x d1 d3 d4 d5 hw
    · exact rk_w7 x d1 d3 d4 d5 hw
  | false =>
    rcases h8 with rfl | rfl | rfl | rfl | rfl | rfl | rfl | rfl
    · exact rk_n0 x d1 d3 d4 d5 hw
    · exact rk_n1 x d1 d3 d4 d5 hw
    · exact rk_n2 x d1 d3 d4 d5 hw
    · exact rk_n3 x d1 d3 d4 d5 hw
    · exact rk_n4 x d1 d3 d4 d5 hw
    · exact rk_n5 x d1 d3 d4 d5 hw
    · exact rk_n6 x d1 d3 d4 d5 hw
    · exact rk_n7 x d1 d3 d4 d5 hw
noncomputable def s_reckons (args : List Dv) : Option (Bool × AV) :=
  match args with
  | [.g [c0, c1, c2, c3, c4, c5]] => (cI .u32 c0).bind fun x => (cI .i64 c1).bind fun d1 => (cI .i64 c2).bind fun f3 => (cI .i64 c3).bind fun d3 => (cI .i64 c4).bind fun d4 => (cI .i64 c5).bind fun d5 =>
      some (decide (0 ≤ f3) && decide (f3 < 8), .t [.g [.x false (.int .i64 (rOpO x f3)), .x false (.int .i64 (rReg x f3 d1)), .x false (.int .i64 (rReg x f3 d3)), .x false (.int .i64 0), .x false (.int .i64 (rImm x d1 f3 d3 d4 d5)), .x false (.int .i64 0)], .s (.x false (.bool (rOk x f3)))])
  | _ => none
noncomputable def E_reckons : Env := FnRE.add 175 s_reckons
theorem E_reckons_ok : EnvOk Tryz.prog E_reckons := FnRE_ok.add _ _ (by
  intro args n av h hn
  unfold s_reckons at h
  split at h
  · rename_i c0 c1 c2 c3 c4 c5
    obtain ⟨x, g0, h⟩ := bind_some h
    obtain ⟨d1, g1, h⟩ := bind_some h
    obtain ⟨f3, g2, h⟩ := bind_some h
    obtain ⟨d3, g3, h⟩ := bind_some h
    obtain ⟨d4, g4, h⟩ := bind_some h
    obtain ⟨d5, g5, h⟩ := bind_some h
    cases h
    rw [Bool.and_eq_true, decide_eq_true_eq, decide_eq_true_eq] at hn
    refine ⟨fun xs => by kernel_rfl, _, fun σ => rfl, ?_⟩
    have := reck_all x d1 f3 d3 d4 d5 hn.1 hn.2
    simp only [List.map_cons, List.map_nil, Dv.val, flat, (cI_ok g0).1, (cI_ok g1).1, (cI_ok g2).1, (cI_ok g3).1, (cI_ok g4).1, (cI_ok g5).1]
    exact this
  · cases h)
def s_fixed (args : List Dv) : Option (Bool × AV) :=
  match args with
  | [.g [c0, c1, c2, c3, c4, c5]] => (cI .u32 c0).bind fun x => (cI .i64 c1).bind fun d1 => (cI .i64 c2).bind fun f3 => (cI .i64 c3).bind fun d3 => (cI .i64 c4).bind fun d4 => (cI .i64 c5).bind fun d5 =>
      some (true, .t [.g [.x false (.int .i64 (opF x)), .x false (.int .i64 0), .x false (.int .i64 0), .x false (.int .i64 0), .x false (.int .i64 0), .x false (.int .i64 0)], .s (.x false (.bool (opF x != 0)))])
  | _ => none
noncomputable def E_fixed : Env := E_reckons.add 177 s_fixed
theorem E_fixed_ok : EnvOk Tryz.prog E_fixed := E_reckons_ok.add _ _ (by
  intro args n av h hn
  unfold s_fixed at h
  split at h
  · rename_i c0 c1 c2 c3 c4 c5
    obtain ⟨x, g0, h⟩ := bind_some h
    obtain ⟨d1, g1, h⟩ := bind_some h
    obtain ⟨f3, g2, h⟩ := bind_some h
    obtain ⟨d3, g3, h⟩ := bind_some h
    obtain ⟨d4, g4, h⟩ := bind_some h
    obtain ⟨d5, g5, h⟩ := bind_some h
    cases h
    refine ⟨fun xs => by kernel_rfl, _, fun σ => rfl, ?_⟩
    have := fixed_b x d1 f3 d3 d4 d5
    simp only [List.map_cons, List.map_nil, Dv.val, flat, (cI_ok g0).1, (cI_ok g1).1, (cI_ok g2).1, (cI_ok g3).1, (cI_ok g4).1, (cI_ok g5).1]
    exact this
  · cases h)
noncomputable def RkE : Env := E_fixed
theorem RkE_ok : EnvOk Tryz.prog RkE := E_fixed_ok
end Go.Proofs.YtfehilinnalflaaGreat
namespace Go.Proofs.YtfehilinnalflaaGreat
open Go.RowKit Go.BigFrame
set_option linter.unusedSimpArgs false
set_option linter.unusedVariables false
set_option maxRecDepth 100000
noncomputable def t_decode_parts_system (a0 : Int) (a1 : Int) (a2 : Int) (a3 : Int) (a4 : Int) (a5 : Int) : Tr := evF Tryz.prog RkE 120 Tryz.f178 [.g [.x false (.int .u32 a0), .x false (.int .i64 a1), .x false (.int .i64 a2), .x false (.int .i64 a3), .x false (.int .i64 a4), .x false (.int .i64 a5)]]
theorem is_decode_parts_system (a0 : Int) (a1 : Int) (a2 : Int) (a3 : Int) (a4 : Int) (a5 : Int) : (t_decode_parts_system a0 a1 a2 a3 a4 a5).is [.g [.i .i64, .i .i64, .i .i64, .i .i64, .i .i64, .i .i64], .s (.b)] = true := by kernel_rfl
noncomputable def s_decode_parts_system (args : List Dv) : Option (Bool × AV) :=
  match args with
  | [.g [c0, c1, c2, c3, c4, c5]] => (cI .u32 c0).bind fun a0 => (cI .i64 c1).bind fun a1 => (cI .i64 c2).bind fun a2 => (cI .i64 c3).bind fun a3 => (cI .i64 c4).bind fun a4 => (cI .i64 c5).bind fun a5 => told (t_decode_parts_system a0 a1 a2 a3 a4 a5) [.g [.i .i64, .i .i64, .i .i64, .i .i64, .i .i64, .i .i64], .s (.b)]
  | _ => none
noncomputable def E_decode_parts_system : Env := RkE.add 178 s_decode_parts_system
theorem E_decode_parts_system_ok : EnvOk Tryz.prog E_decode_parts_system := RkE_ok.add _ _ (by
  intro args n av h hn
  unfold s_decode_parts_system at h
  split at h
  · rename_i c0 c1 c2 c3 c4 c5
    obtain ⟨a0, h0, h⟩ := bind_some h
    obtain ⟨a1, h1, h⟩ := bind_some h
    obtain ⟨a2, h2, h⟩ := bind_some h
    obtain ⟨a3, h3, h⟩ := bind_some h
    obtain ⟨a4, h4, h⟩ := bind_some h
    obtain ⟨a5, h5, h⟩ := bind_some h
    exact told_ok (n := 120) (t := t_decode_parts_system a0 a1 a2 a3 a4 a5) (sh := [.g [.i .i64, .i .i64, .i .i64, .i .i64, .i .i64, .i .i64], .s (.b)]) RkE_ok hmix Tryz.func178 (xs0 := [.g [.x false (.int .u32 a0), .x false (.int .i64 a1), .x false (.int .i64 a2), .x false (.int .i64 a3), .x false (.int .i64 a4), .x false (.int .i64 a5)]]) (by simp only [List.map_cons, List.map_nil, Dv.val, flat, (cI_ok h0).1, (cI_ok h1).1, (cI_ok h2).1, (cI_ok h3).1, (cI_ok h4).1, (cI_ok h5).1]) rfl (is_decode_parts_system a0 a1 a2 a3 a4 a5) (fun xs => by kernel_rfl) h hn
  · cases h)
noncomputable def t_decode_parts_insn (a0 : Int) (a1 : Int) (a2 : Int) (a3 : Int) (a4 : Int) (a5 : Int) : Tr := evF Tryz.prog E_decode_parts_system 120 Tryz.f116 [.g [.x false (.int .u32 a0), .x false (.int .i64 a1), .x false (.int .i64 a2), .x false (.int .i64 a3), .x false (.int .i64 a4), .x false (.int .i64 a5)]]
theorem is_decode_parts_insn (a0 : Int) (a1 : Int) (a2 : Int) (a3 : Int) (a4 : Int) (a5 : Int) : (t_decode_parts_insn a0 a1 a2 a3 a4 a5).is [.g [.i .i64, .i .i64, .i .i64, .i .i64, .i .i64, .i .i64], .s (.b)] = true := by kernel_rfl
noncomputable def s_decode_parts_insn (args : List Dv) : Option (Bool × AV) :=
  match args with
  | [.g [c0, c1, c2, c3, c4, c5]] => (cI .u32 c0).bind fun a0 => (cI .i64 c1).bind fun a1 => (cI .i64 c2).bind fun a2 => (cI .i64 c3).bind fun a3 => (cI .i64 c4).bind fun a4 => (cI .i64 c5).bind fun a5 => told (t_decode_parts_insn a0 a1 a2 a3 a4 a5) [.g [.i .i64, .i .i64, .i .i64, .i .i64, .i .i64, .i .i64], .s (.b)]
  | _ => none
noncomputable def E_decode_parts_insn : Env := E_decode_parts_system.add 116 s_decode_parts_insn
theorem E_decode_parts_insn_ok : EnvOk Tryz.prog E_decode_parts_insn := E_decode_parts_system_ok.add _ _ (by
  intro args n av h hn
  unfold s_decode_parts_insn at h
  split at h
  · rename_i c0 c1 c2 c3 c4 c5
    obtain ⟨a0, h0, h⟩ := bind_some h
    obtain ⟨a1, h1, h⟩ := bind_some h
    obtain ⟨a2, h2, h⟩ := bind_some h
    obtain ⟨a3, h3, h⟩ := bind_some h
    obtain ⟨a4, h4, h⟩ := bind_some h
    obtain ⟨a5, h5, h⟩ := bind_some h
    exact told_ok (n := 120) (t := t_decode_parts_insn a0 a1 a2 a3 a4 a5) (sh := [.g [.i .i64, .i .i64, .i .i64, .i .i64, .i .i64, .i .i64], .s (.b)]) E_decode_parts_system_ok hmix Tryz.func116 (xs0 := [.g [.x false (.int .u32 a0), .x false (.int .i64 a1), .x false (.int .i64 a2), .x false (.int .i64 a3), .x false (.int .i64 a4), .x false (.int .i64 a5)]]) (by simp only [List.map_cons, List.map_nil, Dv.val, flat, (cI_ok h0).1, (cI_ok h1).1, (cI_ok h2).1, (cI_ok h3).1, (cI_ok h4).1, (cI_ok h5).1]) rfl (is_decode_parts_insn a0 a1 a2 a3 a4 a5) (fun xs => by kernel_rfl) h hn
  · cases h)
noncomputable def t_decode_Decode (a0 : Int) : Tr := evF Tryz.prog E_decode_parts_insn 120 Tryz.f76 [.s (.x false (.int .u32 a0))]
theorem is_decode_Decode (a0 : Int) : (t_decode_Decode a0).is [.g [.i .i64, .i .i64, .i .i64, .i .i64, .i .i64, .i .i64], .s (.i .i64)] = true := by kernel_rfl
noncomputable def s_decode_Decode (args : List Dv) : Option (Bool × AV) :=
  match args with
  | [.s c0] => (cI .u32 c0).bind fun a0 => told (t_decode_Decode a0) [.g [.i .i64, .i .i64, .i .i64, .i .i64, .i .i64, .i .i64], .s (.i .i64)]
  | _ => none
noncomputable def E_decode_Decode : Env := E_decode_parts_insn.add 76 s_decode_Decode
theorem E_decode_Decode_ok : EnvOk Tryz.prog E_decode_Decode := E_decode_parts_insn_ok.add _ _ (by
  intro args n av h hn
  unfold s_decode_Decode at h
  split at h
  · rename_i c0
    obtain ⟨a0, h0, h⟩ := bind_some h
    exact told_ok (n := 120) (t := t_decode_Decode a0) (sh := [.g [.i .i64, .i .i64, .i .i64, .i .i64, .i .i64, .i .i64], .s (.i .i64)]) E_decode_parts_insn_ok hmix Tryz.func76 (xs0 := [.s (.x false (.int .u32 a0))]) (by simp only [List.map_cons, List.map_nil, Dv.val, flat, (cI_ok h0).2]) rfl (is_decode_Decode a0) (fun xs => by kernel_rfl) h hn
  · cases h)
noncomputable def t_guess_Next (a0 : BitVec 64) (a1 : Int) : Tr := evF Tryz.prog E_decode_Decode 120 Tryz.f50 [.s (.u false a0), .s (.x false (.int .u32 a1))]
theorem is_guess_Next (a0 : BitVec 64) (a1 : Int) : (t_guess_Next a0 a1).is [.s (.u)] = true := by kernel_rfl
noncomputable def s_guess_Next (args : List Dv) : Option (Bool × AV) :=
  match args with
  | [.s c0, .s c1] => (cU c0).bind fun a0 => (cI .u32 c1).bind fun a1 => told (t_guess_Next a0 a1) [.s (.u)]
  | _ => none
noncomputable def E_guess_Next : Env := E_decode_Decode.add 50 s_guess_Next
theorem E_guess_Next_ok : EnvOk Tryz.prog E_guess_Next := E_decode_Decode_ok.add _ _ (by
  intro args n av h hn
  unfold s_guess_Next at h
  split at h
  · rename_i c0 c1
    obtain ⟨a0, h0, h⟩ := bind_some h
    obtain ⟨a1, h1, h⟩ := bind_some h
    exact told_ok (n := 120) (t := t_guess_Next a0 a1) (sh := [.s (.u)]) E_decode_Decode_ok hmix Tryz.func50 (xs0 := [.s (.u false a0), .s (.x false (.int .u32 a1))]) (by simp only [List.map_cons, List.map_nil, Dv.val, flat, (cU_ok h0).2, (cI_ok h1).2]) rfl (is_guess_Next a0 a1) (fun xs => by kernel_rfl) h hn
  · cases h)
noncomputable def t_guess_Wrong (a0 : BitVec 64) (a1 : Int) (a2 : BitVec 64) : Tr := evF Tryz.prog E_guess_Next 120 Tryz.f70 [.s (.u false a0), .s (.x false (.int .u32 a1)), .s (.u false a2)]
theorem is_guess_Wrong (a0 : BitVec 64) (a1 : Int) (a2 : BitVec 64) : (t_guess_Wrong a0 a1 a2).is [.s (.b)] = true := by kernel_rfl
noncomputable def s_guess_Wrong (args : List Dv) : Option (Bool × AV) :=
  match args with
  | [.s c0, .s c1, .s c2] => (cU c0).bind fun a0 => (cI .u32 c1).bind fun a1 => (cU c2).bind fun a2 => told (t_guess_Wrong a0 a1 a2) [.s (.b)]
  | _ => none
noncomputable def E_guess_Wrong : Env := E_guess_Next.add 70 s_guess_Wrong
theorem E_guess_Wrong_ok : EnvOk Tryz.prog E_guess_Wrong := E_guess_Next_ok.add _ _ (by
  intro args n av h hn
  unfold s_guess_Wrong at h
  split at h
  · rename_i c0 c1 c2
    obtain ⟨a0, h0, h⟩ := bind_some h
    obtain ⟨a1, h1, h⟩ := bind_some h
    obtain ⟨a2, h2, h⟩ := bind_some h
    exact told_ok (n := 120) (t := t_guess_Wrong a0 a1 a2) (sh := [.s (.b)]) E_guess_Next_ok hmix Tryz.func70 (xs0 := [.s (.u false a0), .s (.x false (.int .u32 a1)), .s (.u false a2)]) (by simp only [List.map_cons, List.map_nil, Dv.val, flat, (cU_ok h0).2, (cI_ok h1).2, (cU_ok h2).2]) rfl (is_guess_Wrong a0 a1 a2) (fun xs => by kernel_rfl) h hn
  · cases h)
noncomputable def t_tlb_of (a0 : Bool) (a1 : Bool) (a2 : Int) (a3 : Int) (a4 : Int) (a5 : Int) (a6 : Int) (a7 : Int) (a8 : Int) : Tr := evF Tryz.prog E_guess_Wrong 120 Tryz.f168 [.g [.x false (.bool a0), .x false (.bool a1), .x false (.int .i64 a2), .x false (.int .i64 a3), .x false (.int .i64 a4), .x false (.int .i64 a5), .x false (.int .i64 a6), .x false (.int .i64 a7), .x false (.int .i64 a8)]]
theorem is_tlb_of (a0 : Bool) (a1 : Bool) (a2 : Int) (a3 : Int) (a4 : Int) (a5 : Int) (a6 : Int) (a7 : Int) (a8 : Int) : (t_tlb_of a0 a1 a2 a3 a4 a5 a6 a7 a8).is [.g [.i .i64, .b, .i .i64, .i .i64]] = true := by kernel_rfl
noncomputable def s_tlb_of (args : List Dv) : Option (Bool × AV) :=
  match args with
  | [.g [c0, c1, c2, c3, c4, c5, c6, c7, c8]] => (cB c0).bind fun a0 => (cB c1).bind fun a1 => (cI .i64 c2).bind fun a2 => (cI .i64 c3).bind fun a3 => (cI .i64 c4).bind fun a4 => (cI .i64 c5).bind fun a5 => (cI .i64 c6).bind fun a6 => (cI .i64 c7).bind fun a7 => (cI .i64 c8).bind fun a8 => told (t_tlb_of a0 a1 a2 a3 a4 a5 a6 a7 a8) [.g [.i .i64, .b, .i .i64, .i .i64]]
  | _ => none
noncomputable def E_tlb_of : Env := E_guess_Wrong.add 168 s_tlb_of
theorem E_tlb_of_ok : EnvOk Tryz.prog E_tlb_of := E_guess_Wrong_ok.add _ _ (by
  intro args n av h hn
  unfold s_tlb_of at h
  split at h
  · rename_i c0 c1 c2 c3 c4 c5 c6 c7 c8
    obtain ⟨a0, h0, h⟩ := bind_some h
    obtain ⟨a1, h1, h⟩ := bind_some h
    obtain ⟨a2, h2, h⟩ := bind_some h
    obtain ⟨a3, h3, h⟩ := bind_some h
    obtain ⟨a4, h4, h⟩ := bind_some h
    obtain ⟨a5, h5, h⟩ := bind_some h
    obtain ⟨a6, h6, h⟩ := bind_some h
    obtain ⟨a7, h7, h⟩ := bind_some h
    obtain ⟨a8, h8, h⟩ := bind_some h
    exact told_ok (n := 120) (t := t_tlb_of a0 a1 a2 a3 a4 a5 a6 a7 a8) (sh := [.g [.i .i64, .b, .i .i64, .i .i64]]) E_guess_Wrong_ok hmix Tryz.func168 (xs0 := [.g [.x false (.bool a0), .x false (.bool a1), .x false (.int .i64 a2), .x false (.int .i64 a3), .x false (.int .i64 a4), .x false (.int .i64 a5), .x false (.int .i64 a6), .x false (.int .i64 a7), .x false (.int .i64 a8)]]) (by simp only [List.map_cons, List.map_nil, Dv.val, flat, (cB_ok h0).1, (cB_ok h1).1, (cI_ok h2).1, (cI_ok h3).1, (cI_ok h4).1, (cI_ok h5).1, (cI_ok h6).1, (cI_ok h7).1, (cI_ok h8).1]) rfl (is_tlb_of a0 a1 a2 a3 a4 a5 a6 a7 a8) (fun xs => by kernel_rfl) h hn
  · cases h)
noncomputable def FnSE : Env := E_tlb_of
theorem FnSE_ok : EnvOk Tryz.prog FnSE := E_tlb_of_ok
end Go.Proofs.YtfehilinnalflaaGreat
namespace Go.Proofs.YtfehilinnalflaaGreat
open Go.RowKit Go.BigFrame
set_option linter.unusedSimpArgs false
set_option linter.unusedVariables false
set_option maxRecDepth 100000
theorem turnM_ok {P : Program} {E : Env} (hE : EnvOk P E) (hm : P.follows .mixedOrders = true) {f : FuncId} {fn : Func} (hf : P.funcs[f]? = some fn) {n : Nat} {js : List Nat} {H H1 : Hp} (S : Sub js H H1) (hrw : H1.rw = true) (hro : H1.ro = js.length) (hw : H.rw = true) {T : HS} (hT : H.m = some T)
    {avs args : List AV} (hA : ASubs js avs args) {sh : List DK} {t : Tr} (ht : t = evFX P E n fn args H1) (his : t.is sh = true) (hM : t.setM T = t) {m : Bool} {av : AV} (h : told t sh = some (m, av)) (hn : m = true) (hL : t.LL = t.RR := by kernel_rfl) :
    TurnOk P f avs H av ⟨H.bs, some (t.theM T), H.rw, H.ro⟩ := by
  intro X w0 σ w vals FR M
  obtain ⟨F, f1, f2, f3⟩ := M.mach T hT
  obtain ⟨σ1, hσ, hl, back, hb, hi⟩ := S.blocks M
  have M1 : MRel F ⟨w, σ1, true, []⟩ σ1 H1 w := by
    refine ⟨Fr.refl _ _, fun k b h hr => ?_, fun k b h => h, by rw [S.len]; exact hl, hb, hi, ?_, fun _ => rfl, fun k T h => (by cases h)⟩
    · have := (List.getElem?_eq_some_iff.1 h).1
      omega
    · intro T' hT'
      have hT2 := S.m T' hT'
      rw [hT] at hT2; cases hT2
      refine ⟨F, f1, fun _ b hb => .inl hb, fun k b hk => ?_⟩
      obtain ⟨j, _, h4⟩ := back k b hk
      exact f3 j b h4
  have hok : t.needB = true := by rw [← (resVal_told h σ).2]; exact hn
  have hnf : H1.nf = 0 := by
    unfold Hp.nf
    split
    · rename_i e; rw [S.len]; omega
    · rfl
  refine (evFX_ok hE hm hf (ht ▸ holds_norm t (LR_of hL) (holds_and _ (outs_alln hok his) (theM_norm hok hM))) (hA.rel hσ FR) M1).mono ?_
  rintro e w' ⟨vs, m', σ', H', ⟨h1, h1m⟩, rfl, M', hm'⟩
  rw [hnf] at h1
  have h2 : resVal vs = resVal (outs t 0 sh) := resVal_map (by rw [ht]; simpa using h1)
  refine ⟨_, rfl, by rw [h2]; exact (resVal_told h σ).1, ?_⟩
  obtain ⟨F', g1, g2, g3⟩ := M'.mach _ (hm'.trans h1m)
  rw [ht]
  refine M.eff hw hT f2 f3 ⟨F', ht ▸ g1, fun c hc => g2 rfl c hc, M'.fr⟩
theorem FRel.cons {σ : List Nat} {a : AV} {l : List AV} {v : Value} {vs : List Value} (h1 : VRel σ a v) (h : FRel σ l vs.toArray) : FRel σ (a :: l) (v :: vs).toArray := by
  have hs : l.length = vs.length := by simpa using h.size
  refine ⟨by simp [hs], fun i av hi => ?_⟩
  cases i with
  | zero => cases hi; exact ⟨v, by simp, h1⟩
  | succ i =>
    obtain ⟨u, h3, h4⟩ := h.at_ i av hi
    exact ⟨u, by simpa using h3, h4⟩
def cPo : Ch → Option (Option Addr)
  | .x _ (.pointer a) => some a
  | _ => none
theorem cPo_ok {c : Ch} {a : Option Addr} (h : cPo c = some a) : c.cells = (Ch.x false (.pointer a)).cells ∧ c.one = (Ch.x false (.pointer a)).one := by
  unfold cPo at h
  split at h
  · cases h; exact ⟨rfl, rfl⟩
  · cases h
def cL : Ch → Option (Option Addr × Nat × Nat)
  | .x _ (.slice a n c) => some (a, n, c)
  | _ => none
theorem cL_ok {c : Ch} {a : Option Addr × Nat × Nat} (h : cL c = some a) : c.cells = (Ch.x false (.slice a.1 a.2.1 a.2.2)).cells ∧ c.one = (Ch.x false (.slice a.1 a.2.1 a.2.2)).one := by
  unfold cL at h
  split at h
  · cases h; exact ⟨rfl, rfl⟩
  · cases h
def entCh (e : EntV) : List Ch := [.x false (.bool e.ok), .x false (.bool e.v), .x false (.int .i64 e.page), .x false (.int .i64 e.asid), .x false (.int .i64 e.vmid), .x false (.int .i64 e.frame), .x false (.int .i64 e.bits), .x false (.int .i64 e.host), .x false (.int .i64 e.guest)]
def tlbCh (l : Nat → EntV) : List Ch := (List.range 16).flatMap fun i => entCh (l i)
theorem flat_flatMap (f : Nat → List Ch) : ∀ (is : List Nat), flat (is.flatMap f) = is.flatMap fun i => flat (f i)
  | [] => rfl
  | i :: is => by rw [List.flatMap_cons, List.flatMap_cons, flat_app, flat_flatMap f is]
theorem flat_tlbCh (l : Nat → EntV) : flat (tlbCh l) = tlbL l := flat_flatMap _ _
def unEnt (cs : List Ch) : EntV := ⟨(cs.getD 0 zeroI).B, (cs.getD 1 zeroI).B, (cs.getD 2 zeroI).I, (cs.getD 3 zeroI).I, (cs.getD 4 zeroI).I, (cs.getD 5 zeroI).I, (cs.getD 6 zeroI).I, (cs.getD 7 zeroI).I, (cs.getD 8 zeroI).I⟩
def entK : List CK := [.b, .b, .i .i64, .i .i64, .i .i64, .i .i64, .i .i64, .i .i64, .i .i64]
def tlbK : List CK := (List.range 16).flatMap fun _ => entK
def unTlb (cs : List Ch) (i : Nat) : EntV := unEnt (cs.drop (9 * i))
theorem is_b {c : Ch} (h : c.is .b = true) : c.cells = (Ch.x false (.bool c.B)).cells := by
  cases c with
  | x st v => cases v <;> first | (cases h; done) | rfl
  | _ => cases h
theorem is_i {c : Ch} (h : c.is (.i .i64) = true) : c.cells = (Ch.x false (.int .i64 c.I)).cells := by
  cases c with
  | x st v =>
    cases v <;> first | (cases h; done) | skip
    rename_i k n
    have e : k = .i64 := by simpa [Ch.is] using h
    subst e; rfl
  | _ => cases h
theorem unEnt_ok {cs : List Ch} (h : isAll (cs.take 9) entK = true) : flat (entCh (unEnt cs)) = flat (cs.take 9) := by
  match cs, h with
  | c0 :: c1 :: c2 :: c3 :: c4 :: c5 :: c6 :: c7 :: c8 :: r, h =>
    have h' : isAll [c0, c1, c2, c3, c4, c5, c6, c7, c8] entK = true := h
    simp only [isAll, entK, Bool.and_eq_true] at h'
    obtain ⟨h0, h1, h2, h3, h4, h5, h6, h7, h8, _⟩ := h'
    show _ = flat [c0, c1, c2, c3, c4, c5, c6, c7, c8]
    simp only [flat, is_b h0, is_b h1, is_i h2, is_i h3, is_i h4, is_i h5, is_i h6, is_i h7, is_i h8]
    rfl
  | [], h => cases h
  | [_], h => simp [isAll, entK] at h
  | [_, _], h => simp [isAll, entK] at h
  | [_, _, _], h => simp [isAll, entK] at h
  | [_, _, _, _], h => simp [isAll, entK] at h
  | [_, _, _, _, _], h => simp [isAll, entK] at h
  | [_, _, _, _, _, _], h => simp [isAll, entK] at h
  | [_, _, _, _, _, _, _], h => simp [isAll, entK] at h
  | [_, _, _, _, _, _, _, _], h => simp [isAll, entK] at h
theorem isAll_app : ∀ {cs : List Ch} {k k' : List CK}, isAll cs (k ++ k') = true → isAll (cs.take k.length) k = true ∧ isAll (cs.drop k.length) k' = true
  | cs, [], k', h => ⟨rfl, h⟩
  | [], _ :: _, k', h => by cases h
  | c :: cs, k :: ks, k', h => by
    have h' : c.is k = true ∧ isAll cs (ks ++ k') = true := by simpa [isAll] using h
    obtain ⟨h1, h2⟩ := isAll_app h'.2
    exact ⟨by show (c.is k && isAll (cs.take ks.length) ks) = true; rw [h'.1, h1]; rfl, h2⟩
theorem unTlb_go : ∀ (m j : Nat) (cs : List Ch), isAll (cs.drop (9 * j)) ((List.range' j m).flatMap fun _ => entK) = true → flat ((List.range' j m).flatMap fun i => entCh (unTlb cs i)) = flat (cs.drop (9 * j))
  | 0, j, cs, h => by
    cases hc : cs.drop (9 * j) with
    | nil => rfl
    | cons c r => rw [hc] at h; cases h
  | m + 1, j, cs, h => by
    rw [List.range'_succ, List.flatMap_cons] at h ⊢
    obtain ⟨h1, h2⟩ := isAll_app h
    have h1' : isAll ((cs.drop (9 * j)).take 9) entK = true := h1
    have h2' : isAll ((cs.drop (9 * j)).drop 9) ((List.range' (j + 1) m).flatMap fun _ => entK) = true := h2
    rw [List.drop_drop, show 9 * j + 9 = 9 * (j + 1) by omega] at h2'
    rw [flat_app, unTlb_go m (j + 1) cs h2']
    have := unEnt_ok h1'
    show flat (entCh (unEnt (cs.drop (9 * j)))) ++ _ = _
    rw [this, show 9 * (j + 1) = 9 * j + 9 by omega, ← List.drop_drop, ← flat_app, List.take_append_drop]
theorem unTlb_ok {cs : List Ch} (h : isAll cs tlbK = true) : flat (tlbCh (unTlb cs)) = flat cs := by
  have := unTlb_go 16 0 cs (by simpa [tlbK, List.range_eq_range'] using h)
  simpa [tlbCh, List.range_eq_range'] using this
theorem is_selC (t : Tr) (i j : Nat) (k : CK) (hk : k = .b ∨ k = .i .i64) : (selC t i j k).is k = true := by
  rcases hk with rfl | rfl <;> rfl
theorem is_selG (t : Tr) (i : Nat) : ∀ (ks : List CK) (j : Nat), (∀ k ∈ ks, k = .b ∨ k = .i .i64) → isAll (selG t i j ks) ks = true
  | [], j, _ => rfl
  | k :: ks, j, h => by
    show ((selC t i j k).is k && isAll (selG t i (j + 1) ks) ks) = true
    rw [is_selC t i j k (h k (by simp)), is_selG t i ks (j + 1) (fun k hk => h k (by simp [hk]))]; rfl
theorem tlbK_is : ∀ k ∈ tlbK, k = .b ∨ k = .i .i64 := by
  intro k hk
  unfold tlbK at hk
  rw [List.mem_flatMap] at hk
  obtain ⟨_, _, hk⟩ := hk
  simp only [entK, List.mem_cons, List.not_mem_nil, or_false] at hk
  rcases hk with h | h | h | h | h | h | h | h | h <;> simp [h]
theorem tlb_box {w : World} {b : Nat} {cs : List Ch} {ro : Nat} (h : w.heap[b]? = some (.cells (flat cs).toArray 122 (0, 0))) (X : Nat → Prop) (hX : ro = 0 → X b) (ts : List TypeId) (ht : ts = [] ∨ ts = [122]) : MRel X ⟨w, [b], false, ts⟩ [b] ⟨[⟨122, cs⟩], none, false, ro⟩ w := by
  refine ⟨Fr.refl _ _, fun k c h hr => ?_, fun k b h => h, rfl, fun j b' bk' h1 h2 => ?_, fun i j b' h1 h2 => ?_, fun S hS => (by cases hS), fun h => (by cases h), fun k T hT => ?_⟩
  · cases k with
    | zero => cases h; exact .inl (hX (by have : ro ≤ 0 := hr; omega))
    | succ k => cases h
  · cases j with
    | zero => cases h1; cases h2; exact h
    | succ j => cases h1
  · cases i with
    | zero => cases j with
      | zero => rfl
      | succ j => cases h2
    | succ i => cases h1
  · rcases ht with rfl | rfl
    · cases hT
    · cases k with
      | zero => cases hT; exact ⟨_, rfl, rfl⟩
      | succ k => cases hT
theorem ASubs.data : ∀ {xs bs : List AV}, ASubs [] xs bs → (∀ a ∈ xs, ∃ d, a = .d d) → ∀ {σ σ1 : List Nat} {vals : List Value}, FRel σ xs vals.toArray → FRel σ1 bs vals.toArray
  | [], [], _, _, σ, σ1, vals, F => by obtain rfl := F.nil_; exact ⟨rfl, fun i av h => by cases h⟩
  | [], _ :: _, h, _, _, _, _, _ => h.elim
  | _ :: _, [], h, _, _, _, _, _ => h.elim
  | a :: xs, b :: bs, ⟨h1, h2⟩, hd, σ, σ1, vals, F => by
    obtain ⟨v, vs, rfl, e, F⟩ := F.uncons
    refine FRel.cons ?_ (ASubs.data h2 (fun a ha => hd a (by simp [ha])) F)
    obtain ⟨d, rfl⟩ := hd a (by simp)
    cases b with
    | d d' =>
      have h1' : d.val = d'.val := h1
      have e' : v = d.val := e
      show v = d'.val
      rw [e', h1']
    | _ => exact h1.elim
theorem tlb_read {P : Program} {E : Env} (hE : EnvOk P E) (hm : P.follows .mixedOrders = true) {f : FuncId} {fn : Func} (hf : P.funcs[f]? = some fn) {n : Nat} {S : HS} {H : Hp} (hS : H.m = some S) {c : Ch} {b : Nat} (hc : cP c = some b) (hb : b = S.t) {avs args : List AV} (hA : ASubs [] avs args) (hd : ∀ a ∈ avs, ∃ d, a = .d d)
    {sh : List DK} {t : Tr} (ht : t = evFX P E n fn (.p 0 0 :: args) ⟨[⟨122, tlbCh S.tl⟩], none, false, 1⟩) (hs : t.is sh = true) {m : Bool} {av : AV} (h : told t sh = some (m, av)) (hn : m = true) (hL : t.LL = t.RR := by kernel_rfl) : ReadOk P f (.d (.s c) :: avs) H av := by
  intro X w0 σ w vals F M
  obtain ⟨v, vs, rfl, e, F⟩ := F.uncons
  have e' : v = .pointer (some ⟨S.t, 0, none⟩) := by have e2 : v = c.one := e; rw [e2, (cP_ok hc).2, hb]; rfl
  refine ⟨resVal (outs t 0 sh), (resVal_told h σ).1, fun w1 hbl => ?_⟩
  obtain ⟨F1, hM⟩ := M.mach_at hS hbl
  have M1 := tlb_box (cs := tlbCh S.tl) (ro := 1) (by rw [flat_tlbCh]; exact hM.tlb) (fun _ => False) (fun h => by cases h) [] (.inl rfl)
  have hneed : t.needB = true := by rw [← (resVal_told h σ).2]; exact hn
  refine (evFX_ok hE hm hf (ht ▸ outs_norm hneed hs (LR_of hL)) (FRel.cons (σ := [S.t]) (a := .p 0 0) ⟨S.t, rfl, e'⟩ (hA.data hd F)) M1).mono ?_
  rintro e w' ⟨vs, m', σ', H', h1, rfl, M', _⟩
  refine ⟨?_, M'.fr.below⟩
  have h1' : resVal vs = resVal (outs t 0 sh) := by rw [ht]; simpa [Hp.nf] using h1
  rw [h1']
theorem tlb_turn {P : Program} {E : Env} (hE : EnvOk P E) (hm : P.follows .mixedOrders = true) {f : FuncId} {fn : Func} (hf : P.funcs[f]? = some fn) {n : Nat} {S : HS} {H : Hp} (hS : H.m = some S) (hw : H.rw = true) {c : Ch} {b : Nat} (hc : cP c = some b) (hb : b = S.t) {avs args : List AV} (hA : ASubs [] avs args) (hd : ∀ a ∈ avs, ∃ d, a = .d d)
    {sh : List DK} {t : Tr} (ht : t = evFX P E n fn (.p 0 0 :: args) ⟨[⟨122, tlbCh S.tl⟩], none, false, 0⟩) (hs : t.is (sh ++ [.g tlbK]) = true) {m : Bool} {av : AV} (h : told t sh = some (m, av)) (hn : m = true) (hL : t.LL = t.RR := by kernel_rfl) :
    TurnOk P f (.d (.s c) :: avs) H av ⟨H.bs, some { bus := S.bus, tl := unTlb (selG t sh.length 0 tlbK), b := S.b, p := S.p, t := S.t }, H.rw, H.ro⟩ := by
  intro X w0 σ w vals F M
  obtain ⟨v, vs, rfl, e, F⟩ := F.uncons
  have e' : v = .pointer (some ⟨S.t, 0, none⟩) := by have e2 : v = c.one := e; rw [e2, (cP_ok hc).2, hb]; rfl
  obtain ⟨F1, hM, f2, f3⟩ := M.mach S hS
  have M1 := tlb_box (cs := tlbCh S.tl) (ro := 0) (by rw [flat_tlbCh]; exact hM.tlb) (fun b => b = S.t) (fun _ => rfl) [122] (.inr rfl)
  have hneed : t.needB = true := by rw [← (resVal_told h σ).2]; exact hn
  refine (evFX_ok hE hm hf (ht ▸ holds_norm t (LR_of hL) (outs_alln hneed hs)) (FRel.cons (σ := [S.t]) (a := .p 0 0) ⟨S.t, rfl, e'⟩ (hA.data hd F)) M1).mono ?_
  rintro e w' ⟨vs, m', σ', H', h1, rfl, M', _⟩
  have hnf : (Hp.nf ⟨[⟨122, tlbCh S.tl⟩], none, false, 0⟩) = 1 := rfl
  rw [hnf] at h1
  obtain ⟨bk, hb0, hbT⟩ := M'.ty 0 122 rfl
  have ht1 : H'.bs.take 1 = [bk] := by
    cases hH : H'.bs with
    | nil => rw [hH] at hb0; cases hb0
    | cons x r => rw [hH] at hb0; cases hb0; rfl
  rw [ht1] at h1
  obtain ⟨h2, h3⟩ := split_vals (sh := sh) (l := [(122, tlbK)]) (vs := vs) (bs := [.g bk.cs]) (t := t) rfl (by rw [ht]; exact h1)
  have h4 := h3 0 (.g bk.cs) (122, tlbK) rfl rfl
  have h5 : flat bk.cs = tlbL (unTlb (selG t sh.length 0 tlbK)) := by
    rw [← flat_tlbCh, unTlb_ok (is_selG t _ tlbK 0 tlbK_is)]
    exact agg_flat h4.symm |>.symm
  refine ⟨_, rfl, by rw [h2]; exact (resVal_told h σ).1, ?_⟩
  have hS0 : σ'[0]? = some S.t := M'.pre 0 S.t rfl
  have hblk := M'.blk 0 S.t bk hS0 hb0
  obtain ⟨g, ks, vs', i1, i2, i3, i4, i5, i6, i7, i8, i9⟩ := hM.bus
  have same : ∀ b, F1 b → b ≠ S.t → w'.heap[b]? = w.heap[b]? := fun b hb hne => M'.fr.block b (hM.fl b hb) hne
  refine M.eff hw hS f2 f3 ⟨F1, ⟨⟨g, ks, vs', i1.keep (same _ i2 (Ne.symm i6)) (same _ i3 (Ne.symm i7)) (same _ i4 (Ne.symm i8)) (fun i k hi e => same _ (i5 i k hi e) (fun e2 => i9 i hi (e2 ▸ e))), i2, i3, i4, i5, i6, i7, i8, i9⟩, ?_, hM.ft, fun b hb => Nat.lt_of_lt_of_le (hM.fl b hb) M'.fr.size⟩, fun c hc => .inl hc, M'.fr.mono fun b e => e ▸ hM.ft⟩
  rw [hblk, h5, hbT]; rfl
end Go.Proofs.YtfehilinnalflaaGreat
namespace Go.Proofs.YtfehilinnalflaaGreat
open Go.RowKit Go.BigFrame
set_option linter.unusedSimpArgs false
set_option linter.unusedVariables false
set_option maxRecDepth 100000
def keyV (e : EntV) (a0 : Int) (a1 : Bool) (a2 a3 : Int) : Bool := (e.page == a0) && ((e.v == a1) && ((e.asid == a2) && ((e.vmid == a3) && true)))
def hitV (e : EntV) (a0 : Int) (a1 : Bool) (a2 a3 : Int) : Bool := e.ok && keyV e a0 a1 a2 a3
def findGo (l : Nat → EntV) (a0 : Int) (a1 : Bool) (a2 a3 : Int) : Nat → Nat → Int
  | 0, _ => -1
  | n + 1, i => if hitV (l i) a0 a1 a2 a3 = true then (i : Int) else findGo l a0 a1 a2 a3 n (i + 1)
def findV (l : Nat → EntV) (a0 : Int) (a1 : Bool) (a2 a3 : Int) : Int := findGo l a0 a1 a2 a3 16 0
theorem tlbL_len (l : Nat → EntV) : (tlbL l).length = 144 := by
  unfold tlbL
  rw [List.length_flatMap, show (fun a => (entL (l a)).length) = fun _ => 9 from funext fun _ => rfl]
  decide
theorem infoTlb : (Tryz.prog.info? 120).map (·.size) = some 144 := by kernel_rfl
theorem ent_ix0 (l : Nat → EntV) (w : World) : (Instr.index 120 (.agg (tlbA l)) (.int .i64 0)).run Tryz.prog w = .ok (.agg #[.bool (l 0).ok, .bool (l 0).v, .int .i64 (l 0).page, .int .i64 (l 0).asid, .int .i64 (l 0).vmid, .int .i64 (l 0).frame, .int .i64 (l 0).bits, .int .i64 (l 0).host, .int .i64 (l 0).guest]) w := by kernel_rfl
theorem ent_ix1 (l : Nat → EntV) (w : World) : (Instr.index 120 (.agg (tlbA l)) (.int .i64 1)).run Tryz.prog w = .ok (.agg #[.bool (l 1).ok, .bool (l 1).v, .int .i64 (l 1).page, .int .i64 (l 1).asid, .int .i64 (l 1).vmid, .int .i64 (l 1).frame, .int .i64 (l 1).bits, .int .i64 (l 1).host, .int .i64 (l 1).guest]) w := by kernel_rfl
theorem ent_ix2 (l : Nat → EntV) (w : World) : (Instr.index 120 (.agg (tlbA l)) (.int .i64 2)).run Tryz.prog w = .ok (.agg #[.bool (l 2).ok, .bool (l 2).v, .int .i64 (l 2).page, .int .i64 (l 2).asid, .int .i64 (l 2).vmid, .int .i64 (l 2).frame, .int .i64 (l 2).bits, .int .i64 (l 2).host, .int .i64 (l 2).guest]) w := by kernel_rfl
theorem ent_ix3 (l : Nat → EntV) (w : World) : (Instr.index 120 (.agg (tlbA l)) (.int .i64 3)).run Tryz.prog w = .ok (.agg #[.bool (l 3).ok, .bool (l 3).v, .int .i64 (l 3).page, .int .i64 (l 3).asid, .int .i64 (l 3).vmid, .int .i64 (l 3).frame, .int .i64 (l 3).bits, .int .i64 (l 3).host, .int .i64 (l 3).guest]) w := by kernel_rfl
theorem ent_ix4 (l : Nat → EntV) (w : World) : (Instr.index 120 (.agg (tlbA l)) (.int .i64 4)).run Tryz.prog w = .ok (.agg #[.bool (l 4).ok, .bool (l 4).v, .int .i64 (l 4).page, .int .i64 (l 4).asid, .int .i64 (l 4).vmid, .int .i64 (l 4).frame, .int .i64 (l 4).bits, .int .i64 (l 4).host, .int .i64 (l 4).guest]) w := by kernel_rfl
theorem ent_ix5 (l : Nat → EntV) (w : World) : (Instr.index 120 (.agg (tlbA l)) (.int .i64 5)).run Tryz.prog w = .ok (.agg #[.bool (l 5).ok, .bool (l 5).v, .int .i64 (l 5).page, .int .i64 (l 5).asid, .int .i64 (l 5).vmid, .int .i64 (l 5).frame, .int .i64 (l 5).bits, .int .i64 (l 5).host, .int .i64 (l 5).guest]) w := by kernel_rfl
theorem ent_ix6 (l : Nat → EntV) (w : World) : (Instr.index 120 (.agg (tlbA l)) (.int .i64 6)).run Tryz.prog w = .ok (.agg #[.bool (l 6).ok, .bool (l 6).v, .int .i64 (l 6).page, .int .i64 (l 6).asid, .int .i64 (l 6).vmid, .int .i64 (l 6).frame, .int .i64 (l 6).bits, .int .i64 (l 6).host, .int .i64 (l 6).guest]) w := by kernel_rfl
theorem ent_ix7 (l : Nat → EntV) (w : World) : (Instr.index 120 (.agg (tlbA l)) (.int .i64 7)).run Tryz.prog w = .ok (.agg #[.bool (l 7).ok, .bool (l 7).v, .int .i64 (l 7).page, .int .i64 (l 7).asid, .int .i64 (l 7).vmid, .int .i64 (l 7).frame, .int .i64 (l 7).bits, .int .i64 (l 7).host, .int .i64 (l 7).guest]) w := by kernel_rfl
theorem ent_ix8 (l : Nat → EntV) (w : World) : (Instr.index 120 (.agg (tlbA l)) (.int .i64 8)).run Tryz.prog w = .ok (.agg #[.bool (l 8).ok, .bool (l 8).v, .int .i64 (l 8).page, .int .i64 (l 8).asid, .int .i64 (l 8).vmid, .int .i64 (l 8).frame, .int .i64 (l 8).bits, .int .i64 (l 8).host, .int .i64 (l 8).guest]) w := by kernel_rfl
theorem ent_ix9 (l : Nat → EntV) (w : World) : (Instr.index 120 (.agg (tlbA l)) (.int .i64 9)).run Tryz.prog w = .ok (.agg #[.bool (l 9).ok, .bool (l 9).v, .int .i64 (l 9).page, .int .i64 (l 9).asid, .int .i64 (l 9).vmid, .int .i64 (l 9).frame, .int .i64 (l 9).bits, .int .i64 (l 9).host, .int .i64 (l 9).guest]) w := by kernel_rfl
theorem ent_ix10 (l : Nat → EntV) (w : World) : (Instr.index 120 (.agg (tlbA l)) (.int .i64 10)).run Tryz.prog w = .ok (.agg #[.bool (l 10).ok, .bool (l 10).v, .int .i64 (l 10).page, .int .i64 (l 10).asid, .int .i64 (l 10).vmid, .int .i64 (l 10).frame, .int .i64 (l 10).bits, .int .i64 (l 10).host, .int .i64 (l 10).guest]) w := by kernel_rfl
theorem ent_ix11 (l : Nat → EntV) (w : World) : (Instr.index 120 (.agg (tlbA l)) (.int .i64 11)).run Tryz.prog w = .ok (.agg #[.bool (l 11).ok, .bool (l 11).v, .int .i64 (l 11).page, .int .i64 (l 11).asid, .int .i64 (l 11).vmid, .int .i64 (l 11).frame, .int .i64 (l 11).bits, .int .i64 (l 11).host, .int .i64 (l 11).guest]) w := by kernel_rfl
theorem ent_ix12 (l : Nat → EntV) (w : World) : (Instr.index 120 (.agg (tlbA l)) (.int .i64 12)).run Tryz.prog w = .ok (.agg #[.bool (l 12).ok, .bool (l 12).v, .int .i64 (l 12).page, .int .i64 (l 12).asid, .int .i64 (l 12).vmid, .int .i64 (l 12).frame, .int .i64 (l 12).bits, .int .i64 (l 12).host, .int .i64 (l 12).guest]) w := by kernel_rfl
theorem ent_ix13 (l : Nat → EntV) (w : World) : (Instr.index 120 (.agg (tlbA l)) (.int .i64 13)).run Tryz.prog w = .ok (.agg #[.bool (l 13).ok, .bool (l 13).v, .int .i64 (l 13).page, .int .i64 (l 13).asid, .int .i64 (l 13).vmid, .int .i64 (l 13).frame, .int .i64 (l 13).bits, .int .i64 (l 13).host, .int .i64 (l 13).guest]) w := by kernel_rfl
theorem ent_ix14 (l : Nat → EntV) (w : World) : (Instr.index 120 (.agg (tlbA l)) (.int .i64 14)).run Tryz.prog w = .ok (.agg #[.bool (l 14).ok, .bool (l 14).v, .int .i64 (l 14).page, .int .i64 (l 14).asid, .int .i64 (l 14).vmid, .int .i64 (l 14).frame, .int .i64 (l 14).bits, .int .i64 (l 14).host, .int .i64 (l 14).guest]) w := by kernel_rfl
theorem ent_ix15 (l : Nat → EntV) (w : World) : (Instr.index 120 (.agg (tlbA l)) (.int .i64 15)).run Tryz.prog w = .ok (.agg #[.bool (l 15).ok, .bool (l 15).v, .int .i64 (l 15).page, .int .i64 (l 15).asid, .int .i64 (l 15).vmid, .int .i64 (l 15).frame, .int .i64 (l 15).bits, .int .i64 (l 15).host, .int .i64 (l 15).guest]) w := by kernel_rfl
theorem ent_ix (l : Nat → EntV) (i : Nat) (hi : i < 16) (w : World) : (Instr.index 120 (.agg (tlbA l)) (.int .i64 (i : Int))).run Tryz.prog w = .ok (.agg #[.bool (l i).ok, .bool (l i).v, .int .i64 (l i).page, .int .i64 (l i).asid, .int .i64 (l i).vmid, .int .i64 (l i).frame, .int .i64 (l i).bits, .int .i64 (l i).host, .int .i64 (l i).guest]) w := by
  match i, hi with
  | 0, _ => exact ent_ix0 l w
  | 1, _ => exact ent_ix1 l w
  | 2, _ => exact ent_ix2 l w
  | 3, _ => exact ent_ix3 l w
  | 4, _ => exact ent_ix4 l w
  | 5, _ => exact ent_ix5 l w
  | 6, _ => exact ent_ix6 l w
  | 7, _ => exact ent_ix7 l w
  | 8, _ => exact ent_ix8 l w
  | 9, _ => exact ent_ix9 l w
  | 10, _ => exact ent_ix10 l w
  | 11, _ => exact ent_ix11 l w
  | 12, _ => exact ent_ix12 l w
  | 13, _ => exact ent_ix13 l w
  | 14, _ => exact ent_ix14 l w
  | 15, _ => exact ent_ix15 l w
  | n + 16, h => exact absurd h (by omega)
theorem step_tlb {ops : Array Oper} {rest : List Oper} {o : Oper} {a : Act} {w : World} {Q : Exit → Act → World → Prop} {g : Nat} {T : TypeId} {A : Array Value} {x : Operand} (hg : w.heap[g]? = some (.cells A T (0, 0))) (hs : A.size = 144)
    (ho : o.op = .load 120 x) (hx : a.eval x = .pointer (some ⟨g, 0, none⟩)) (hw : Region.wanted o (yielded ops a.tmps) = true)
    (h : wpList Tryz.prog ops Q rest (a.put o.dst (.agg A)) w) : wpList Tryz.prog ops Q (o :: rest) a w :=
  wpList_step fun K hK => by
    simp only [hw, if_true]
    exact wp_load_row 120 x ho g hx _ _ _ _ hg Tryz.underlying120 rfl (by rw [hs]; exact infoTlb) (hK _ _ h)
theorem quiet_key {C : World → Prop} {o : Oper} {a : Act} {K : Act → Prop} {X Y : Operand} {Ty : TypeId} {e : EntV} {a0 : Int} {a1 : Bool} {a2 a3 : Int} (hx : a.eval X = .agg #[.int .i64 e.page, .bool e.v, .int .i64 e.asid, .int .i64 e.vmid])
    (hy : a.eval Y = .agg #[.int .i64 a0, .bool a1, .int .i64 a2, .int .i64 a3]) (ho : o.op = .binOp .eql 267 X Y Ty) (hk : K (a.put o.dst (.bool (keyV e a0 a1 a2 a3)))) : o.quiet Tryz.prog a C K :=
  ⟨.bool (keyV e a0 a1 a2 a3), fun w' hw' => by
    have key := run_evEqOp (P := Tryz.prog) (op := .eql) (t := 267) (X := X) (Y := Y) (xs := [.x false (.int .i64 e.page), .x false (.bool e.v), .x false (.int .i64 e.asid), .x false (.int .i64 e.vmid)]) (ys := [.x false (.int .i64 a0), .x false (.bool a1), .x false (.int .i64 a2), .x false (.int .i64 a3)])
      (d := .s (.x false (.bool (keyV e a0 a1 a2 a3)))) (by kernel_rfl) w'
    have key' := run_val key
    unfold Oper.quietAt execOp
    rw [ho]
    simp only [hx, hy]
    have e1 : (Dv.g [.x false (.int .i64 e.page), .x false (.bool e.v), .x false (.int .i64 e.asid), .x false (.int .i64 e.vmid)]).val = .agg #[.int .i64 e.page, .bool e.v, .int .i64 e.asid, .int .i64 e.vmid] := rfl
    have e2 : (Dv.g [.x false (.int .i64 a0), .x false (.bool a1), .x false (.int .i64 a2), .x false (.int .i64 a3)]).val = .agg #[.int .i64 a0, .bool a1, .int .i64 a2, .int .i64 a3] := rfl
    rw [e1, e2] at key'
    rw [key']
    exact ⟨rfl, rfl⟩, hk⟩
def OfOk : Prop := ∀ e : EntV, Gives Tryz.prog 168 #[.agg #[.bool e.ok, .bool e.v, .int .i64 e.page, .int .i64 e.asid, .int .i64 e.vmid, .int .i64 e.frame, .int .i64 e.bits, .int .i64 e.host, .int .i64 e.guest]] (.agg #[.int .i64 e.page, .bool e.v, .int .i64 e.asid, .int .i64 e.vmid])
theorem find_b (hO : OfOk) (b : Nat) (l : Nat → EntV) (a0 : Int) (a1 : Bool) (a2 a3 : Int) (w : World) (h : w.heap[b]? = some (.cells (tlbA l) 122 (0, 0))) :
    Calls Tryz.prog 160 #[.pointer (some ⟨b, 0, none⟩), .agg #[.int .i64 a0, .bool a1, .int .i64 a2, .int .i64 a3]] w fun e w' => e = .returned (.int .i64 (findV l a0 a1 a2 a3)) ∧ Below w.heap.size w w' := by
  have hbl := blk_lt h
  have HX := Lib.hid (ent_ix l)
  have hs := show (tlbA l).size = 144 by simp [tlbA, tlbL_len]
  generalize tlbA l = A at h HX hs
  have HH := Lib.hid h
  have HZ := Lib.hid hs
  clear h hs
  go_enter Tryz.func160, Tryz.ntmps160
  go_wp2_with (first | (with_reducible refine step_tlb (((MapKept.heap_alloc w _).2 b hbl).trans HH.out) HZ.out (by with_unfolding_all rfl) (by with_unfolding_all rfl) (by with_unfolding_all rfl) ?_))
  obtain ⟨k, hk⟩ : ∃ k, k = w.heap.size := ⟨_, rfl⟩
  obtain ⟨W, hW⟩ : ∃ W, W = w.alloc (.cells #[.int .i64 a0, .bool a1, .int .i64 a2, .int .i64 a3] 267) := ⟨_, rfl⟩
  have hkb : W.heap[k]? = some (.cells #[.int .i64 a0, .bool a1, .int .i64 a2, .int .i64 a3] 267 (0, 0)) := by rw [hW, hk]; exact (MapKept.heap_alloc w _).1
  have hb : Below w.heap.size w W := by rw [hW]; exact (Below.refl _ _).alloc (Nat.le_refl _) _
  rw [← hW, ← hk]
  clear hW HH HZ hbl hk
  go_loopw [11] (fun i wr => ∃ m : Nat, m ≤ 16 ∧ i = .int .i64 m ∧ findV l a0 a1 a2 a3 = findGo l a0 a1 a2 a3 (16 - m) m ∧ wr.heap[k]? = some (.cells #[.int .i64 a0, .bool a1, .int .i64 a2, .int .i64 a3] 267 (0, 0)) ∧ Below w.heap.size w wr) (fun i _ => 16 - (intOf i).toNat)
  case atStart => exact ⟨0, by omega, rfl, rfl, hkb, hb⟩
  case round =>
    clear hb hkb
    obtain ⟨m, hm, rfl, hf, hkb, hb⟩ := hrel
    have HF := Lib.hid hf
    have HK := Lib.hid hkb
    have HB := Lib.hid hb
    have hkl := blk_lt hkb
    clear hf hkb hb
    by_cases hm16 : m < 16
    · have ix := HX.out m hm16
      obtain ⟨e, he⟩ : ∃ e, e = l m := ⟨_, rfl⟩
      rw [← he] at ix
      have HE := Lib.hid he
      have s0 := hO e
      clear hO he
      go_wp2_with fail
      obtain ⟨n1, hn1⟩ : ∃ n1, n1 = wr.heap.size := ⟨_, rfl⟩
      obtain ⟨W1, hW1⟩ : ∃ W1, W1 = wr.alloc (.cells #[.bool e.ok, .bool e.v, .int .i64 e.page, .int .i64 e.asid, .int .i64 e.vmid, .int .i64 e.frame, .int .i64 e.bits, .int .i64 e.host, .int .i64 e.guest] 119) := ⟨_, rfl⟩
      have hE1 : W1.heap[n1]? = some (.cells #[.bool e.ok, .bool e.v, .int .i64 e.page, .int .i64 e.asid, .int .i64 e.vmid, .int .i64 e.frame, .int .i64 e.bits, .int .i64 e.host, .int .i64 e.guest] 119 (0, 0)) := by rw [hW1, hn1]; exact (MapKept.heap_alloc wr _).1
      have hK1 : W1.heap[k]? = some (.cells #[.int .i64 a0, .bool a1, .int .i64 a2, .int .i64 a3] 267 (0, 0)) := by rw [hW1]; exact ((MapKept.heap_alloc wr _).2 k hkl).trans HK.out
      have B1 := Lib.hid (HBstep HB.out (show Below wr.heap.size wr W1 by rw [hW1]; exact (Below.refl _ _).alloc (Nat.le_refl _) _))
      rw [← hW1, ← hn1]
      have f0 : ∀ q : Beyond W1, q.to.cell? ⟨n1, 0, none⟩ = some (.bool e.ok) := fun q => by have := (q.ok.block n1 (blk_lt hE1)).trans hE1; simp [World.cell?, this]
      have f1 : ∀ q : Beyond W1, q.to.cell? ⟨n1, 1, none⟩ = some (.bool e.v) := fun q => by have := (q.ok.block n1 (blk_lt hE1)).trans hE1; simp [World.cell?, this]
      have f2 : ∀ q : Beyond W1, q.to.cell? ⟨n1, 2, none⟩ = some (.int .i64 e.page) := fun q => by have := (q.ok.block n1 (blk_lt hE1)).trans hE1; simp [World.cell?, this]
      have f3 : ∀ q : Beyond W1, q.to.cell? ⟨n1, 3, none⟩ = some (.int .i64 e.asid) := fun q => by have := (q.ok.block n1 (blk_lt hE1)).trans hE1; simp [World.cell?, this]
      have f4 : ∀ q : Beyond W1, q.to.cell? ⟨n1, 4, none⟩ = some (.int .i64 e.vmid) := fun q => by have := (q.ok.block n1 (blk_lt hE1)).trans hE1; simp [World.cell?, this]
      have f5 : ∀ q : Beyond W1, q.to.cell? ⟨n1, 5, none⟩ = some (.int .i64 e.frame) := fun q => by have := (q.ok.block n1 (blk_lt hE1)).trans hE1; simp [World.cell?, this]
      have f6 : ∀ q : Beyond W1, q.to.cell? ⟨n1, 6, none⟩ = some (.int .i64 e.bits) := fun q => by have := (q.ok.block n1 (blk_lt hE1)).trans hE1; simp [World.cell?, this]
      have f7 : ∀ q : Beyond W1, q.to.cell? ⟨n1, 7, none⟩ = some (.int .i64 e.host) := fun q => by have := (q.ok.block n1 (blk_lt hE1)).trans hE1; simp [World.cell?, this]
      have f8 : ∀ q : Beyond W1, q.to.cell? ⟨n1, 8, none⟩ = some (.int .i64 e.guest) := fun q => by have := (q.ok.block n1 (blk_lt hE1)).trans hE1; simp [World.cell?, this]
      have g0 : ∀ q : Beyond W1, q.to.cell? ⟨k, 0, none⟩ = some (.int .i64 a0) := fun q => by have := (q.ok.block k (blk_lt hK1)).trans hK1; simp [World.cell?, this]
      have g1 : ∀ q : Beyond W1, q.to.cell? ⟨k, 1, none⟩ = some (.bool a1) := fun q => by have := (q.ok.block k (blk_lt hK1)).trans hK1; simp [World.cell?, this]
      have g2 : ∀ q : Beyond W1, q.to.cell? ⟨k, 2, none⟩ = some (.int .i64 a2) := fun q => by have := (q.ok.block k (blk_lt hK1)).trans hK1; simp [World.cell?, this]
      have g3 : ∀ q : Beyond W1, q.to.cell? ⟨k, 3, none⟩ = some (.int .i64 a3) := fun q => by have := (q.ok.block k (blk_lt hK1)).trans hK1; simp [World.cell?, this]
      have HK1 := Lib.hid hK1
      clear hE1 hW1 hn1 hK1 HK HB
      have next : ∀ w4, Below W1.heap.size W1 w4 → hitV e a0 a1 a2 a3 = false → ∃ m_1 : Nat, m_1 ≤ 16 ∧ Value.int .i64 ((m : Int) + 1) = .int .i64 m_1 ∧ findV l a0 a1 a2 a3 = findGo l a0 a1 a2 a3 (16 - m_1) m_1 ∧ w4.heap[k]? = some (.cells #[.int .i64 a0, .bool a1, .int .i64 a2, .int .i64 a3] 267 (0, 0)) ∧ Below w.heap.size w w4 := by
        intro w4 hb4 hh
        refine ⟨m + 1, by omega, by simp, ?_, (hb4.block k (blk_lt HK1.out)).trans HK1.out, HBstep B1.out hb4⟩
        rw [HF.out, show 16 - m = (16 - (m + 1)) + 1 by omega]
        show (if hitV (l m) a0 a1 a2 a3 = true then _ else _) = _
        rw [← HE.out, if_neg (by rw [hh]; decide)]
      have NX := Lib.hid next
      clear next
      cases hok : e.ok
      · rw [hok] at f0
        refine wp_region_below (W := W1) (by kernel_rfl) (by kernel_rfl) (Below.refl _ _) ?_
        repeat (go_big_quiet_step (fail))
        refine wpQuiet_nil ?_
        intro w4 hb4
        have HB4 := Lib.hid hb4
        clear hb4 f0 f1 f2 f3 f4 f5 f6 f7 f8 g0 g1 g2 g3
        go_wp2_with fail
        exact ⟨NX.out w4 HB4.out (by unfold hitV; rw [hok]; rfl), by simp [intOf]; omega⟩
      · rw [hok] at f0 s0
        refine wp_region_below (W := W1) (by kernel_rfl) (by kernel_rfl) (Below.refl _ _) ?_
        repeat (first | (go_big_quiet_want; refine quiet_key rfl rfl rfl ?_; go_simp; go_big_quiet_on) | go_big_quiet_step ((go_at_call 168; with_reducible exact (s0.at_ _))))
        refine wpQuiet_nil ?_
        intro w4 hb4
        have HB4 := Lib.hid hb4
        clear hb4 f0 f1 f2 f3 f4 f5 f6 f7 f8 g0 g1 g2 g3
        cases hkv : keyV e a0 a1 a2 a3
        · go_wp2_with fail
          exact ⟨NX.out w4 HB4.out (by unfold hitV; rw [hok, hkv]; rfl), by simp [intOf]; omega⟩
        · go_wp2_with fail
          go_ret
          refine ⟨?_, HBstep B1.out HB4.out⟩
          rw [HF.out, show 16 - m = (16 - (m + 1)) + 1 by omega]
          show _ = Ending.returned (.int .i64 (if hitV (l m) a0 a1 a2 a3 = true then _ else _))
          rw [← HE.out, if_pos (by unfold hitV; rw [hok, hkv]; rfl)]
          rfl
    · obtain rfl : m = 16 := by omega
      have h2 := HF.out
      go_wp2_with fail
      go_ret
      refine ⟨?_, HB.out⟩
      rw [h2]; rfl
end Go.Proofs.YtfehilinnalflaaGreat
namespace Go.Proofs.YtfehilinnalflaaGreat
open Go.RowKit Go.BigFrame
set_option linter.unusedSimpArgs false
set_option linter.unusedVariables false
set_option maxRecDepth 100000
theorem of_ok : OfOk := by
  intro e
  obtain ⟨_, v, hv, hg⟩ := FnSE_ok.spec 168 [.g (entCh e)] true (.d (.g [.x false (.int .i64 e.page), .x false (.bool e.v), .x false (.int .i64 e.asid), .x false (.int .i64 e.vmid)])) (by kernel_rfl) rfl
  have hv' : v = .agg #[.int .i64 e.page, .bool e.v, .int .i64 e.asid, .int .i64 e.vmid] := hv []
  rw [← hv']
  exact hg
noncomputable def s_find (avs : List AV) (H : Hp) : Option (Bool × AV) :=
  match avs with
  | [.p k0 0, .d (.g [c0, c1, c2, c3])] => match H.bs[k0]? with
    | some ⟨T0, cs⟩ => if T0 = 122 ∧ isAll cs tlbK = true then (cI .i64 c0).bind fun a0 => (cB c1).bind fun a1 => (cI .i64 c2).bind fun a2 => (cI .i64 c3).bind fun a3 => some (true, .d (.s (.x false (.int .i64 (findV (unTlb cs) a0 a1 a2 a3))))) else none
    | _ => none
  | _ => none
noncomputable def E_find : Env := FnSE.addR 160 s_find
theorem E_find_ok : EnvOk Tryz.prog E_find := FnSE_ok.addR _ _ (fun xs => by kernel_rfl) (by
  intro avs H n av h hn X w0 σ w args F M
  unfold s_find at h
  split at h
  · rename_i k0 c0 c1 c2 c3
    split at h
    · rename_i T0 cs hbk
      split at h
      · rename_i hT0
        obtain ⟨a0, h0, h⟩ := bind_some h
        obtain ⟨a1, h1, h⟩ := bind_some h
        obtain ⟨a2, h2, h⟩ := bind_some h
        obtain ⟨a3, h3, h⟩ := bind_some h
        cases h
        obtain ⟨v1, l1, rfl, e1, F⟩ := F.uncons
        obtain ⟨v2, l2, rfl, e2, F⟩ := F.uncons
        obtain rfl := F.nil_
        obtain ⟨b, hb, e1⟩ := e1
        have e2' : v2 = .agg #[.int .i64 a0, .bool a1, .int .i64 a2, .int .i64 a3] := by
          have e3 : v2 = Dv.val (.g [c0, c1, c2, c3]) := e2
          rw [e3]
          simp only [Dv.val, flat, (cI_ok h0).1, (cB_ok h1).1, (cI_ok h2).1, (cI_ok h3).1]
          rfl
        have hk := M.blk k0 b _ hb hbk
        refine ⟨_, rfl, fun w1 hbl => ?_⟩
        rw [e1, e2']
        refine find_b of_ok b (unTlb cs) a0 a1 a2 a3 w1 ?_
        rw [hbl.block b (blk_lt hk), hk]
        have hT := hT0.1
        subst hT
        rw [← unTlb_ok hT0.2, flat_tlbCh]; rfl
      · cases h
    · cases h
  · cases h)
noncomputable def t_Look (l : Nat → EntV) (a0 : Int) (a1 : Bool) (a2 a3 : Int) : Tr := evFX Tryz.prog E_find 120 Tryz.f106 [.p 0 0, .d (.s (.x false (.int .i64 a0))), .d (.s (.x false (.bool a1))), .d (.s (.x false (.int .i64 a2))), .d (.s (.x false (.int .i64 a3)))] ⟨[⟨122, tlbCh l⟩], none, false, 1⟩
theorem is_Look (l : Nat → EntV) (a0 : Int) (a1 : Bool) (a2 a3 : Int) : (t_Look l a0 a1 a2 a3).is [.g entK, .s .b] = true := by kernel_rfl
noncomputable def s_Look (avs : List AV) (H : Hp) : Option (Bool × AV) :=
  match avs, H.m with
  | [.d (.s c), .d (.s c0), .d (.s c1), .d (.s c2), .d (.s c3)], some S => (cP c).bind fun a => (cI .i64 c0).bind fun a0 => (cB c1).bind fun a1 => (cI .i64 c2).bind fun a2 => (cI .i64 c3).bind fun a3 => (told (t_Look S.tl a0 a1 a2 a3) [.g entK, .s .b]).map fun r => (decide (a = S.t) && r.1, r.2)
  | _, _ => none
noncomputable def E_Look : Env := E_find.addR 106 s_Look
theorem E_Look_ok : EnvOk Tryz.prog E_Look := E_find_ok.addR _ _ (fun xs => by kernel_rfl) (by
  intro avs H n av h hn
  unfold s_Look at h
  split at h
  · rename_i c c0 c1 c2 c3 S hS
    obtain ⟨a, hc, h⟩ := bind_some h
    obtain ⟨a0, h0, h⟩ := bind_some h
    obtain ⟨a1, h1, h⟩ := bind_some h
    obtain ⟨a2, h2, h⟩ := bind_some h
    obtain ⟨a3, h3, h⟩ := bind_some h
    obtain ⟨⟨n0, av0⟩, hq, he⟩ := Option.map_eq_some_iff.1 h
    clear h
    cases he
    obtain ⟨hb, hn⟩ := (Bool.and_eq_true _ _).mp hn
    exact tlb_read (n := 120) (avs := [.d (.s c0), .d (.s c1), .d (.s c2), .d (.s c3)]) (args := [.d (.s (.x false (.int .i64 a0))), .d (.s (.x false (.bool a1))), .d (.s (.x false (.int .i64 a2))), .d (.s (.x false (.int .i64 a3)))]) (t := t_Look S.tl a0 a1 a2 a3) (sh := [.g entK, .s .b]) E_find_ok hmix Tryz.func106 hS hc (of_decide_eq_true hb)
      ⟨(by show Dv.val _ = Dv.val _; simp only [Dv.val, (cI_ok h0).2]), (by show Dv.val _ = Dv.val _; simp only [Dv.val, (cB_ok h1).2]), (by show Dv.val _ = Dv.val _; simp only [Dv.val, (cI_ok h2).2]), (by show Dv.val _ = Dv.val _; simp only [Dv.val, (cI_ok h3).2]), trivial⟩
      (by simp) rfl (is_Look _ a0 a1 a2 a3) hq hn
  · cases h)
def cE : List Ch → Option EntV
  | [c0, c1, c2, c3, c4, c5, c6, c7, c8] => (cB c0).bind fun a0 => (cB c1).bind fun a1 => (cI .i64 c2).bind fun a2 => (cI .i64 c3).bind fun a3 => (cI .i64 c4).bind fun a4 => (cI .i64 c5).bind fun a5 => (cI .i64 c6).bind fun a6 => (cI .i64 c7).bind fun a7 => (cI .i64 c8).map fun a8 => ⟨a0, a1, a2, a3, a4, a5, a6, a7, a8⟩
  | _ => none
theorem cE_ok {cs : List Ch} {e : EntV} (h : cE cs = some e) : flat cs = flat (entCh e) := by
  unfold cE at h
  split at h
  · rename_i c0 c1 c2 c3 c4 c5 c6 c7 c8
    obtain ⟨a0, h0, h⟩ := bind_some h
    obtain ⟨a1, h1, h⟩ := bind_some h
    obtain ⟨a2, h2, h⟩ := bind_some h
    obtain ⟨a3, h3, h⟩ := bind_some h
    obtain ⟨a4, h4, h⟩ := bind_some h
    obtain ⟨a5, h5, h⟩ := bind_some h
    obtain ⟨a6, h6, h⟩ := bind_some h
    obtain ⟨a7, h7, h⟩ := bind_some h
    obtain ⟨a8, h8, he⟩ := Option.map_eq_some_iff.1 h
    subst he
    simp only [flat, entCh, (cB_ok h0).1, (cB_ok h1).1, (cI_ok h2).1, (cI_ok h3).1, (cI_ok h4).1, (cI_ok h5).1, (cI_ok h6).1, (cI_ok h7).1, (cI_ok h8).1]
  · cases h
noncomputable def t_Fill (l : Nat → EntV) (e : EntV) (a : Int) : Tr := evFX Tryz.prog E_Look 120 Tryz.f110 [.p 0 0, .d (.g (entCh e)), .d (.s (.x false (.int .i64 a)))] ⟨[⟨122, tlbCh l⟩], none, false, 0⟩
theorem is_Fill (l : Nat → EntV) (e : EntV) (a : Int) : (t_Fill l e a).is ([] ++ [.g tlbK]) = true := by kernel_rfl
noncomputable def s_Fill (avs : List AV) (H : Hp) : Option (Bool × AV × HS) :=
  match avs, H.m, H.rw with
  | [.d (.s c), .d (.g cs), .d (.s c0)], some S, true => (cP c).bind fun a => (cE cs).bind fun e => (cI .i64 c0).bind fun a0 => (told (t_Fill S.tl e a0) []).map fun r => (decide (a = S.t) && r.1, r.2, { bus := S.bus, tl := unTlb (selG (t_Fill S.tl e a0) 0 0 tlbK), b := S.b, p := S.p, t := S.t })
  | _, _, _ => none
noncomputable def E_Fill : Env := E_Look.addM 110 s_Fill
theorem E_Fill_ok : EnvOk Tryz.prog E_Fill := E_Look_ok.addM _ _ (fun xs => by kernel_rfl) (by
  intro avs H n av S' h hn
  unfold s_Fill at h
  split at h
  · rename_i c cs c0 S hS hw
    obtain ⟨a, hc, h⟩ := bind_some h
    obtain ⟨e, h1, h⟩ := bind_some h
    obtain ⟨a0, h0, h⟩ := bind_some h
    obtain ⟨⟨n0, av0⟩, hq, he⟩ := Option.map_eq_some_iff.1 h
    clear h
    cases he
    obtain ⟨hb, hn⟩ := (Bool.and_eq_true _ _).mp hn
    exact tlb_turn (n := 120) (avs := [.d (.g cs), .d (.s c0)]) (args := [.d (.g (entCh e)), .d (.s (.x false (.int .i64 a0)))]) (t := t_Fill S.tl e a0) (sh := []) E_Look_ok hmix Tryz.func110 hS hw hc (of_decide_eq_true hb)
      ⟨(by show Dv.val _ = Dv.val _; simp only [Dv.val, cE_ok h1]), (by show Dv.val _ = Dv.val _; simp only [Dv.val, (cI_ok h0).2]), trivial⟩
      (by simp) rfl (is_Fill _ e a0) hq hn
  · cases h)
noncomputable def t_Drop (l : Nat → EntV) (e : EntV) : Tr := evFX Tryz.prog E_Fill 120 Tryz.f208 [.p 0 0, .d (.g (entCh e))] ⟨[⟨122, tlbCh l⟩], none, false, 0⟩
theorem is_Drop (l : Nat → EntV) (e : EntV) : (t_Drop l e).is ([.s .b] ++ [.g tlbK]) = true := by kernel_rfl
noncomputable def s_Drop (avs : List AV) (H : Hp) : Option (Bool × AV × HS) :=
  match avs, H.m, H.rw with
  | [.d (.s c), .d (.g cs)], some S, true => (cP c).bind fun a => (cE cs).bind fun e => (told (t_Drop S.tl e) [.s .b]).map fun r => (decide (a = S.t) && r.1, r.2, { bus := S.bus, tl := unTlb (selG (t_Drop S.tl e) 1 0 tlbK), b := S.b, p := S.p, t := S.t })
  | _, _, _ => none
noncomputable def E_Drop : Env := E_Fill.addM 208 s_Drop
theorem E_Drop_ok : EnvOk Tryz.prog E_Drop := E_Fill_ok.addM _ _ (fun xs => by kernel_rfl) (by
  intro avs H n av S' h hn
  unfold s_Drop at h
  split at h
  · rename_i c cs S hS hw
    obtain ⟨a, hc, h⟩ := bind_some h
    obtain ⟨e, h1, h⟩ := bind_some h
    obtain ⟨⟨n0, av0⟩, hq, he⟩ := Option.map_eq_some_iff.1 h
    clear h
    cases he
    obtain ⟨hb, hn⟩ := (Bool.and_eq_true _ _).mp hn
    exact tlb_turn (n := 120) (avs := [.d (.g cs)]) (args := [.d (.g (entCh e))]) (t := t_Drop S.tl e) (sh := [.s .b]) E_Fill_ok hmix Tryz.func208 hS hw hc (of_decide_eq_true hb)
      ⟨(by show Dv.val _ = Dv.val _; simp only [Dv.val, cE_ok h1]), trivial⟩
      (by simp) rfl (is_Drop _ e) hq hn
  · cases h)
noncomputable def TlE : Env := E_Drop
theorem TlE_ok : EnvOk Tryz.prog TlE := E_Drop_ok
end Go.Proofs.YtfehilinnalflaaGreat
namespace Go.Proofs.YtfehilinnalflaaGreat
open Go.RowKit Go.BigFrame
set_option linter.unusedSimpArgs false
set_option linter.unusedVariables false
set_option maxRecDepth 100000
def allInv (l : Nat → EntV) : Bool := (List.range 16).all fun i => !(l i).ok
def entCh0 (e : EntV) : List Ch := [.x true (.bool false), .x false (.bool e.v), .x false (.int .i64 e.page), .x false (.int .i64 e.asid), .x false (.int .i64 e.vmid), .x false (.int .i64 e.frame), .x false (.int .i64 e.bits), .x false (.int .i64 e.host), .x false (.int .i64 e.guest)]
def tlbCh0 (l : Nat → EntV) : List Ch := (List.range 16).flatMap fun i => entCh0 (l i)
theorem flat_tlbCh0 {l : Nat → EntV} (h : allInv l = true) : flat (tlbCh0 l) = tlbL l := by
  unfold allInv at h
  rw [List.all_eq_true] at h
  show flat ((List.range 16).flatMap fun i => entCh0 (l i)) = (List.range 16).flatMap fun i => entL (l i)
  rw [flat_flatMap]
  simp only [List.flatMap_def]
  congr 1
  refine List.map_congr_left fun i hi => ?_
  have e : (l i).ok = false := by have := h i hi; simpa using this
  simp only [entCh0, entL, flat, Ch.cells, e]
  rfl
theorem tlb_turn2 {P : Program} {E : Env} (hE : EnvOk P E) (hm : P.follows .mixedOrders = true) {f : FuncId} {fn : Func} (hf : P.funcs[f]? = some fn) {n : Nat} {S : HS} {H : Hp} (hS : H.m = some S) (hw : H.rw = true) {c : Ch} {b : Nat} (hc : cP c = some b) (hb : b = S.t) {cs : List Ch} (hcs : flat cs = tlbL S.tl) {avs args : List AV} (hA : ASubs [] avs args) (hd : ∀ a ∈ avs, ∃ d, a = .d d)
    {sh : List DK} {t : Tr} (ht : t = evFX P E n fn (.p 0 0 :: args) ⟨[⟨122, cs⟩], none, false, 0⟩) (hs : t.is (sh ++ [.g tlbK]) = true) {m : Bool} {av : AV} (h : told t sh = some (m, av)) (hn : m = true) (hL : t.LL = t.RR := by kernel_rfl) :
    TurnOk P f (.d (.s c) :: avs) H av ⟨H.bs, some { bus := S.bus, tl := unTlb (selG t sh.length 0 tlbK), b := S.b, p := S.p, t := S.t }, H.rw, H.ro⟩ := by
  intro X w0 σ w vals F M
  obtain ⟨v, vs, rfl, e, F⟩ := F.uncons
  have e' : v = .pointer (some ⟨S.t, 0, none⟩) := by have e2 : v = c.one := e; rw [e2, (cP_ok hc).2, hb]; rfl
  obtain ⟨F1, hM, f2, f3⟩ := M.mach S hS
  have M1 := tlb_box (cs := cs) (ro := 0) (by rw [hcs]; exact hM.tlb) (fun b => b = S.t) (fun _ => rfl) [122] (.inr rfl)
  have hneed : t.needB = true := by rw [← (resVal_told h σ).2]; exact hn
  refine (evFX_ok hE hm hf (ht ▸ holds_norm t (LR_of hL) (outs_alln hneed hs)) (FRel.cons (σ := [S.t]) (a := .p 0 0) ⟨S.t, rfl, e'⟩ (hA.data hd F)) M1).mono ?_
  rintro e w' ⟨vs, m', σ', H', h1, rfl, M', _⟩
  have hnf : (Hp.nf ⟨[⟨122, cs⟩], none, false, 0⟩) = 1 := rfl
  rw [hnf] at h1
  obtain ⟨bk, hb0, hbT⟩ := M'.ty 0 122 rfl
  have ht1 : H'.bs.take 1 = [bk] := by
    cases hH : H'.bs with
    | nil => rw [hH] at hb0; cases hb0
    | cons x r => rw [hH] at hb0; cases hb0; rfl
  rw [ht1] at h1
  obtain ⟨h2, h3⟩ := split_vals (sh := sh) (l := [(122, tlbK)]) (vs := vs) (bs := [.g bk.cs]) (t := t) rfl (by rw [ht]; exact h1)
  have h4 := h3 0 (.g bk.cs) (122, tlbK) rfl rfl
  have h5 : flat bk.cs = tlbL (unTlb (selG t sh.length 0 tlbK)) := by
    rw [← flat_tlbCh, unTlb_ok (is_selG t _ tlbK 0 tlbK_is)]
    exact agg_flat h4.symm |>.symm
  refine ⟨_, rfl, by rw [h2]; exact (resVal_told h σ).1, ?_⟩
  have hS0 : σ'[0]? = some S.t := M'.pre 0 S.t rfl
  have hblk := M'.blk 0 S.t bk hS0 hb0
  obtain ⟨g, ks, vs', i1, i2, i3, i4, i5, i6, i7, i8, i9⟩ := hM.bus
  have same : ∀ b, F1 b → b ≠ S.t → w'.heap[b]? = w.heap[b]? := fun b hb hne => M'.fr.block b (hM.fl b hb) hne
  refine M.eff hw hS f2 f3 ⟨F1, ⟨⟨g, ks, vs', i1.keep (same _ i2 (Ne.symm i6)) (same _ i3 (Ne.symm i7)) (same _ i4 (Ne.symm i8)) (fun i k hi e => same _ (i5 i k hi e) (fun e2 => i9 i hi (e2 ▸ e))), i2, i3, i4, i5, i6, i7, i8, i9⟩, ?_, hM.ft, fun b hb => Nat.lt_of_lt_of_le (hM.fl b hb) M'.fr.size⟩, fun c hc => .inl hc, M'.fr.mono fun b e => e ▸ hM.ft⟩
  rw [hblk, h5, hbT]; rfl
noncomputable def t_All0 (l : Nat → EntV) : Tr := evFX Tryz.prog TlE 120 Tryz.f58 [.p 0 0] ⟨[⟨122, tlbCh0 l⟩], none, false, 1⟩
theorem is_All0 (l : Nat → EntV) : (t_All0 l).is [.s .v] = true := by kernel_rfl
theorem v_All0 (l : Nat → EntV) : told (t_All0 l) [.s .v] = some (true, .d (.s (.x false (.slice none 0 0)))) := by kernel_rfl
noncomputable def s_All0 (avs : List AV) (H : Hp) : Option (Bool × AV) :=
  match avs with
  | [.p k0 0] => match H.bs[k0]? with
    | some ⟨T0, cs⟩ => if T0 = 122 ∧ isAll cs tlbK = true then some (allInv (unTlb cs), .d (.s (.x true (.slice none 0 0)))) else none
    | _ => none
  | _ => none
noncomputable def E_All0 : Env := TlE.addR 58 s_All0
theorem E_All0_ok : EnvOk Tryz.prog E_All0 := TlE_ok.addR _ _ (fun xs => by kernel_rfl) (by
  intro avs H n av h hn
  unfold s_All0 at h
  split at h
  · rename_i k0
    split at h
    · rename_i T0 cs hbk
      split at h
      · rename_i hT0
        cases h
        have hr := read_ok (n := 120) (avs := [.p k0 0]) (args := [.p 0 0]) (t := t_All0 (unTlb cs)) (sh := [.s .v]) TlE_ok hmix Tryz.func58
          (Sub.one hbk hT0.1 (by rw [flat_tlbCh0 hn, ← flat_tlbCh, unTlb_ok hT0.2]) none (fun T h => by cases h) false 1) rfl rfl ⟨⟨rfl, rfl⟩, trivial⟩ rfl (is_All0 _) (v_All0 _) rfl
        intro X w0 σ w args F M
        obtain ⟨v, hv, hc⟩ := hr X w0 σ w args F M
        exact ⟨v, hv, hc⟩
      · cases h
    · cases h
  · cases h)
noncomputable def t_Flush0 (l : Nat → EntV) : Tr := evFX Tryz.prog E_All0 120 Tryz.f40 [.p 0 0] ⟨[⟨122, tlbCh0 l⟩], none, false, 0⟩
theorem is_Flush0 (l : Nat → EntV) : (t_Flush0 l).is ([.s (.i .i64)] ++ [.g tlbK]) = true := by kernel_rfl
noncomputable def s_Flush0 (avs : List AV) (H : Hp) : Option (Bool × AV × HS) :=
  match avs, H.m, H.rw with
  | [.d (.s c)], some S, true => (cP c).bind fun a => (told (t_Flush0 S.tl) [.s (.i .i64)]).map fun r => (decide (a = S.t) && (allInv S.tl && r.1), r.2, { bus := S.bus, tl := unTlb (selG (t_Flush0 S.tl) 1 0 tlbK), b := S.b, p := S.p, t := S.t })
  | _, _, _ => none
noncomputable def E_Flush0 : Env := E_All0.addM 40 s_Flush0
theorem E_Flush0_ok : EnvOk Tryz.prog E_Flush0 := E_All0_ok.addM _ _ (fun xs => by kernel_rfl) (by
  intro avs H n av S' h hn
  unfold s_Flush0 at h
  split at h
  · rename_i c S hS hw
    obtain ⟨a, hc, h⟩ := bind_some h
    obtain ⟨⟨n0, av0⟩, hq, he⟩ := Option.map_eq_some_iff.1 h
    clear h
    cases he
    obtain ⟨hb, hn⟩ := (Bool.and_eq_true _ _).mp hn
    obtain ⟨ha, hn⟩ := (Bool.and_eq_true _ _).mp hn
    exact tlb_turn2 (n := 120) (avs := []) (args := []) (t := t_Flush0 S.tl) (sh := [.s (.i .i64)]) E_All0_ok hmix Tryz.func40 hS hw hc (of_decide_eq_true hb) (flat_tlbCh0 ha)
      trivial (by simp) rfl (is_Flush0 _) hq hn
  · cases h)
def s_open (avs : List AV) (H : Hp) : Option (Bool × AV × HS) :=
  match H.m with
  | some S => some (false, .d (.s (.x false (.int .i64 0))), S)
  | none => none
noncomputable def E_Sfence : Env := E_Flush0.addM 96 s_open
theorem s_open_no {avs : List AV} {H : Hp} {n : Bool} {av : AV} {S' : HS} (h : s_open avs H = some (n, av, S')) (hn : n = true) : False := by
  unfold s_open at h
  split at h
  · cases h; cases hn
  · cases h
theorem E_Sfence_ok : EnvOk Tryz.prog E_Sfence := E_Flush0_ok.addM _ _ (fun xs => by kernel_rfl) (fun avs H n av S' h hn => (s_open_no h hn).elim)
noncomputable def E_Guest : Env := E_Sfence.addM 98 s_open
theorem E_Guest_ok : EnvOk Tryz.prog E_Guest := E_Sfence_ok.addM _ _ (fun xs => by kernel_rfl) (fun avs H n av S' h hn => (s_open_no h hn).elim)
noncomputable def TfE : Env := E_Guest.addM 99 s_open
theorem TfE_ok : EnvOk Tryz.prog TfE := E_Guest_ok.addM _ _ (fun xs => by kernel_rfl) (fun avs H n av S' h hn => (s_open_no h hn).elim)
end Go.Proofs.YtfehilinnalflaaGreat
namespace Go.Proofs.YtfehilinnalflaaGreat
open Go.RowKit Go.BigFrame
set_option linter.unusedSimpArgs false
set_option linter.unusedVariables false
set_option maxRecDepth 100000
noncomputable def t_exec_Do (S : HS) (a0 : Nat) (a1 : St) (a2 : Int) : Tr := evFX Tryz.prog TfE 120 Tryz.f68 [.d (.s (.x false (.pointer (some ⟨a0, 0, none⟩)))), .d (.s (.S a1)), .d (.s (.x false (.int .u32 a2)))] ⟨[], some S, true, 0⟩
set_option maxHeartbeats 4000000 in
theorem is_exec_Do (S : HS) (a0 : Nat) (a1 : St) (a2 : Int) : (t_exec_Do S a0 a1 a2).is ([.s .S, .g [.u, .i .u32, .i .i64, .u, .b, .u, .u, .u, .b, .i .i64, .b, .b]] ++ bsh []) = true := by kernel_rfl
set_option maxHeartbeats 4000000 in
theorem m_exec_Do (S : HS) (a0 : Nat) (a1 : St) (a2 : Int) : (t_exec_Do S a0 a1 a2).setM S = t_exec_Do S a0 a1 a2 := by kernel_rfl
noncomputable def s_exec_Do (avs : List AV) (H : Hp) : Option (Bool × AV × HS) :=
  match avs, H.m, H.rw with
  | [.d (.s c0), .d (.s c1), .d (.s c2)], some S, true => (cP c0).bind fun a0 => (cS c1).bind fun a1 => (cI .u32 c2).bind fun a2 => (told (t_exec_Do S a0 a1 a2) [.s .S, .g [.u, .i .u32, .i .i64, .u, .b, .u, .u, .u, .b, .i .i64, .b, .b]]).map fun r => (r.1, r.2, Tr.theM (t_exec_Do S a0 a1 a2) S)
  | _, _, _ => none
noncomputable def E_exec_Do : Env := TfE.addM 68 s_exec_Do
set_option maxHeartbeats 4000000 in
theorem E_exec_Do_ok : EnvOk Tryz.prog E_exec_Do := TfE_ok.addM _ _ (fun xs => by kernel_rfl) (by
  intro avs H n av H' h hn
  unfold s_exec_Do at h
  split at h
  · rename_i c0 c1 c2 S hS hrw
    obtain ⟨a0, h0, h⟩ := bind_some h
    obtain ⟨a1, h1, h⟩ := bind_some h
    obtain ⟨a2, h2, h⟩ := bind_some h
    obtain ⟨⟨n0, av0⟩, hq, he⟩ := Option.map_eq_some_iff.1 h
    clear h
    cases he
    exact turn_ok (n := 120) (avs := [.d (.s c0), .d (.s c1), .d (.s c2)]) (args := [.d (.s (.x false (.pointer (some ⟨a0, 0, none⟩)))), .d (.s (.S a1)), .d (.s (.x false (.int .u32 a2)))]) (t := (t_exec_Do S a0 a1 a2)) (sh := [.s .S, .g [.u, .i .u32, .i .i64, .u, .b, .u, .u, .u, .b, .i .i64, .b, .b]]) TfE_ok hmix Tryz.func68 (Sub.none H true _ (fun T h => hS.trans h)) rfl hrw hS (Shp.none _ _) (fun i j h => by cases h) ⟨(by show Dv.val _ = Dv.val _; simp only [Dv.val, flat, (cP_ok h0).2]), (by show Dv.val _ = Dv.val _; simp only [Dv.val, flat, (cS_ok h1).2]), (by show Dv.val _ = Dv.val _; simp only [Dv.val, flat, (cI_ok h2).2]), trivial⟩ rfl (is_exec_Do S a0 a1 a2) (l' := []) trivial (m_exec_Do S a0 a1 a2) hq hn
  · cases h)
noncomputable def t_fence_Do (S : HS) (a0 : Nat) (a1 : St) (a2 : Int) (a3 : Int) (a4 : Int) (a5 : Int) (a6 : Int) (a7 : Int) : Tr := evFX Tryz.prog E_exec_Do 120 Tryz.f69 [.d (.s (.x false (.pointer (some ⟨a0, 0, none⟩)))), .d (.s (.S a1)), .d (.g [.x false (.int .i64 a2), .x false (.int .i64 a3), .x false (.int .i64 a4), .x false (.int .i64 a5), .x false (.int .i64 a6), .x false (.int .i64 a7)])] ⟨[], some S, true, 0⟩
set_option maxHeartbeats 4000000 in
theorem is_fence_Do (S : HS) (a0 : Nat) (a1 : St) (a2 : Int) (a3 : Int) (a4 : Int) (a5 : Int) (a6 : Int) (a7 : Int) : (t_fence_Do S a0 a1 a2 a3 a4 a5 a6 a7).is ([.s (.i .i64)] ++ bsh []) = true := by kernel_rfl
set_option maxHeartbeats 4000000 in
theorem m_fence_Do (S : HS) (a0 : Nat) (a1 : St) (a2 : Int) (a3 : Int) (a4 : Int) (a5 : Int) (a6 : Int) (a7 : Int) : (t_fence_Do S a0 a1 a2 a3 a4 a5 a6 a7).setM S = t_fence_Do S a0 a1 a2 a3 a4 a5 a6 a7 := by kernel_rfl
noncomputable def s_fence_Do (avs : List AV) (H : Hp) : Option (Bool × AV × HS) :=
  match avs, H.m, H.rw with
  | [.d (.s c0), .d (.s c1), .d (.g [c2, c3, c4, c5, c6, c7])], some S, true => (cP c0).bind fun a0 => (cS c1).bind fun a1 => (cI .i64 c2).bind fun a2 => (cI .i64 c3).bind fun a3 => (cI .i64 c4).bind fun a4 => (cI .i64 c5).bind fun a5 => (cI .i64 c6).bind fun a6 => (cI .i64 c7).bind fun a7 => (told (t_fence_Do S a0 a1 a2 a3 a4 a5 a6 a7) [.s (.i .i64)]).map fun r => (r.1, r.2, Tr.theM (t_fence_Do S a0 a1 a2 a3 a4 a5 a6 a7) S)
  | _, _, _ => none
noncomputable def E_fence_Do : Env := E_exec_Do.addM 69 s_fence_Do
set_option maxHeartbeats 4000000 in
theorem E_fence_Do_ok : EnvOk Tryz.prog E_fence_Do := E_exec_Do_ok.addM _ _ (fun xs => by kernel_rfl) (by
  intro avs H n av H' h hn
  unfold s_fence_Do at h
  split at h
  · rename_i c0 c1 c2 c3 c4 c5 c6 c7 S hS hrw
    obtain ⟨a0, h0, h⟩ := bind_some h
    obtain ⟨a1, h1, h⟩ := bind_some h
    obtain ⟨a2, h2, h⟩ := bind_some h
    obtain ⟨a3, h3, h⟩ := bind_some h
    obtain ⟨a4, h4, h⟩ := bind_some h
    obtain ⟨a5, h5, h⟩ := bind_some h
    obtain ⟨a6, h6, h⟩ := bind_some h
    obtain ⟨a7, h7, h⟩ := bind_some h
    obtain ⟨⟨n0, av0⟩, hq, he⟩ := Option.map_eq_some_iff.1 h
    clear h
    cases he
    exact turn_ok (n := 120) (avs := [.d (.s c0), .d (.s c1), .d (.g [c2, c3, c4, c5, c6, c7])]) (args := [.d (.s (.x false (.pointer (some ⟨a0, 0, none⟩)))), .d (.s (.S a1)), .d (.g [.x false (.int .i64 a2), .x false (.int .i64 a3), .x false (.int .i64 a4), .x false (.int .i64 a5), .x false (.int .i64 a6), .x false (.int .i64 a7)])]) (t := (t_fence_Do S a0 a1 a2 a3 a4 a5 a6 a7)) (sh := [.s (.i .i64)]) E_exec_Do_ok hmix Tryz.func69 (Sub.none H true _ (fun T h => hS.trans h)) rfl hrw hS (Shp.none _ _) (fun i j h => by cases h) ⟨(by show Dv.val _ = Dv.val _; simp only [Dv.val, flat, (cP_ok h0).2]), (by show Dv.val _ = Dv.val _; simp only [Dv.val, flat, (cS_ok h1).2]), (by show Dv.val _ = Dv.val _; simp only [Dv.val, flat, (cI_ok h2).1, (cI_ok h3).1, (cI_ok h4).1, (cI_ok h5).1, (cI_ok h6).1, (cI_ok h7).1]), trivial⟩ rfl (is_fence_Do S a0 a1 a2 a3 a4 a5 a6 a7) (l' := []) trivial (m_fence_Do S a0 a1 a2 a3 a4 a5 a6 a7) hq hn
  · cases h)
noncomputable def t__pipe_Pipe_place (S : HS) (b0 : St) (b1 : Nat) (b2 : Nat) (b3 : Option Addr × Nat × Nat) (b4 : Option Addr) (b5 : BitVec 64) (b6 : Bool) (b7 : Int) (a8 : BitVec 64) (a9 : Int) : Tr := evFX Tryz.prog E_fence_Do 120 Tryz.f74 [.p 0 0, .d (.s (.u false a8)), .d (.s (.x false (.int .i64 a9)))] ⟨[⟨80, [.S b0, .x false (.pointer (some ⟨b1, 0, none⟩)), .x false (.pointer (some ⟨b2, 0, none⟩)), .x false (.slice b3.1 b3.2.1 b3.2.2), .x false (.pointer b4), .u false b5, .x false (.bool b6), .x false (.int .i64 b7)]⟩], some S, true, 1⟩
set_option maxHeartbeats 4000000 in
theorem is__pipe_Pipe_place (S : HS) (b0 : St) (b1 : Nat) (b2 : Nat) (b3 : Option Addr × Nat × Nat) (b4 : Option Addr) (b5 : BitVec 64) (b6 : Bool) (b7 : Int) (a8 : BitVec 64) (a9 : Int) : (t__pipe_Pipe_place S b0 b1 b2 b3 b4 b5 b6 b7 a8 a9).is ([.s (.u), .g [.u, .u, .u, .b], .s (.b)]) = true := by kernel_rfl
set_option maxHeartbeats 4000000 in
theorem m__pipe_Pipe_place (S : HS) (b0 : St) (b1 : Nat) (b2 : Nat) (b3 : Option Addr × Nat × Nat) (b4 : Option Addr) (b5 : BitVec 64) (b6 : Bool) (b7 : Int) (a8 : BitVec 64) (a9 : Int) : (t__pipe_Pipe_place S b0 b1 b2 b3 b4 b5 b6 b7 a8 a9).setM S = t__pipe_Pipe_place S b0 b1 b2 b3 b4 b5 b6 b7 a8 a9 := by kernel_rfl
end Go.Proofs.YtfehilinnalflaaGreat
namespace Go.Proofs.YtfehilinnalflaaGreat
open Go.RowKit Go.BigFrame
set_option linter.unusedSimpArgs false
set_option linter.unusedVariables false
set_option maxRecDepth 100000
inductive T2 (β : Type) where
  | fail
  | ret (b : β)
  | test (c : Bool) (y n : T2 β)
  | need (c : Bool) (t : T2 β)
def Tr.cut {β : Type} (f : List Dv → Option HS → β) : Tr → T2 β
  | .fail => .fail
  | .ret vs m => .ret (f vs m)
  | .test c y n => .test c (y.cut f) (n.cut f)
  | .need _ t => t.cut f
  | .both a _ => a.cut f
def Tr.cutR {β : Type} (f : List Dv → Option HS → β) : Tr → T2 β
  | .fail => .fail
  | .ret vs m => .ret (f vs m)
  | .test c y n => .test c (y.cutR f) (n.cutR f)
  | .need _ t => t.cutR f
  | .both a _ => a.cutR f
theorem cutR_eq {β : Type} (f : List Dv → Option HS → β) : ∀ (t : Tr), t.cutR f = t.cut f
  | .fail => rfl
  | .ret _ _ => rfl
  | .test c y n => by show T2.test c (y.cutR f) (n.cutR f) = .test c (y.cut f) (n.cut f); rw [cutR_eq f y, cutR_eq f n]
  | .need _ t => cutR_eq f t
  | .both a _ => cutR_eq f a
def T2.sel {β α : Type} (d : α) (g : β → α) : T2 β → α
  | .fail => d
  | .ret b => g b
  | .test c y n => bif c then y.sel d g else n.sel d g
  | .need _ t => t.sel d g
theorem cut_sel {β α : Type} (f : List Dv → Option HS → β) (d : α) (g : β → α) (π : List Dv → α) (h : ∀ vs m, π vs = g (f vs m)) : ∀ (t : Tr), t.sel d π = (t.cut f).sel d g
  | .fail => rfl
  | .ret vs m => h vs m
  | .test c y n => by show (bif c then y.sel d π else n.sel d π) = bif c then (y.cut f).sel d g else (n.cut f).sel d g; rw [cut_sel f d g π h y, cut_sel f d g π h n]
  | .need _ t => cut_sel f d g π h t
  | .both a _ => cut_sel f d g π h a
theorem cut_selM {β : Type} (f : List Dv → Option HS → β) (S : HS) (g : β → HS) (h : ∀ vs m, Tr.selM S (.ret vs m) = g (f vs m)) (hf : Tr.selM S .fail = S) : ∀ (t : Tr), t.selM S = (t.cut f).sel S g
  | .fail => hf
  | .ret vs m => h vs m
  | .test c y n => by show (bif c then y.selM S else n.selM S) = bif c then (y.cut f).sel S g else (n.cut f).sel S g; rw [cut_selM f S g h hf y, cut_selM f S g h hf n]
  | .need _ t => cut_selM f S g h hf t
  | .both a _ => cut_selM f S g h hf a
def Tr.nd : Tr → T2 Unit
  | .fail => .fail
  | .ret _ _ => .ret ()
  | .test c y n => .test c y.nd n.nd
  | .need c t => .need c t.nd
  | .both a _ => a.nd
def Tr.ndR : Tr → T2 Unit
  | .fail => .fail
  | .ret _ _ => .ret ()
  | .test c y n => .test c y.ndR n.ndR
  | .need c t => .need c t.ndR
  | .both a _ => a.ndR
theorem ndR_eq : ∀ (t : Tr), t.ndR = t.nd
  | .fail => rfl
  | .ret _ _ => rfl
  | .test c y n => by show T2.test c y.ndR n.ndR = .test c y.nd n.nd; rw [ndR_eq y, ndR_eq n]
  | .need c t => by show T2.need c t.ndR = .need c t.nd; rw [ndR_eq t]
  | .both a _ => ndR_eq a
def T2.needB {β : Type} : T2 β → Bool
  | .fail => false
  | .ret _ => true
  | .test c y n => bif c then y.needB else n.needB
  | .need c t => c && t.needB
theorem nd_need : ∀ (t : Tr), t.needB = t.nd.needB
  | .fail => rfl
  | .ret _ _ => rfl
  | .test c y n => by show (bif c then y.needB else n.needB) = bif c then y.nd.needB else n.nd.needB; rw [nd_need y, nd_need n]
  | .need c t => by show (c && t.needB) = (c && t.nd.needB); rw [nd_need t]
  | .both a _ => nd_need a
theorem nd_same {t t' : Tr} (h : t.nd = t'.ndR) : t.needB = t'.needB := by rw [nd_need, nd_need, h, ndR_eq]
def allF (vs : List Dv) (m : Option HS) : List Dv × Option HS := (vs, m)
theorem sel_all {t t' : Tr} (h : t.cut allF = t'.cutR allF) {α : Type} (d : α) (π : List Dv → α) : t.sel d π = t'.sel d π := by
  rw [cut_sel allF d (fun b => π b.1) π (fun vs m => rfl), cut_sel allF d (fun b => π b.1) π (fun vs m => rfl), h, cutR_eq]
theorem theM_all {t t' : Tr} (h : t.cut allF = t'.cutR allF) (S : HS) : t.theM S = t'.theM S := by
  have e : t.selM S = t'.selM S := by
    rw [cut_selM allF S (fun b => Tr.selM S (.ret b.1 b.2)) (fun vs m => rfl) rfl, cut_selM allF S (fun b => Tr.selM S (.ret b.1 b.2)) (fun vs m => rfl) rfl, h, cutR_eq]
  unfold Tr.theM
  rw [e]
theorem selG_all {t t' : Tr} (h : t.cut allF = t'.cutR allF) (i : Nat) : ∀ (ks : List CK) (j : Nat), selG t i j ks = selG t' i j ks
  | [], j => rfl
  | k :: ks, j => by
    show selC t i j k :: selG t i (j + 1) ks = selC t' i j k :: selG t' i (j + 1) ks
    rw [selG_all h i ks (j + 1)]
    congr 1
    cases k <;> simp only [selC, sel_all h]
theorem outs_same {t t' : Tr} (h : t.cut allF = t'.cutR allF) : ∀ (ks : List DK) (i : Nat), outs t i ks = outs t' i ks
  | [], i => rfl
  | k :: ks, i => by
    show selD t i k :: outs t (i + 1) ks = selD t' i k :: outs t' (i + 1) ks
    rw [outs_same h ks (i + 1)]
    congr 1
    cases k with
    | s k => show Dv.s (selC t i 0 k) = .s (selC t' i 0 k); have := selG_all h i [k] 0; injection this with this _; rw [this]
    | g ks => show Dv.g (selG t i 0 ks) = .g (selG t' i 0 ks); rw [selG_all h i ks 0]
theorem told_same {t t' : Tr} (h : t.cut allF = t'.cutR allF) (hn : t.nd = t'.ndR) (sh : List DK) : told t sh = told t' sh := by
  unfold told
  split
  · rename_i k
    have := outs_same h [k] 0
    injection this with this _
    rw [nd_same hn, this]
  · rw [nd_same hn, outs_same h]
end Go.Proofs.YtfehilinnalflaaGreat
namespace Go.Proofs.YtfehilinnalflaaGreat
open Go.RowKit Go.BigFrame
set_option linter.unusedSimpArgs false
set_option linter.unusedVariables false
set_option maxRecDepth 100000
noncomputable def plT (S : HS) (s : St) (b t : Nat) (at_ : BitVec 64) (pick : Int) : Tr := t__pipe_Pipe_place S s b t (none, 0, 0) none 0#64 false 0 at_ pick
set_option maxHeartbeats 4000000 in
theorem pl_cut (S : HS) (b0 : St) (b1 : Nat) (b2 : Nat) (b3 : Option Addr × Nat × Nat) (b4 : Option Addr) (b5 : BitVec 64) (b6 : Bool) (b7 : Int) (a8 : BitVec 64) (a9 : Int) : (t__pipe_Pipe_place S b0 b1 b2 b3 b4 b5 b6 b7 a8 a9).cut allF = (plT S b0 b1 b2 a8 a9).cutR allF := by kernel_rfl
set_option maxHeartbeats 4000000 in
theorem pl_nd (S : HS) (b0 : St) (b1 : Nat) (b2 : Nat) (b3 : Option Addr × Nat × Nat) (b4 : Option Addr) (b5 : BitVec 64) (b6 : Bool) (b7 : Int) (a8 : BitVec 64) (a9 : Int) : (t__pipe_Pipe_place S b0 b1 b2 b3 b4 b5 b6 b7 a8 a9).nd = (plT S b0 b1 b2 a8 a9).ndR := by kernel_rfl
noncomputable def s_place (avs : List AV) (H : Hp) : Option (Bool × AV × HS) :=
  match avs, H.m, H.rw with
  | [.p k0 0, .d (.s c8), .d (.s c9)], some S, true => match H.bs[k0]? with
    | some ⟨T0, [d0, d1, d2, d3, d4, d5, d6, d7]⟩ => if T0 = 80 then (cS d0).bind fun b0 => (cP d1).bind fun b1 => (cP d2).bind fun b2 => (cL d3).bind fun b3 => (cPo d4).bind fun b4 => (cU d5).bind fun b5 => (cB d6).bind fun b6 => (cI .i64 d7).bind fun b7 => (cU c8).bind fun a8 => (cI .i64 c9).bind fun a9 => (told (plT S b0 b1 b2 a8 a9) [.s (.u), .g [.u, .u, .u, .b], .s (.b)]).map fun r => (r.1, r.2, (plT S b0 b1 b2 a8 a9).theM S) else none
    | _ => none
  | _, _, _ => none
noncomputable def PlE : Env := E_fence_Do.addM 74 s_place
set_option maxHeartbeats 4000000 in
theorem PlE_ok : EnvOk Tryz.prog PlE := E_fence_Do_ok.addM _ _ (fun xs => by kernel_rfl) (by
  intro avs H n av H' h hn
  unfold s_place at h
  split at h
  · rename_i k0 c8 c9 S hS hrw
    split at h
    · rename_i T0 d0 d1 d2 d3 d4 d5 d6 d7 hbk
      split at h
      · rename_i hT0
        obtain ⟨b0, g0, h⟩ := bind_some h
        obtain ⟨b1, g1, h⟩ := bind_some h
        obtain ⟨b2, g2, h⟩ := bind_some h
        obtain ⟨b3, g3, h⟩ := bind_some h
        obtain ⟨b4, g4, h⟩ := bind_some h
        obtain ⟨b5, g5, h⟩ := bind_some h
        obtain ⟨b6, g6, h⟩ := bind_some h
        obtain ⟨b7, g7, h⟩ := bind_some h
        obtain ⟨a8, h8, h⟩ := bind_some h
        obtain ⟨a9, h9, h⟩ := bind_some h
        obtain ⟨⟨n0, av0⟩, hq, he⟩ := Option.map_eq_some_iff.1 h
        clear h
        cases he
        rw [← told_same (pl_cut S b0 b1 b2 b3 b4 b5 b6 b7 a8 a9) (pl_nd S b0 b1 b2 b3 b4 b5 b6 b7 a8 a9)] at hq
        rw [← theM_all (pl_cut S b0 b1 b2 b3 b4 b5 b6 b7 a8 a9)]
        exact turnM_ok (n := 120) (avs := [.p k0 0, .d (.s c8), .d (.s c9)]) (args := [.p 0 0, .d (.s (.u false a8)), .d (.s (.x false (.int .i64 a9)))]) (t := (t__pipe_Pipe_place S b0 b1 b2 b3 b4 b5 b6 b7 a8 a9)) (sh := [.s (.u), .g [.u, .u, .u, .b], .s (.b)]) E_fence_Do_ok hmix Tryz.func74 (Sub.one hbk hT0 (by simp only [flat, (cS_ok g0).1, (cP_ok g1).1, (cP_ok g2).1, (cL_ok g3).1, (cPo_ok g4).1, (cU_ok g5).1, (cB_ok g6).1, (cI_ok g7).1]) _ (fun T h => hS.trans h) true 1) rfl rfl hrw hS ⟨⟨rfl, rfl⟩, (by show Dv.val _ = Dv.val _; simp only [Dv.val, flat, (cU_ok h8).2]), (by show Dv.val _ = Dv.val _; simp only [Dv.val, flat, (cI_ok h9).2]), trivial⟩ rfl (is__pipe_Pipe_place S b0 b1 b2 b3 b4 b5 b6 b7 a8 a9) (m__pipe_Pipe_place S b0 b1 b2 b3 b4 b5 b6 b7 a8 a9) hq hn
      · cases h
    · cases h
  · cases h)
end Go.Proofs.YtfehilinnalflaaGreat
