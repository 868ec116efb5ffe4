/- Part 19 of the texts behind the law: contracts and lemmas, each proved; no condition but what each names. -/

import Derived.Test.YtfehilinnalflaaGreatQ18
namespace Go.Proofs.YtfehilinnalflaaGreat
open Go.RowKit Go.BigFrame
set_option linter.unusedSimpArgs false
set_option linter.unusedVariables false
set_option maxRecDepth 100000
def lnI0 : InV := ⟨22, 1, 1, 0, 1, 0⟩
def lnI1 : InV := ⟨3, 0, 0, 0, -4, 0⟩
theorem ln_enc0 : (encT lnI0).needB = true ∧ encV lnI0 = 0x00108093 := by refine ⟨?_, ?_⟩ <;> kernel_rfl
theorem ln_enc1 : (encT lnI1).needB = true ∧ encV lnI1 = 0xffdff06f := by refine ⟨?_, ?_⟩ <;> kernel_rfl
def lnE : Nat → Int := fun j => match j with | 0 => 0x00108093 | _ => 0xffdff06f
def lnF : Nat → UInt8 := codeF (fun _ => 0) (atC 0#64) lnE 2
def lnS : St := { St0 with lev := 3, c := updC (updC (updC St0.c 3 512#64) 0 8#64) 4 2048#64 }
noncomputable def lnB : St := cleanS lnS
noncomputable def lnH (b p t : Nat) (T : BitVec 64) : HS := ⟨{ busV0 lnF with t := T }, tl0, b, p, t⟩
noncomputable def lnX (X : Nat → BitVec 64) (P D : BitVec 64) : St := { lnB with x := X, pc := P, done := D }
def lnW0 : SlV := ⟨0#64, 0x00108093, 0#64, 0#64, 0#64, false, true, lnI0, true, 0, 0⟩
def lnW1 : SlV := ⟨4#64, 0xffdff06f, 0#64, 0#64, 0#64, false, true, lnI1, true, 0, 0⟩
section
variable (b p t : Nat) (T : BitVec 64) (X : Nat → BitVec 64) (P D : BitVec 64) (pick : Int)
set_option maxHeartbeats 4000000 in
theorem ln_f0 : slV (bT (lnX X P D) (lnH b p t T) 0#64 pick) = lnW0 := by kernel_rfl
set_option maxHeartbeats 4000000 in
theorem ln_m0 : (bT (lnX X P D) (lnH b p t T) 0#64 pick).theM (lnH b p t T) = lnH b p t T := by kernel_rfl
set_option maxHeartbeats 4000000 in
theorem ln_n0 : (bT (lnX X P D) (lnH b p t T) 0#64 pick).needB = (((decide (b = b) && true) && true) && true) := by kernel_rfl
set_option maxHeartbeats 4000000 in
theorem ln_f1 : slV (bT (lnX X P D) (lnH b p t T) 4#64 pick) = lnW1 := by kernel_rfl
set_option maxHeartbeats 4000000 in
theorem ln_m1 : (bT (lnX X P D) (lnH b p t T) 4#64 pick).theM (lnH b p t T) = lnH b p t T := by kernel_rfl
set_option maxHeartbeats 4000000 in
theorem ln_n1 : (bT (lnX X P D) (lnH b p t T) 4#64 pick).needB = (((decide (b = b) && true) && true) && true) := by kernel_rfl
def lnV0 : SlV := { lnW0 with stage := 3, left := 0 }
def lnV1 : SlV := { lnW1 with stage := 3, left := 0 }
theorem ln_iv0 : intV (lnX X P D) false false = (0#64, 0, false, false) := by kernel_rfl
theorem ln_iv1 : intV (lnX X P D) false true = (0x8000000000000009#64, 3, false, true) := by kernel_rfl
set_option maxHeartbeats 4000000 in
theorem ln_t0 : eT (E3 (lnX X 0#64 D) (lnH b p t T) lnV0) = lnX (updC X 1 (X 1 + 1#64)) 4#64 (D + 1#64) := by kernel_rfl
set_option maxHeartbeats 4000000 in
theorem ln_r0 : rF (E3 (lnX X 0#64 D) (lnH b p t T) lnV0) = ⟨0#64, 0x00108093, 1, X 1 + 1#64, false, 0#64, 0#64, 0#64, false, 0, false, false⟩ := by kernel_rfl
set_option maxHeartbeats 4000000 in
theorem ln_s0 : (E3 (lnX X 0#64 D) (lnH b p t T) lnV0).theM (lnH b p t T) = lnH b p t T := by kernel_rfl
set_option maxHeartbeats 4000000 in
theorem ln_d0 : (E3 (lnX X 0#64 D) (lnH b p t T) lnV0).needB = true := by kernel_rfl
set_option maxHeartbeats 4000000 in
theorem ln_t1 : eT (E3 (lnX X 4#64 D) (lnH b p t T) lnV1) = lnX X 0#64 (D + 1#64) := by kernel_rfl
set_option maxHeartbeats 4000000 in
theorem ln_r1 : rF (E3 (lnX X 4#64 D) (lnH b p t T) lnV1) = ⟨4#64, 0xffdff06f, 0, 0#64, false, 0#64, 0#64, 0#64, false, 0, false, false⟩ := by kernel_rfl
set_option maxHeartbeats 4000000 in
theorem ln_s1 : (E3 (lnX X 4#64 D) (lnH b p t T) lnV1).theM (lnH b p t T) = lnH b p t T := by kernel_rfl
set_option maxHeartbeats 4000000 in
theorem ln_d1 : (E3 (lnX X 4#64 D) (lnH b p t T) lnV1).needB = true := by kernel_rfl
theorem ln_fe0 : fenM (lnX X P D) lnV0 (lnH b p t T) = lnH b p t T := by kernel_rfl
theorem ln_fe1 : fenM (lnX X P D) lnV1 (lnH b p t T) = lnH b p t T := by kernel_rfl
theorem ln_fn0 : (t_fence_Do (lnH b p t T) (lnH b p t T).t (lnX X P D) 22 1 1 0 1 0).needB = true := by kernel_rfl
theorem ln_fn1 : (t_fence_Do (lnH b p t T) (lnH b p t T).t (lnX X P D) 3 0 0 0 (-4) 0).needB = true := by kernel_rfl
noncomputable def lnT : St := eT (t_exec_Interrupt (lnX X P D) 0x8000000000000009#64 3 false)
theorem ln_ti : (lnT X P D).pc = 2048#64 ∧ (lnT X P D).c 6 = P ∧ (lnT X P D).x = X ∧ (lnT X P D).done = D := by refine ⟨?_, ?_, ?_, ?_⟩ <;> kernel_rfl
noncomputable def lnEi : Tr := t_exec_Interrupt (lnX X P D) 0x8000000000000009#64 3 false
theorem ln_ri : rF (lnEi X P D) = ⟨P, 0, 0, 0#64, true, 0x8000000000000009#64, 0#64, 0#64, false, 3, false, false⟩ := by kernel_rfl
theorem ln_di : (lnEi X P D).needB = true := by kernel_rfl
def lnWi : SlV := ⟨2048#64, 0, 0#64, 0#64, 0#64, false, true, ⟨0, 0, 0, 0, 0, 0⟩, false, 0, 0⟩
set_option maxHeartbeats 4000000 in
theorem ln_fi : slV (bT (lnT X P D) (lnH b p t T) 2048#64 pick) = lnWi := by kernel_rfl
set_option maxHeartbeats 4000000 in
theorem ln_ni : (bT (lnT X P D) (lnH b p t T) 2048#64 pick).needB = (((decide (b = b) && true) && true) && true) := by kernel_rfl
theorem ln_xi : (t_guess_Next lnWi.pc lnWi.w).needB = true ∧ (alT lnWi.i).needB = true := by refine ⟨?_, ?_⟩ <;> kernel_rfl
theorem ln_mv0 : (t_insn_Size 22).needB = true := by kernel_rfl
theorem ln_mv1 : (t_insn_Size 3).needB = true := by kernel_rfl
theorem ln_w00 : (wtT lnW0.i lnW0.i).needB = true := by kernel_rfl
theorem ln_w01 : (wtT lnW0.i lnW1.i).needB = true := by kernel_rfl
theorem ln_w10 : (wtT lnW1.i lnW0.i).needB = true := by kernel_rfl
theorem ln_w11 : (wtT lnW1.i lnW1.i).needB = true := by kernel_rfl
theorem ln_x0 : (t_guess_Next lnW0.pc lnW0.w).needB = true ∧ (alT lnW0.i).needB = true ∧ (!lnW0.ok || (!lnW0.is || alV lnW0.i)) = false ∧ nxV lnW0.pc lnW0.w = 4#64 := by refine ⟨?_, ?_, ?_, ?_⟩ <;> kernel_rfl
theorem ln_x1 : (t_guess_Next lnW1.pc lnW1.w).needB = true ∧ (alT lnW1.i).needB = true ∧ (!lnW1.ok || (!lnW1.is || alV lnW1.i)) = false ∧ nxV lnW1.pc lnW1.w = 0#64 := by refine ⟨?_, ?_, ?_, ?_⟩ <;> kernel_rfl
theorem ln_y0 : alV lnV0.i = false ∧ wrV lnV0.pc lnV0.w 4#64 = false ∧ (t_guess_Wrong lnV0.pc lnV0.w 4#64).needB = true ∧ (alT lnV0.i).needB = true := by refine ⟨?_, ?_, ?_, ?_⟩ <;> kernel_rfl
theorem ln_y1 : alV lnV1.i = false ∧ wrV lnV1.pc lnV1.w 0#64 = false ∧ (t_guess_Wrong lnV1.pc lnV1.w 0#64).needB = true ∧ (alT lnV1.i).needB = true := by refine ⟨?_, ?_, ?_, ?_⟩ <;> kernel_rfl
end
end Go.Proofs.YtfehilinnalflaaGreat
namespace Go.Proofs.YtfehilinnalflaaGreat
open Go.RowKit Go.BigFrame
set_option linter.unusedSimpArgs false
set_option linter.unusedVariables false
set_option maxRecDepth 100000
theorem doE_no {s : St} {S : HS} {x : SlV} {line : Bool} (h : (ivQ s S line).2.2.2 = false) (hx : x.ok = true) : doE s S x line = E3 s S x ∧ doS s S x line = (E3 s S x).theM S := by
  unfold doE doS
  rw [h, hx]
  exact ⟨rfl, rfl⟩
theorem doE_yes {s : St} {S : HS} {x : SlV} {line : Bool} (h : (ivQ s S line).2.2.2 = true) : doE s S x line = E1 s S line ∧ doS s S x line = S := by
  unfold doE doS
  rw [h]
  exact ⟨rfl, rfl⟩
theorem ones_no (D : BitVec 64) (h : D.toNat < 18446744073709551615) : decide ((BitVec.allOnes 64).toNat ≤ D.toNat) = false := by
  have e : (BitVec.allOnes 64).toNat = 18446744073709551615 := rfl
  rw [e]
  exact decide_eq_false (by omega)
theorem rF_trap (E : Tr) : (rF E).trap = eTr E := rfl
theorem plain_ret {s s' : St} {S S' : HS} {x : SlV} {r : RetV} (at_ : BitVec 64) (stops : Bool) (hq : (ivQ s S false).2.2.2 = false) (hok : x.ok = true) (ht : eT (E3 s S x) = s') (hr : rF (E3 s S x) = r) (htr : r.trap = false) (hd : (E3 s S x).needB = true) (hs : (E3 s S x).theM S = S') (hfe : fenM s x S' = S')
    (hfn : (t_fence_Do S' S'.t s x.i.op x.i.rd x.i.rs1 x.i.rs2 x.i.imm x.i.csr).needB = true) (hal : (alT x.i).needB = true) (hw : (t_guess_Wrong x.pc x.w s'.pc).needB = true) (hb : S'.b = S.b ∧ S'.p = S.p ∧ S'.t = S.t) :
    (dT s S at_ stops x false).needB = true ∧ retV (dT s S at_ stops x false) = r ∧ stT (dT s S at_ stops x false) = s' ∧ flT (dT s S at_ stops x false) = (alV x.i || wrV x.pc x.w s'.pc) ∧ (dT s S at_ stops x false).theM S = S' := by
  obtain ⟨e1, e2⟩ := doE_no hq hok
  have n := does_n s S at_ stops x false
  have n2 := does_ret s S at_ stops x false
  have n3 := does_st s S at_ stops x false
  have n4 := does_fl s S at_ stops x false
  have n5 := does_m s S at_ stops x false
  rw [e1, e2] at n n5
  rw [e1] at n2 n3 n4
  clear e1 e2 hq
  generalize E3 s S x = E at *
  generalize dT s S at_ stops x false = t at *
  have htr' : eTr E = false := by rw [← rF_trap, hr]; exact htr
  rw [htr', hs, cond_false, hfe] at n5
  rw [htr', ht, Bool.false_or] at n4
  rw [hd, hs, Bool.true_and, tailN_true s x hfn hal (by rw [ht]; exact hw)] at n
  obtain ⟨b1, b2, b3⟩ := hb
  refine ⟨n, n2.trans hr, n3.trans ht, n4, ?_⟩
  rw [n5, ← b1, ← b2, ← b3]
def xs : Nat → Nat → BitVec 64
  | 0 => fun _ => 0#64
  | n + 1 => if n % 2 = 0 then updC (xs n) 1 (xs n 1 + 1#64) else xs n
theorem nat_add1 (n : Nat) : BitVec.ofNat 64 n + 1#64 = BitVec.ofNat 64 (n + 1) := by
  apply BitVec.eq_of_toNat_eq
  simp [BitVec.toNat_add, BitVec.toNat_ofNat]
theorem xs_one : ∀ n : Nat, xs n 1 = BitVec.ofNat 64 ((n + 1) / 2)
  | 0 => rfl
  | n + 1 => by
    show (if n % 2 = 0 then updC (xs n) 1 (xs n 1 + 1#64) else xs n) 1 = _
    by_cases c : n % 2 = 0
    · rw [if_pos c, xs_one n]
      show (if 1 = 1 then BitVec.ofNat 64 ((n + 1) / 2) + 1#64 else xs n 1) = _
      rw [if_pos rfl, nat_add1]
      congr 1; omega
    · rw [if_neg c, xs_one n]
      congr 1; omega
noncomputable def lnP (b p t : Nat) : Plan where
  st n := if n % 2 = 0 then lnX (xs n) 0#64 (BitVec.ofNat 64 n) else lnX (xs n) 4#64 (BitVec.ofNat 64 n)
  hs n _ := lnH b p t (BitVec.ofNat 64 (n - 1))
  slot m := if m % 2 = 0 then lnW0 else lnW1
  pc m := if m % 2 = 0 then 0#64 else 4#64
  last _ := false
  fl _ := false
  ret n := if n % 2 = 0 then ⟨0#64, 0x00108093, 1, xs n 1 + 1#64, false, 0#64, 0#64, 0#64, false, 0, false, false⟩ else ⟨4#64, 0xffdff06f, 0, 0#64, false, 0#64, 0#64, 0#64, false, 0, false, false⟩
theorem ln_st (b p t n : Nat) : ∃ P, (lnP b p t).st n = lnX (xs n) P (BitVec.ofNat 64 n) := by
  show ∃ P, (if n % 2 = 0 then lnX (xs n) 0#64 (BitVec.ofNat 64 n) else lnX (xs n) 4#64 (BitVec.ofNat 64 n)) = _
  split
  · exact ⟨_, rfl⟩
  · exact ⟨_, rfl⟩
theorem ret_lnH (b p t : Nat) (T : BitVec 64) (X : Nat → BitVec 64) (P D : BitVec 64) : retS (lnH b p t T) (lnX X P D) = lnH b p t D := rfl
theorem ln_iv (b p t : Nat) (X : Nat → BitVec 64) (P D : BitVec 64) (h : D.toNat < 18446744073709551615) (line : Bool) : ivQ (lnX X P D) (lnH b p t D) line = intV (lnX X P D) false line := by
  unfold ivQ
  have e : decide ((lnH b p t D).bus.al.toNat ≤ (lnH b p t D).bus.t.toNat) = false := ones_no D h
  rw [e]
theorem ln_ret0 (b p t : Nat) (X : Nat → BitVec 64) (D : BitVec 64) (h : D.toNat < 18446744073709551615) (at_ : BitVec 64) (stops : Bool) :
    (dT (lnX X 0#64 D) (lnH b p t D) at_ stops lnV0 false).needB = true ∧ retV (dT (lnX X 0#64 D) (lnH b p t D) at_ stops lnV0 false) = ⟨0#64, 0x00108093, 1, X 1 + 1#64, false, 0#64, 0#64, 0#64, false, 0, false, false⟩ ∧ stT (dT (lnX X 0#64 D) (lnH b p t D) at_ stops lnV0 false) = lnX (updC X 1 (X 1 + 1#64)) 4#64 (D + 1#64) ∧ flT (dT (lnX X 0#64 D) (lnH b p t D) at_ stops lnV0 false) = false ∧ (dT (lnX X 0#64 D) (lnH b p t D) at_ stops lnV0 false).theM (lnH b p t D) = lnH b p t D := by
  obtain ⟨y1, y2, y3, y4⟩ := ln_y0
  have key := plain_ret (s := lnX X 0#64 D) (S := lnH b p t D) (S' := lnH b p t D) (x := lnV0) at_ stops (by rw [ln_iv b p t X 0#64 D h, ln_iv0]) rfl (ln_t0 b p t D X D) (ln_r0 b p t D X D) rfl (ln_d0 b p t D X D) (ln_s0 b p t D X D) (ln_fe0 b p t D X 0#64 D) (ln_fn0 b p t D X 0#64 D) y4 y3 ⟨rfl, rfl, rfl⟩
  have e : (alV lnV0.i || wrV lnV0.pc lnV0.w (lnX (updC X 1 (X 1 + 1#64)) 4#64 (D + 1#64)).pc) = false := by rw [y1]; exact y2
  rw [e] at key
  exact key
theorem ln_ret1 (b p t : Nat) (X : Nat → BitVec 64) (D : BitVec 64) (h : D.toNat < 18446744073709551615) (at_ : BitVec 64) (stops : Bool) :
    (dT (lnX X 4#64 D) (lnH b p t D) at_ stops lnV1 false).needB = true ∧ retV (dT (lnX X 4#64 D) (lnH b p t D) at_ stops lnV1 false) = ⟨4#64, 0xffdff06f, 0, 0#64, false, 0#64, 0#64, 0#64, false, 0, false, false⟩ ∧ stT (dT (lnX X 4#64 D) (lnH b p t D) at_ stops lnV1 false) = lnX X 0#64 (D + 1#64) ∧ flT (dT (lnX X 4#64 D) (lnH b p t D) at_ stops lnV1 false) = false ∧ (dT (lnX X 4#64 D) (lnH b p t D) at_ stops lnV1 false).theM (lnH b p t D) = lnH b p t D := by
  obtain ⟨y1, y2, y3, y4⟩ := ln_y1
  have key := plain_ret (s := lnX X 4#64 D) (S := lnH b p t D) (S' := lnH b p t D) (x := lnV1) at_ stops (by rw [ln_iv b p t X 4#64 D h, ln_iv0]) rfl (ln_t1 b p t D X D) (ln_r1 b p t D X D) rfl (ln_d1 b p t D X D) (ln_s1 b p t D X D) (ln_fe1 b p t D X 4#64 D) (ln_fn1 b p t D X 4#64 D) y4 y3 ⟨rfl, rfl, rfl⟩
  have e : (alV lnV1.i || wrV lnV1.pc lnV1.w (lnX X 0#64 (D + 1#64)).pc) = false := by rw [y1]; exact y2
  rw [e] at key
  exact key
theorem ln_plan (b p t N : Nat) (hN : N ≤ 2000) : PlanOk (lnP b p t) N false := by
  refine ⟨fun m => ?_, fun i j => ?_, fun n m pick hn hw hm => ?_, fun n m hn hw hm => ?_, fun n m at_ stops hn hw hm => ?_, fun n hn => ?_⟩
  · show core (if m % 2 = 0 then lnW0 else lnW1) = (if m % 2 = 0 then lnW0 else lnW1)
    split <;> rfl
  · show (t_insn_Size (if i % 2 = 0 then lnW0 else lnW1).i.op).needB = true ∧ (wtT (if i % 2 = 0 then lnW0 else lnW1).i (if j % 2 = 0 then lnW0 else lnW1).i).needB = true
    by_cases ci : i % 2 = 0 <;> by_cases cj : j % 2 = 0
    · rw [if_pos ci, if_pos cj]; exact ⟨ln_mv0, ln_w00⟩
    · rw [if_pos ci, if_neg cj]; exact ⟨ln_mv0, ln_w01⟩
    · rw [if_neg ci, if_pos cj]; exact ⟨ln_mv1, ln_w10⟩
    · rw [if_neg ci, if_neg cj]; exact ⟨ln_mv1, ln_w11⟩
  · obtain ⟨P, e⟩ := ln_st b p t n
    rw [e]
    show (bT (lnX (xs n) P (BitVec.ofNat 64 n)) (lnH b p t (BitVec.ofNat 64 (n - 1))) (if m % 2 = 0 then 0#64 else 4#64) pick).needB = true ∧ slV (bT (lnX (xs n) P (BitVec.ofNat 64 n)) (lnH b p t (BitVec.ofNat 64 (n - 1))) (if m % 2 = 0 then 0#64 else 4#64) pick) = (if m % 2 = 0 then lnW0 else lnW1) ∧ (bT (lnX (xs n) P (BitVec.ofNat 64 n)) (lnH b p t (BitVec.ofNat 64 (n - 1))) (if m % 2 = 0 then 0#64 else 4#64) pick).theM (lnH b p t (BitVec.ofNat 64 (n - 1))) = lnH b p t (BitVec.ofNat 64 (n - 1))
    by_cases c : m % 2 = 0
    · rw [if_pos c, if_pos c]
      exact ⟨by rw [ln_n0]; simp, ln_f0 .., ln_m0 ..⟩
    · rw [if_neg c, if_neg c]
      exact ⟨by rw [ln_n1]; simp, ln_f1 .., ln_m1 ..⟩
  · show (t_guess_Next (if m % 2 = 0 then lnW0 else lnW1).pc (if m % 2 = 0 then lnW0 else lnW1).w).needB = true ∧ (alT (if m % 2 = 0 then lnW0 else lnW1).i).needB = true ∧ (!(if m % 2 = 0 then lnW0 else lnW1).ok || (!(if m % 2 = 0 then lnW0 else lnW1).is || alV (if m % 2 = 0 then lnW0 else lnW1).i)) = false ∧ (false = false → nxV (if m % 2 = 0 then lnW0 else lnW1).pc (if m % 2 = 0 then lnW0 else lnW1).w = (if (m + 1) % 2 = 0 then 0#64 else 4#64))
    by_cases c : m % 2 = 0
    · rw [if_pos c, if_neg (show ¬ (m + 1) % 2 = 0 by omega)]
      exact ⟨ln_x0.1, ln_x0.2.1, ln_x0.2.2.1, fun _ => ln_x0.2.2.2⟩
    · rw [if_neg c, if_pos (show (m + 1) % 2 = 0 by omega)]
      exact ⟨ln_x1.1, ln_x1.2.1, ln_x1.2.2.1, fun _ => ln_x1.2.2.2⟩
  · have hD : (BitVec.ofNat 64 n).toNat < 18446744073709551615 := by rw [BitVec.toNat_ofNat]; omega
    by_cases c : n % 2 = 0
    · have e1 : (lnP b p t).st n = lnX (xs n) 0#64 (BitVec.ofNat 64 n) := if_pos c
      have e2 : (lnP b p t).slot n = lnW0 := if_pos c
      have e3 : (lnP b p t).st (n + 1) = lnX (updC (xs n) 1 (xs n 1 + 1#64)) 4#64 (BitVec.ofNat 64 n + 1#64) := by
        show (if (n + 1) % 2 = 0 then lnX (xs (n + 1)) 0#64 (BitVec.ofNat 64 (n + 1)) else lnX (xs (n + 1)) 4#64 (BitVec.ofNat 64 (n + 1))) = _
        rw [if_neg (by omega), nat_add1]
        congr 1
        show (if n % 2 = 0 then updC (xs n) 1 (xs n 1 + 1#64) else xs n) = _
        rw [if_pos c]
      have e4 : (lnP b p t).ret n = ⟨0#64, 0x00108093, 1, xs n 1 + 1#64, false, 0#64, 0#64, 0#64, false, 0, false, false⟩ := if_pos c
      obtain ⟨h1, h2, h3, h4, h5⟩ := ln_ret0 b p t (xs n) (BitVec.ofNat 64 n) hD at_ stops
      rw [e1, e2, e3, e4]
      refine ⟨h1, ?_, h3, h4, h5⟩
      show ({ retV (dT (lnX (xs n) 0#64 (BitVec.ofNat 64 n)) (lnH b p t (BitVec.ofNat 64 n)) at_ stops lnV0 false) with line := false } : RetV) = _
      rw [h2]
    · have e1 : (lnP b p t).st n = lnX (xs n) 4#64 (BitVec.ofNat 64 n) := if_neg c
      have e2 : (lnP b p t).slot n = lnW1 := if_neg c
      have e3 : (lnP b p t).st (n + 1) = lnX (xs n) 0#64 (BitVec.ofNat 64 n + 1#64) := by
        show (if (n + 1) % 2 = 0 then lnX (xs (n + 1)) 0#64 (BitVec.ofNat 64 (n + 1)) else lnX (xs (n + 1)) 4#64 (BitVec.ofNat 64 (n + 1))) = _
        rw [if_pos (by omega), nat_add1]
        congr 1
        show (if n % 2 = 0 then updC (xs n) 1 (xs n 1 + 1#64) else xs n) = _
        rw [if_neg c]
      have e4 : (lnP b p t).ret n = ⟨4#64, 0xffdff06f, 0, 0#64, false, 0#64, 0#64, 0#64, false, 0, false, false⟩ := if_neg c
      obtain ⟨h1, h2, h3, h4, h5⟩ := ln_ret1 b p t (xs n) (BitVec.ofNat 64 n) hD at_ stops
      rw [e1, e2, e3, e4]
      refine ⟨h1, ?_, h3, h4, h5⟩
      show ({ retV (dT (lnX (xs n) 4#64 (BitVec.ofNat 64 n)) (lnH b p t (BitVec.ofNat 64 n)) at_ stops lnV1 false) with line := false } : RetV) = _
      rw [h2]
  · exact ⟨fun h => (by cases h), fun h => (by cases h)⟩
end Go.Proofs.YtfehilinnalflaaGreat
namespace Go.Proofs.YtfehilinnalflaaGreat
open Go.RowKit Go.BigFrame
set_option linter.unusedSimpArgs false
set_option linter.unusedVariables false
set_option maxRecDepth 100000
theorem plan_wait {p : Plan} {N n m : Nat} {line : Bool} {V : PipV} {S : HS} (hp : PlanOk p N line) (hn : n ≤ N) (h : PInv p n m V S) {late : Int} (h0 : 0 ≤ late) (h7 : late ≤ 7) (pick : Int) (line' : Bool) (hr : ¬ ∃ x l, V.l = x :: l ∧ x.stage = 3 ∧ x.left = 0) :
    ∃ V' S' m', Cyc V S late pick line' none V' S' ∧ PInv p n m' V' S' ∧ mu V' < mu V := by
  have hr' : ∀ x l, V.l = x :: l → x.stage = 3 → 0 < x.left := fun x l hV h3 => by
    obtain ⟨_, _, q3, _⟩ := h.sl.2 x (by rw [hV]; simp)
    by_cases c : x.left = 0
    · exact absurd ⟨x, l, hV, h3, c⟩ hr
    · omega
  have M1 := h.mov h0 h7
  obtain ⟨m2, F1⟩ := M1.fet hp hn h0 h7 pick
  refine ⟨_, _, m2, cyc_none late pick h0 h7 line' h.sl h.nv (h.needs hp) (M1.fneeds hp hn pick) hr', F1, ?_⟩
  refine mu_less h0 h7 h.sl h.nv (fun e1 e2 => ?_) hr'
  have hlen := h.len
  rw [e1, e2] at hlen
  have : ¬ n < m := by simp at hlen; omega
  rw [h.stops, if_neg this]
theorem fet_s (V : PipV) (S : HS) (late pick : Int) : (fetV V S late pick).1.s = V.s := by
  cases hnv : V.nv with
  | none =>
    cases hs : V.stops with
    | true => rw [fet_stops hnv hs]
    | false =>
      obtain ⟨y, S', a, b, _, _, _, _, e⟩ := fet_new (V := V) (S := S) (late := late) (pick := pick) hnv hs
      rw [e]
  | some x =>
    rw [fet_some hnv]
    split
    · rfl
    · split <;> rfl
theorem fetN_mk {T : St} {H : HS} {late pick : Int} {a : BitVec 64} {y : SlV} (hn : (bT T H a pick).needB = true) (hy : slV (bT T H a pick) = y) (h1 : (t_guess_Next y.pc y.w).needB = true) (h2 : (alT y.i).needB = true) : FetNeeds (movV ⟨T, [], none, a, false⟩ late) H pick := by
  intro _ _
  have e : newS (movV ⟨T, [], none, a, false⟩ late) H pick = y := hy
  rw [e]
  exact ⟨hn, h1, h2⟩
theorem ln_trap (b p t : Nat) {n m : Nat} {V : PipV} {S : HS} (hI : PInv (lnP b p t) n m V S) (hn : n ≤ 1000) {x : SlV} {l : List SlV} (hV : V.l = x :: l) (h3 : x.stage = 3) (hx0 : x.left = 0) (late pick : Int) (h0 : 0 ≤ late) (h7 : late ≤ 7) :
    ∃ V' S' Pc, Cyc V S late pick true (some ⟨Pc, 0, 0, 0#64, true, 0x8000000000000009#64, 0#64, 0#64, false, 3, false, true⟩) V' S' ∧ V'.s = lnT (xs n) Pc (BitVec.ofNat 64 n) := by
  obtain ⟨Pc, hst⟩ := ln_st b p t n
  have hD : (BitVec.ofNat 64 n).toNat < 18446744073709551615 := by rw [BitVec.toNat_ofNat]; omega
  have hs : V.s = lnX (xs n) Pc (BitVec.ofNat 64 n) := hI.s.trans hst
  have hS : retS S V.s = lnH b p t (BitVec.ofNat 64 n) := by rw [hI.S, hs]; exact ret_lnH b p t _ _ _ _
  have hdT : dTV V S x true = dT (lnX (xs n) Pc (BitVec.ofNat 64 n)) (lnH b p t (BitVec.ofNat 64 n)) V.at_ V.stops x true := by unfold dTV; rw [hS, hs]
  have hq : ivQ (lnX (xs n) Pc (BitVec.ofNat 64 n)) (lnH b p t (BitVec.ofNat 64 n)) true = (0x8000000000000009#64, 3, false, true) := by rw [ln_iv b p t _ _ _ hD, ln_iv1]
  have hE : E1 (lnX (xs n) Pc (BitVec.ofNat 64 n)) (lnH b p t (BitVec.ofNat 64 n)) true = lnEi (xs n) Pc (BitVec.ofNat 64 n) := by
    unfold E1
    rw [hq]; rfl
  obtain ⟨e1, e2⟩ := doE_yes (s := lnX (xs n) Pc (BitVec.ofNat 64 n)) (S := lnH b p t (BitVec.ofNat 64 n)) (x := x) (line := true) (by rw [hq])
  rw [hE] at e1
  have htr : eTr (lnEi (xs n) Pc (BitVec.ofNat 64 n)) = true := by rw [← rF_trap, ln_ri]
  have hT : eT (lnEi (xs n) Pc (BitVec.ofNat 64 n)) = lnT (xs n) Pc (BitVec.ofNat 64 n) := rfl
  have n1 := does_n (lnX (xs n) Pc (BitVec.ofNat 64 n)) (lnH b p t (BitVec.ofNat 64 n)) V.at_ V.stops x true
  have n2 := does_ret (lnX (xs n) Pc (BitVec.ofNat 64 n)) (lnH b p t (BitVec.ofNat 64 n)) V.at_ V.stops x true
  have n3 := does_st (lnX (xs n) Pc (BitVec.ofNat 64 n)) (lnH b p t (BitVec.ofNat 64 n)) V.at_ V.stops x true
  have n4 := does_fl (lnX (xs n) Pc (BitVec.ofNat 64 n)) (lnH b p t (BitVec.ofNat 64 n)) V.at_ V.stops x true
  have n5 := does_m (lnX (xs n) Pc (BitVec.ofNat 64 n)) (lnH b p t (BitVec.ofNat 64 n)) V.at_ V.stops x true
  rw [← hdT] at n1 n2 n3 n4 n5
  rw [e1] at n1 n2 n3 n4 n5
  rw [e2] at n1 n5
  rw [htr, Bool.true_or] at n4
  rw [htr, cond_true] at n5
  rw [ln_ri] at n2
  rw [hT] at n3
  have n5' : (dTV V S x true).theM (retS S V.s) = lnH b p t (BitVec.ofNat 64 n) := by rw [hS]; exact n5
  have hd : (dTV V S x true).needB = true := by rw [n1, ln_di, Bool.true_and]; exact tailN_trap _ _ htr
  have hV1 := after_eq V S x l true
  rw [n4, n3, cond_true] at hV1
  obtain ⟨i1, i2, i3, i4⟩ := ln_ti (xs n) Pc (BitVec.ofNat 64 n)
  have key := cyc_some hV h3 hx0 late pick h0 h7 true (by have := hI.sl.1; rw [hV] at this; simp at this; omega) hd hV1 n5' ⟨by simp, fun y hy => by cases hy⟩ (fun y hy => by cases hy) (fun y hy => by cases hy)
    (fetN_mk (by rw [i1, ln_ni]; simp) (by rw [i1]; exact ln_fi ..) ln_xi.1 ln_xi.2)
  rw [n2] at key
  exact ⟨_, _, Pc, key, fet_s _ _ _ _⟩
end Go.Proofs.YtfehilinnalflaaGreat
