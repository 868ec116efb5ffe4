/- Part 10 of the texts behind the law: contracts and lemmas, each proved; no condition but what each names. -/

import Derived.Test.YtfehilinnalflaaGreatQ07
import Derived.Test.YtfehilinnalflaaGreatQ09
namespace Go.Proofs.YtfehilinnalflaaGreat
open Go.RowKit Go.BigFrame
set_option linter.unusedSimpArgs false
set_option linter.unusedVariables false
set_option maxRecDepth 100000
noncomputable def t_alu_one (a0 : Bool) : Tr := evF Tryz.prog FnAE 120 Tryz.f225 [.s (.x false (.bool a0))]
theorem is_alu_one (a0 : Bool) : (t_alu_one a0).is [.s (.u)] = true := by kernel_rfl
noncomputable def s_alu_one (args : List Dv) : Option (Bool × AV) :=
  match args with
  | [.s c0] => (cB c0).bind fun a0 => told (t_alu_one a0) [.s (.u)]
  | _ => none
noncomputable def E_alu_one : Env := FnAE.add 225 s_alu_one
theorem E_alu_one_ok : EnvOk Tryz.prog E_alu_one := FnAE_ok.add _ _ (by
  intro args n av h hn
  unfold s_alu_one at h
  split at h
  · rename_i c0
    obtain ⟨a0, h0, h⟩ := bind_some h
    exact told_ok (n := 120) (t := t_alu_one a0) (sh := [.s (.u)]) FnAE_ok hmix Tryz.func225 (xs0 := [.s (.x false (.bool a0))]) (by simp only [List.map_cons, List.map_nil, Dv.val, flat, (cB_ok h0).2]) rfl (is_alu_one a0) (fun xs => by kernel_rfl) h hn
  · cases h)
noncomputable def t_alu_plain (a0 : Int) : Tr := evF Tryz.prog E_alu_one 120 Tryz.f199 [.s (.x false (.int .i64 a0))]
theorem is_alu_plain (a0 : Int) : (t_alu_plain a0).is [.s (.i .i64)] = true := by kernel_rfl
noncomputable def s_alu_plain (args : List Dv) : Option (Bool × AV) :=
  match args with
  | [.s c0] => (cI .i64 c0).bind fun a0 => told (t_alu_plain a0) [.s (.i .i64)]
  | _ => none
noncomputable def E_alu_plain : Env := E_alu_one.add 199 s_alu_plain
theorem E_alu_plain_ok : EnvOk Tryz.prog E_alu_plain := E_alu_one_ok.add _ _ (by
  intro args n av h hn
  unfold s_alu_plain at h
  split at h
  · rename_i c0
    obtain ⟨a0, h0, h⟩ := bind_some h
    exact told_ok (n := 120) (t := t_alu_plain a0) (sh := [.s (.i .i64)]) E_alu_one_ok hmix Tryz.func199 (xs0 := [.s (.x false (.int .i64 a0))]) (by simp only [List.map_cons, List.map_nil, Dv.val, flat, (cI_ok h0).2]) rfl (is_alu_plain a0) (fun xs => by kernel_rfl) h hn
  · cases h)
noncomputable def t_alu_narrow (a0 : Int) : Tr := evF Tryz.prog E_alu_plain 120 Tryz.f197 [.s (.x false (.int .i64 a0))]
theorem is_alu_narrow (a0 : Int) : (t_alu_narrow a0).is [.s (.b)] = true := by kernel_rfl
noncomputable def s_alu_narrow (args : List Dv) : Option (Bool × AV) :=
  match args with
  | [.s c0] => (cI .i64 c0).bind fun a0 => told (t_alu_narrow a0) [.s (.b)]
  | _ => none
noncomputable def E_alu_narrow : Env := E_alu_plain.add 197 s_alu_narrow
theorem E_alu_narrow_ok : EnvOk Tryz.prog E_alu_narrow := E_alu_plain_ok.add _ _ (by
  intro args n av h hn
  unfold s_alu_narrow at h
  split at h
  · rename_i c0
    obtain ⟨a0, h0, h⟩ := bind_some h
    exact told_ok (n := 120) (t := t_alu_narrow a0) (sh := [.s (.b)]) E_alu_plain_ok hmix Tryz.func197 (xs0 := [.s (.x false (.int .i64 a0))]) (by simp only [List.map_cons, List.map_nil, Dv.val, flat, (cI_ok h0).2]) rfl (is_alu_narrow a0) (fun xs => by kernel_rfl) h hn
  · cases h)
noncomputable def t_alu_does (a0 : Int) (a1 : BitVec 64) (a2 : BitVec 64) (a3 : Int) : Tr := evF Tryz.prog E_alu_narrow 120 Tryz.f198 [.s (.x false (.int .i64 a0)), .s (.u false a1), .s (.u false a2), .s (.x false (.int .i64 a3))]
theorem is_alu_does (a0 : Int) (a1 : BitVec 64) (a2 : BitVec 64) (a3 : Int) : (t_alu_does a0 a1 a2 a3).is [.s (.u)] = true := by kernel_rfl
noncomputable def s_alu_does (args : List Dv) : Option (Bool × AV) :=
  match args with
  | [.s c0, .s c1, .s c2, .s c3] => (cI .i64 c0).bind fun a0 => (cU c1).bind fun a1 => (cU c2).bind fun a2 => (cI .i64 c3).bind fun a3 => told (t_alu_does a0 a1 a2 a3) [.s (.u)]
  | _ => none
noncomputable def E_alu_does : Env := E_alu_narrow.add 198 s_alu_does
theorem E_alu_does_ok : EnvOk Tryz.prog E_alu_does := E_alu_narrow_ok.add _ _ (by
  intro args n av h hn
  unfold s_alu_does at h
  split at h
  · rename_i c0 c1 c2 c3
    obtain ⟨a0, h0, h⟩ := bind_some h
    obtain ⟨a1, h1, h⟩ := bind_some h
    obtain ⟨a2, h2, h⟩ := bind_some h
    obtain ⟨a3, h3, h⟩ := bind_some h
    exact told_ok (n := 120) (t := t_alu_does a0 a1 a2 a3) (sh := [.s (.u)]) E_alu_narrow_ok hmix Tryz.func198 (xs0 := [.s (.x false (.int .i64 a0)), .s (.u false a1), .s (.u false a2), .s (.x false (.int .i64 a3))]) (by simp only [List.map_cons, List.map_nil, Dv.val, flat, (cI_ok h0).2, (cU_ok h1).2, (cU_ok h2).2, (cI_ok h3).2]) rfl (is_alu_does a0 a1 a2 a3) (fun xs => by kernel_rfl) h hn
  · cases h)
noncomputable def t_alu_Do (a0 : Int) (a1 : BitVec 64) (a2 : BitVec 64) : Tr := evF Tryz.prog E_alu_does 120 Tryz.f147 [.s (.x false (.int .i64 a0)), .s (.u false a1), .s (.u false a2)]
theorem is_alu_Do (a0 : Int) (a1 : BitVec 64) (a2 : BitVec 64) : (t_alu_Do a0 a1 a2).is [.s (.u)] = true := by kernel_rfl
noncomputable def s_alu_Do (args : List Dv) : Option (Bool × AV) :=
  match args with
  | [.s c0, .s c1, .s c2] => (cI .i64 c0).bind fun a0 => (cU c1).bind fun a1 => (cU c2).bind fun a2 => told (t_alu_Do a0 a1 a2) [.s (.u)]
  | _ => none
noncomputable def E_alu_Do : Env := E_alu_does.add 147 s_alu_Do
theorem E_alu_Do_ok : EnvOk Tryz.prog E_alu_Do := E_alu_does_ok.add _ _ (by
  intro args n av h hn
  unfold s_alu_Do at h
  split at h
  · rename_i c0 c1 c2
    obtain ⟨a0, h0, h⟩ := bind_some h
    obtain ⟨a1, h1, h⟩ := bind_some h
    obtain ⟨a2, h2, h⟩ := bind_some h
    exact told_ok (n := 120) (t := t_alu_Do a0 a1 a2) (sh := [.s (.u)]) E_alu_does_ok hmix Tryz.func147 (xs0 := [.s (.x false (.int .i64 a0)), .s (.u false a1), .s (.u false a2)]) (by simp only [List.map_cons, List.map_nil, Dv.val, flat, (cI_ok h0).2, (cU_ok h1).2, (cU_ok h2).2]) rfl (is_alu_Do a0 a1 a2) (fun xs => by kernel_rfl) h hn
  · cases h)
noncomputable def t_alu_Taken (a0 : Int) (a1 : BitVec 64) (a2 : BitVec 64) : Tr := evF Tryz.prog E_alu_Do 120 Tryz.f192 [.s (.x false (.int .i64 a0)), .s (.u false a1), .s (.u false a2)]
theorem is_alu_Taken (a0 : Int) (a1 : BitVec 64) (a2 : BitVec 64) : (t_alu_Taken a0 a1 a2).is [.s (.b)] = true := by kernel_rfl
noncomputable def s_alu_Taken (args : List Dv) : Option (Bool × AV) :=
  match args with
  | [.s c0, .s c1, .s c2] => (cI .i64 c0).bind fun a0 => (cU c1).bind fun a1 => (cU c2).bind fun a2 => told (t_alu_Taken a0 a1 a2) [.s (.b)]
  | _ => none
noncomputable def E_alu_Taken : Env := E_alu_Do.add 192 s_alu_Taken
theorem E_alu_Taken_ok : EnvOk Tryz.prog E_alu_Taken := E_alu_Do_ok.add _ _ (by
  intro args n av h hn
  unfold s_alu_Taken at h
  split at h
  · rename_i c0 c1 c2
    obtain ⟨a0, h0, h⟩ := bind_some h
    obtain ⟨a1, h1, h⟩ := bind_some h
    obtain ⟨a2, h2, h⟩ := bind_some h
    exact told_ok (n := 120) (t := t_alu_Taken a0 a1 a2) (sh := [.s (.b)]) E_alu_Do_ok hmix Tryz.func192 (xs0 := [.s (.x false (.int .i64 a0)), .s (.u false a1), .s (.u false a2)]) (by simp only [List.map_cons, List.map_nil, Dv.val, flat, (cI_ok h0).2, (cU_ok h1).2, (cU_ok h2).2]) rfl (is_alu_Taken a0 a1 a2) (fun xs => by kernel_rfl) h hn
  · cases h)
noncomputable def t_alu_Csr (a0 : Int) (a1 : BitVec 64) (a2 : BitVec 64) : Tr := evF Tryz.prog E_alu_Taken 120 Tryz.f205 [.s (.x false (.int .i64 a0)), .s (.u false a1), .s (.u false a2)]
theorem is_alu_Csr (a0 : Int) (a1 : BitVec 64) (a2 : BitVec 64) : (t_alu_Csr a0 a1 a2).is [.s (.u)] = true := by kernel_rfl
noncomputable def s_alu_Csr (args : List Dv) : Option (Bool × AV) :=
  match args with
  | [.s c0, .s c1, .s c2] => (cI .i64 c0).bind fun a0 => (cU c1).bind fun a1 => (cU c2).bind fun a2 => told (t_alu_Csr a0 a1 a2) [.s (.u)]
  | _ => none
noncomputable def E_alu_Csr : Env := E_alu_Taken.add 205 s_alu_Csr
theorem E_alu_Csr_ok : EnvOk Tryz.prog E_alu_Csr := E_alu_Taken_ok.add _ _ (by
  intro args n av h hn
  unfold s_alu_Csr at h
  split at h
  · rename_i c0 c1 c2
    obtain ⟨a0, h0, h⟩ := bind_some h
    obtain ⟨a1, h1, h⟩ := bind_some h
    obtain ⟨a2, h2, h⟩ := bind_some h
    exact told_ok (n := 120) (t := t_alu_Csr a0 a1 a2) (sh := [.s (.u)]) E_alu_Taken_ok hmix Tryz.func205 (xs0 := [.s (.x false (.int .i64 a0)), .s (.u false a1), .s (.u false a2)]) (by simp only [List.map_cons, List.map_nil, Dv.val, flat, (cI_ok h0).2, (cU_ok h1).2, (cU_ok h2).2]) rfl (is_alu_Csr a0 a1 a2) (fun xs => by kernel_rfl) h hn
  · cases h)
noncomputable def t_alu_Extend (a0 : Int) (a1 : BitVec 64) : Tr := evF Tryz.prog E_alu_Csr 120 Tryz.f196 [.s (.x false (.int .i64 a0)), .s (.u false a1)]
theorem is_alu_Extend (a0 : Int) (a1 : BitVec 64) : (t_alu_Extend a0 a1).is [.s (.u)] = true := by kernel_rfl
noncomputable def s_alu_Extend (args : List Dv) : Option (Bool × AV) :=
  match args with
  | [.s c0, .s c1] => (cI .i64 c0).bind fun a0 => (cU c1).bind fun a1 => told (t_alu_Extend a0 a1) [.s (.u)]
  | _ => none
noncomputable def E_alu_Extend : Env := E_alu_Csr.add 196 s_alu_Extend
theorem E_alu_Extend_ok : EnvOk Tryz.prog E_alu_Extend := E_alu_Csr_ok.add _ _ (by
  intro args n av h hn
  unfold s_alu_Extend at h
  split at h
  · rename_i c0 c1
    obtain ⟨a0, h0, h⟩ := bind_some h
    obtain ⟨a1, h1, h⟩ := bind_some h
    exact told_ok (n := 120) (t := t_alu_Extend a0 a1) (sh := [.s (.u)]) E_alu_Csr_ok hmix Tryz.func196 (xs0 := [.s (.x false (.int .i64 a0)), .s (.u false a1)]) (by simp only [List.map_cons, List.map_nil, Dv.val, flat, (cI_ok h0).2, (cU_ok h1).2]) rfl (is_alu_Extend a0 a1) (fun xs => by kernel_rfl) h hn
  · cases h)
noncomputable def t_csr_Bit (a0 : St) (a1 : Int) (a2 : Int) : Tr := evF Tryz.prog E_alu_Extend 120 Tryz.f88 [.s (.S a0), .s (.x false (.int .i64 a1)), .s (.x false (.int .i64 a2))]
theorem is_csr_Bit (a0 : St) (a1 : Int) (a2 : Int) : (t_csr_Bit a0 a1 a2).is [.s (.b)] = true := by kernel_rfl
noncomputable def s_csr_Bit (args : List Dv) : Option (Bool × AV) :=
  match args with
  | [.s c0, .s c1, .s c2] => (cS c0).bind fun a0 => (cI .i64 c1).bind fun a1 => (cI .i64 c2).bind fun a2 => told (t_csr_Bit a0 a1 a2) [.s (.b)]
  | _ => none
noncomputable def E_csr_Bit : Env := E_alu_Extend.add 88 s_csr_Bit
theorem E_csr_Bit_ok : EnvOk Tryz.prog E_csr_Bit := E_alu_Extend_ok.add _ _ (by
  intro args n av h hn
  unfold s_csr_Bit at h
  split at h
  · rename_i c0 c1 c2
    obtain ⟨a0, h0, h⟩ := bind_some h
    obtain ⟨a1, h1, h⟩ := bind_some h
    obtain ⟨a2, h2, h⟩ := bind_some h
    exact told_ok (n := 120) (t := t_csr_Bit a0 a1 a2) (sh := [.s (.b)]) E_alu_Extend_ok hmix Tryz.func88 (xs0 := [.s (.S a0), .s (.x false (.int .i64 a1)), .s (.x false (.int .i64 a2))]) (by simp only [List.map_cons, List.map_nil, Dv.val, flat, (cS_ok h0).2, (cI_ok h1).2, (cI_ok h2).2]) rfl (is_csr_Bit a0 a1 a2) (fun xs => by kernel_rfl) h hn
  · cases h)
noncomputable def t_csr_Put (a0 : St) (a1 : Int) (a2 : Int) (a3 : Bool) : Tr := evF Tryz.prog E_csr_Bit 120 Tryz.f133 [.s (.S a0), .s (.x false (.int .i64 a1)), .s (.x false (.int .i64 a2)), .s (.x false (.bool a3))]
theorem is_csr_Put (a0 : St) (a1 : Int) (a2 : Int) (a3 : Bool) : (t_csr_Put a0 a1 a2 a3).is [.s .S] = true := by kernel_rfl
noncomputable def s_csr_Put (args : List Dv) : Option (Bool × AV) :=
  match args with
  | [.s c0, .s c1, .s c2, .s c3] => (cS c0).bind fun a0 => (cI .i64 c1).bind fun a1 => (cI .i64 c2).bind fun a2 => (cB c3).bind fun a3 => told (t_csr_Put a0 a1 a2 a3) [.s .S]
  | _ => none
noncomputable def E_csr_Put : Env := E_csr_Bit.add 133 s_csr_Put
theorem E_csr_Put_ok : EnvOk Tryz.prog E_csr_Put := E_csr_Bit_ok.add _ _ (by
  intro args n av h hn
  unfold s_csr_Put at h
  split at h
  · rename_i c0 c1 c2 c3
    obtain ⟨a0, h0, h⟩ := bind_some h
    obtain ⟨a1, h1, h⟩ := bind_some h
    obtain ⟨a2, h2, h⟩ := bind_some h
    obtain ⟨a3, h3, h⟩ := bind_some h
    exact told_ok (n := 120) (t := t_csr_Put a0 a1 a2 a3) (sh := [.s .S]) E_csr_Bit_ok hmix Tryz.func133 (xs0 := [.s (.S a0), .s (.x false (.int .i64 a1)), .s (.x false (.int .i64 a2)), .s (.x false (.bool a3))]) (by simp only [List.map_cons, List.map_nil, Dv.val, flat, (cS_ok h0).2, (cI_ok h1).2, (cI_ok h2).2, (cB_ok h3).2]) rfl (is_csr_Put a0 a1 a2 a3) (fun xs => by kernel_rfl) h hn
  · cases h)
noncomputable def t_csr_With (a0 : St) (a1 : Int) (a2 : BitVec 64) (a3 : BitVec 64) : Tr := evF Tryz.prog E_csr_Put 120 Tryz.f56 [.s (.S a0), .s (.x false (.int .i64 a1)), .s (.u false a2), .s (.u false a3)]
theorem is_csr_With (a0 : St) (a1 : Int) (a2 : BitVec 64) (a3 : BitVec 64) : (t_csr_With a0 a1 a2 a3).is [.s .S] = true := by kernel_rfl
noncomputable def s_csr_With (args : List Dv) : Option (Bool × AV) :=
  match args with
  | [.s c0, .s c1, .s c2, .s c3] => (cS c0).bind fun a0 => (cI .i64 c1).bind fun a1 => (cU c2).bind fun a2 => (cU c3).bind fun a3 => told (t_csr_With a0 a1 a2 a3) [.s .S]
  | _ => none
noncomputable def E_csr_With : Env := E_csr_Put.add 56 s_csr_With
theorem E_csr_With_ok : EnvOk Tryz.prog E_csr_With := E_csr_Put_ok.add _ _ (by
  intro args n av h hn
  unfold s_csr_With at h
  split at h
  · rename_i c0 c1 c2 c3
    obtain ⟨a0, h0, h⟩ := bind_some h
    obtain ⟨a1, h1, h⟩ := bind_some h
    obtain ⟨a2, h2, h⟩ := bind_some h
    obtain ⟨a3, h3, h⟩ := bind_some h
    exact told_ok (n := 120) (t := t_csr_With a0 a1 a2 a3) (sh := [.s .S]) E_csr_Put_ok hmix Tryz.func56 (xs0 := [.s (.S a0), .s (.x false (.int .i64 a1)), .s (.u false a2), .s (.u false a3)]) (by simp only [List.map_cons, List.map_nil, Dv.val, flat, (cS_ok h0).2, (cI_ok h1).2, (cU_ok h2).2, (cU_ok h3).2]) rfl (is_csr_With a0 a1 a2 a3) (fun xs => by kernel_rfl) h hn
  · cases h)
noncomputable def t_csr_Redirect (a0 : Int) : Tr := evF Tryz.prog E_csr_With 120 Tryz.f202 [.s (.x false (.int .i64 a0))]
theorem is_csr_Redirect (a0 : Int) : (t_csr_Redirect a0).is [.s (.i .i64)] = true := by kernel_rfl
noncomputable def s_csr_Redirect (args : List Dv) : Option (Bool × AV) :=
  match args with
  | [.s c0] => (cI .i64 c0).bind fun a0 => told (t_csr_Redirect a0) [.s (.i .i64)]
  | _ => none
noncomputable def E_csr_Redirect : Env := E_csr_With.add 202 s_csr_Redirect
theorem E_csr_Redirect_ok : EnvOk Tryz.prog E_csr_Redirect := E_csr_With_ok.add _ _ (by
  intro args n av h hn
  unfold s_csr_Redirect at h
  split at h
  · rename_i c0
    obtain ⟨a0, h0, h⟩ := bind_some h
    exact told_ok (n := 120) (t := t_csr_Redirect a0) (sh := [.s (.i .i64)]) E_csr_With_ok hmix Tryz.func202 (xs0 := [.s (.x false (.int .i64 a0))]) (by simp only [List.map_cons, List.map_nil, Dv.val, flat, (cI_ok h0).2]) rfl (is_csr_Redirect a0) (fun xs => by kernel_rfl) h hn
  · cases h)
noncomputable def FnBE : Env := E_csr_Redirect
theorem FnBE_ok : EnvOk Tryz.prog FnBE := E_csr_Redirect_ok
end Go.Proofs.YtfehilinnalflaaGreat
namespace Go.Proofs.YtfehilinnalflaaGreat
open Go.RowKit Go.BigFrame
set_option linter.unusedSimpArgs false
set_option linter.unusedVariables false
set_option maxRecDepth 100000
def natsOf : List Ch → Option (List Nat)
  | [] => some []
  | .x _ (.int .i64 n) :: cs => if 0 ≤ n ∧ n < 64 then (natsOf cs).map fun l => n.toNat :: l else none
  | _ :: _ => none
theorem natsOf_ok : ∀ (cs : List Ch) {l : List Nat}, natsOf cs = some l → flat cs = l.map (fun (k : Nat) => Value.int .i64 (k : Int)) ∧ ∀ k ∈ l, k < 64
  | [], l, h => by cases h; exact ⟨rfl, fun k hk => by cases hk⟩
  | c :: cs, l, h => by
    unfold natsOf at h
    split at h
    · rename_i e; cases e
    · rename_i st n cs' e
      cases e
      split at h
      · rename_i hn
        cases hr : natsOf cs with
        | none => rw [hr] at h; cases h
        | some l' =>
          rw [hr] at h; cases h
          obtain ⟨h1, h2⟩ := natsOf_ok cs hr
          have e : ((n.toNat : Nat) : Int) = n := by omega
          refine ⟨?_, fun k hk => ?_⟩
          · show Value.int .i64 n :: flat cs = Value.int .i64 ((n.toNat : Nat) : Int) :: _
            rw [h1, e]
          · rcases List.mem_cons.1 hk with rfl | hk
            · omega
            · exact h2 k hk
      · cases h
    · cases h
def s_one (ds : List Dv) (m : Nat) (cs : List Ch) : Option (Bool × AV) :=
  match ds with
  | [] => (natsOf cs).bind fun ks => if m = ks.length ∧ ks.length ≤ 64 then some (true, .d (.s (.u true (oneB ks)))) else none
  | _ => none
noncomputable def E_one : Env := FnBE.addL 120 s_one
theorem E_one_ok : EnvOk Tryz.prog E_one := FnBE_ok.addL _ _ (by
  intro ds m cs n av h hn
  unfold s_one at h
  split at h
  · cases hk : natsOf cs with
    | none => rw [hk] at h; cases h
    | some ks =>
      rw [hk] at h
      have h' : (if m = ks.length ∧ ks.length ≤ 64 then some (true, AV.d (.s (.u true (oneB ks)))) else none) = some (n, av) := h
      split at h'
      · rename_i hm; cases h'
        obtain ⟨rfl, hl⟩ := hm
        obtain ⟨h1, h2⟩ := natsOf_ok cs hk
        refine ⟨fun xs => by kernel_rfl, _, fun σ => rfl, fun w b T hb => ?_⟩
        refine (one_any b ks.length ks w (fun i k hi => ?_) hl).mono fun e w' ⟨he, hw⟩ => ⟨he, by rw [hw]; exact Below.refl _ _⟩
        refine ⟨?_, h2 k (List.mem_of_getElem? hi)⟩
        have : (flat cs)[i]? = some (.int .i64 (k : Int)) := by rw [h1, List.getElem?_map, hi]; rfl
        simp [World.cell?, hb, this]
      · cases h'
  · cases h)
noncomputable def FnCE : Env := E_one
theorem FnCE_ok : EnvOk Tryz.prog FnCE := E_one_ok
end Go.Proofs.YtfehilinnalflaaGreat
namespace Go.Proofs.YtfehilinnalflaaGreat
open Go.RowKit Go.BigFrame
set_option linter.unusedSimpArgs false
set_option linter.unusedVariables false
set_option maxRecDepth 100000
noncomputable def t_csr_guests  : Tr := evF Tryz.prog FnCE 120 Tryz.f121 []
theorem is_csr_guests  : (t_csr_guests ).is [.s (.u)] = true := by kernel_rfl
noncomputable def s_csr_guests (args : List Dv) : Option (Bool × AV) :=
  match args with
  | [] => told (t_csr_guests ) [.s (.u)]
  | _ => none
noncomputable def E_csr_guests : Env := FnCE.add 121 s_csr_guests
theorem E_csr_guests_ok : EnvOk Tryz.prog E_csr_guests := FnCE_ok.add _ _ (by
  intro args n av h hn
  unfold s_csr_guests at h
  split at h
  · skip
    exact told_ok (n := 120) (t := t_csr_guests ) (sh := [.s (.u)]) FnCE_ok hmix Tryz.func121 (xs0 := []) (by simp only [List.map_cons, List.map_nil, Dv.val, flat, ]) rfl (is_csr_guests ) (fun xs => by kernel_rfl) h hn
  · cases h)
noncomputable def t_csr_rows  : Tr := evF Tryz.prog E_csr_guests 120 Tryz.f80 []
theorem is_csr_rows  : (t_csr_rows ).is [.g [.i .i64, .u, .i .i64, .u, .i .i64, .u, .i .i64, .u, .i .i64, .u, .i .i64, .u, .i .i64, .u, .i .i64, .u, .i .i64, .u, .i .i64, .u, .i .i64, .u, .i .i64, .u, .i .i64, .u, .i .i64, .u, .i .i64, .u, .i .i64, .u, .i .i64, .u, .i .i64, .u, .i .i64, .u, .i .i64, .u, .i .i64, .u, .i .i64, .u, .i .i64, .u, .i .i64, .u, .i .i64, .u, .i .i64, .u, .i .i64, .u, .i .i64, .u, .i .i64, .u]] = true := by kernel_rfl
noncomputable def s_csr_rows (args : List Dv) : Option (Bool × AV) :=
  match args with
  | [] => told (t_csr_rows ) [.g [.i .i64, .u, .i .i64, .u, .i .i64, .u, .i .i64, .u, .i .i64, .u, .i .i64, .u, .i .i64, .u, .i .i64, .u, .i .i64, .u, .i .i64, .u, .i .i64, .u, .i .i64, .u, .i .i64, .u, .i .i64, .u, .i .i64, .u, .i .i64, .u, .i .i64, .u, .i .i64, .u, .i .i64, .u, .i .i64, .u, .i .i64, .u, .i .i64, .u, .i .i64, .u, .i .i64, .u, .i .i64, .u, .i .i64, .u, .i .i64, .u, .i .i64, .u, .i .i64, .u]]
  | _ => none
noncomputable def E_csr_rows : Env := E_csr_guests.add 80 s_csr_rows
theorem E_csr_rows_ok : EnvOk Tryz.prog E_csr_rows := E_csr_guests_ok.add _ _ (by
  intro args n av h hn
  unfold s_csr_rows at h
  split at h
  · skip
    exact told_ok (n := 120) (t := t_csr_rows ) (sh := [.g [.i .i64, .u, .i .i64, .u, .i .i64, .u, .i .i64, .u, .i .i64, .u, .i .i64, .u, .i .i64, .u, .i .i64, .u, .i .i64, .u, .i .i64, .u, .i .i64, .u, .i .i64, .u, .i .i64, .u, .i .i64, .u, .i .i64, .u, .i .i64, .u, .i .i64, .u, .i .i64, .u, .i .i64, .u, .i .i64, .u, .i .i64, .u, .i .i64, .u, .i .i64, .u, .i .i64, .u, .i .i64, .u, .i .i64, .u, .i .i64, .u, .i .i64, .u, .i .i64, .u]]) E_csr_guests_ok hmix Tryz.func80 (xs0 := []) (by simp only [List.map_cons, List.map_nil, Dv.val, flat, ]) rfl (is_csr_rows ) (fun xs => by kernel_rfl) h hn
  · cases h)
noncomputable def t_csr_Pending (a0 : St) (a1 : Bool) (a2 : Bool) : Tr := evF Tryz.prog E_csr_rows 120 Tryz.f130 [.s (.S a0), .s (.x false (.bool a1)), .s (.x false (.bool a2))]
theorem is_csr_Pending (a0 : St) (a1 : Bool) (a2 : Bool) : (t_csr_Pending a0 a1 a2).is [.s (.u)] = true := by kernel_rfl
noncomputable def s_csr_Pending (args : List Dv) : Option (Bool × AV) :=
  match args with
  | [.s c0, .s c1, .s c2] => (cS c0).bind fun a0 => (cB c1).bind fun a1 => (cB c2).bind fun a2 => told (t_csr_Pending a0 a1 a2) [.s (.u)]
  | _ => none
noncomputable def E_csr_Pending : Env := E_csr_rows.add 130 s_csr_Pending
theorem E_csr_Pending_ok : EnvOk Tryz.prog E_csr_Pending := E_csr_rows_ok.add _ _ (by
  intro args n av h hn
  unfold s_csr_Pending at h
  split at h
  · rename_i c0 c1 c2
    obtain ⟨a0, h0, h⟩ := bind_some h
    obtain ⟨a1, h1, h⟩ := bind_some h
    obtain ⟨a2, h2, h⟩ := bind_some h
    exact told_ok (n := 120) (t := t_csr_Pending a0 a1 a2) (sh := [.s (.u)]) E_csr_rows_ok hmix Tryz.func130 (xs0 := [.s (.S a0), .s (.x false (.bool a1)), .s (.x false (.bool a2))]) (by simp only [List.map_cons, List.map_nil, Dv.val, flat, (cS_ok h0).2, (cB_ok h1).2, (cB_ok h2).2]) rfl (is_csr_Pending a0 a1 a2) (fun xs => by kernel_rfl) h hn
  · cases h)
noncomputable def t_csr_Index (a0 : Int) : Tr := evF Tryz.prog E_csr_Pending 120 Tryz.f102 [.s (.x false (.int .i64 a0))]
theorem is_csr_Index (a0 : Int) : (t_csr_Index a0).is [.s (.i .i64)] = true := by kernel_rfl
noncomputable def s_csr_Index (args : List Dv) : Option (Bool × AV) :=
  match args with
  | [.s c0] => (cI .i64 c0).bind fun a0 => told (t_csr_Index a0) [.s (.i .i64)]
  | _ => none
noncomputable def E_csr_Index : Env := E_csr_Pending.add 102 s_csr_Index
theorem E_csr_Index_ok : EnvOk Tryz.prog E_csr_Index := E_csr_Pending_ok.add _ _ (by
  intro args n av h hn
  unfold s_csr_Index at h
  split at h
  · rename_i c0
    obtain ⟨a0, h0, h⟩ := bind_some h
    exact told_ok (n := 120) (t := t_csr_Index a0) (sh := [.s (.i .i64)]) E_csr_Pending_ok hmix Tryz.func102 (xs0 := [.s (.x false (.int .i64 a0))]) (by simp only [List.map_cons, List.map_nil, Dv.val, flat, (cI_ok h0).2]) rfl (is_csr_Index a0) (fun xs => by kernel_rfl) h hn
  · cases h)
noncomputable def t_csr_Is (a0 : Int) : Tr := evF Tryz.prog E_csr_Index 120 Tryz.f188 [.s (.x false (.int .i64 a0))]
theorem is_csr_Is (a0 : Int) : (t_csr_Is a0).is [.s (.b)] = true := by kernel_rfl
noncomputable def s_csr_Is (args : List Dv) : Option (Bool × AV) :=
  match args with
  | [.s c0] => (cI .i64 c0).bind fun a0 => told (t_csr_Is a0) [.s (.b)]
  | _ => none
noncomputable def E_csr_Is : Env := E_csr_Index.add 188 s_csr_Is
theorem E_csr_Is_ok : EnvOk Tryz.prog E_csr_Is := E_csr_Index_ok.add _ _ (by
  intro args n av h hn
  unfold s_csr_Is at h
  split at h
  · rename_i c0
    obtain ⟨a0, h0, h⟩ := bind_some h
    exact told_ok (n := 120) (t := t_csr_Is a0) (sh := [.s (.b)]) E_csr_Index_ok hmix Tryz.func188 (xs0 := [.s (.x false (.int .i64 a0))]) (by simp only [List.map_cons, List.map_nil, Dv.val, flat, (cI_ok h0).2]) rfl (is_csr_Is a0) (fun xs => by kernel_rfl) h hn
  · cases h)
noncomputable def FnDE : Env := E_csr_Is
theorem FnDE_ok : EnvOk Tryz.prog FnDE := E_csr_Is_ok
end Go.Proofs.YtfehilinnalflaaGreat
namespace Go.Proofs.YtfehilinnalflaaGreat
open Go.RowKit Go.BigFrame
set_option linter.unusedSimpArgs false
set_option linter.unusedVariables false
set_option maxRecDepth 100000
noncomputable def t_legal_because (a0 : Bool) (a1 : BitVec 64) : Tr := evF Tryz.prog FnDE 120 Tryz.f139 [.s (.x false (.bool a0)), .s (.u false a1)]
theorem is_legal_because (a0 : Bool) (a1 : BitVec 64) : (t_legal_because a0 a1).is [.s (.u), .s (.b)] = true := by kernel_rfl
noncomputable def s_legal_because (args : List Dv) : Option (Bool × AV) :=
  match args with
  | [.s c0, .s c1] => (cB c0).bind fun a0 => (cU c1).bind fun a1 => told (t_legal_because a0 a1) [.s (.u), .s (.b)]
  | _ => none
noncomputable def E_legal_because : Env := FnDE.add 139 s_legal_because
theorem E_legal_because_ok : EnvOk Tryz.prog E_legal_because := FnDE_ok.add _ _ (by
  intro args n av h hn
  unfold s_legal_because at h
  split at h
  · rename_i c0 c1
    obtain ⟨a0, h0, h⟩ := bind_some h
    obtain ⟨a1, h1, h⟩ := bind_some h
    exact told_ok (n := 120) (t := t_legal_because a0 a1) (sh := [.s (.u), .s (.b)]) FnDE_ok hmix Tryz.func139 (xs0 := [.s (.x false (.bool a0)), .s (.u false a1)]) (by simp only [List.map_cons, List.map_nil, Dv.val, flat, (cB_ok h0).2, (cU_ok h1).2]) rfl (is_legal_because a0 a1) (fun xs => by kernel_rfl) h hn
  · cases h)
noncomputable def t_legal_ask (a0 : Int) : Tr := evF Tryz.prog E_legal_because 120 Tryz.f190 [.s (.x false (.int .i64 a0))]
theorem is_legal_ask (a0 : Int) : (t_legal_ask a0).is [.s (.i .i64)] = true := by kernel_rfl
noncomputable def s_legal_ask (args : List Dv) : Option (Bool × AV) :=
  match args with
  | [.s c0] => (cI .i64 c0).bind fun a0 => told (t_legal_ask a0) [.s (.i .i64)]
  | _ => none
noncomputable def E_legal_ask : Env := E_legal_because.add 190 s_legal_ask
theorem E_legal_ask_ok : EnvOk Tryz.prog E_legal_ask := E_legal_because_ok.add _ _ (by
  intro args n av h hn
  unfold s_legal_ask at h
  split at h
  · rename_i c0
    obtain ⟨a0, h0, h⟩ := bind_some h
    exact told_ok (n := 120) (t := t_legal_ask a0) (sh := [.s (.i .i64)]) E_legal_because_ok hmix Tryz.func190 (xs0 := [.s (.x false (.int .i64 a0))]) (by simp only [List.map_cons, List.map_nil, Dv.val, flat, (cI_ok h0).2]) rfl (is_legal_ask a0) (fun xs => by kernel_rfl) h hn
  · cases h)
noncomputable def t_legal_Level (a0 : St) : Tr := evF Tryz.prog E_legal_ask 120 Tryz.f137 [.s (.S a0)]
theorem is_legal_Level (a0 : St) : (t_legal_Level a0).is [.s (.i .i64)] = true := by kernel_rfl
noncomputable def s_legal_Level (args : List Dv) : Option (Bool × AV) :=
  match args with
  | [.s c0] => (cS c0).bind fun a0 => told (t_legal_Level a0) [.s (.i .i64)]
  | _ => none
noncomputable def E_legal_Level : Env := E_legal_ask.add 137 s_legal_Level
theorem E_legal_Level_ok : EnvOk Tryz.prog E_legal_Level := E_legal_ask_ok.add _ _ (by
  intro args n av h hn
  unfold s_legal_Level at h
  split at h
  · rename_i c0
    obtain ⟨a0, h0, h⟩ := bind_some h
    exact told_ok (n := 120) (t := t_legal_Level a0) (sh := [.s (.i .i64)]) E_legal_ask_ok hmix Tryz.func137 (xs0 := [.s (.S a0)]) (by simp only [List.map_cons, List.map_nil, Dv.val, flat, (cS_ok h0).2]) rfl (is_legal_Level a0) (fun xs => by kernel_rfl) h hn
  · cases h)
noncomputable def t_legal_plain (a0 : St) (a1 : Int) (a2 : Int) (a3 : Int) : Tr := evF Tryz.prog E_legal_Level 120 Tryz.f140 [.s (.S a0), .s (.x false (.int .i64 a1)), .s (.x false (.int .i64 a2)), .s (.x false (.int .i64 a3))]
theorem is_legal_plain (a0 : St) (a1 : Int) (a2 : Int) (a3 : Int) : (t_legal_plain a0 a1 a2 a3).is [.s (.u), .s (.b)] = true := by kernel_rfl
noncomputable def s_legal_plain (args : List Dv) : Option (Bool × AV) :=
  match args with
  | [.s c0, .s c1, .s c2, .s c3] => (cS c0).bind fun a0 => (cI .i64 c1).bind fun a1 => (cI .i64 c2).bind fun a2 => (cI .i64 c3).bind fun a3 => told (t_legal_plain a0 a1 a2 a3) [.s (.u), .s (.b)]
  | _ => none
noncomputable def E_legal_plain : Env := E_legal_Level.add 140 s_legal_plain
theorem E_legal_plain_ok : EnvOk Tryz.prog E_legal_plain := E_legal_Level_ok.add _ _ (by
  intro args n av h hn
  unfold s_legal_plain at h
  split at h
  · rename_i c0 c1 c2 c3
    obtain ⟨a0, h0, h⟩ := bind_some h
    obtain ⟨a1, h1, h⟩ := bind_some h
    obtain ⟨a2, h2, h⟩ := bind_some h
    obtain ⟨a3, h3, h⟩ := bind_some h
    exact told_ok (n := 120) (t := t_legal_plain a0 a1 a2 a3) (sh := [.s (.u), .s (.b)]) E_legal_Level_ok hmix Tryz.func140 (xs0 := [.s (.S a0), .s (.x false (.int .i64 a1)), .s (.x false (.int .i64 a2)), .s (.x false (.int .i64 a3))]) (by simp only [List.map_cons, List.map_nil, Dv.val, flat, (cS_ok h0).2, (cI_ok h1).2, (cI_ok h2).2, (cI_ok h3).2]) rfl (is_legal_plain a0 a1 a2 a3) (fun xs => by kernel_rfl) h hn
  · cases h)
noncomputable def t_legal_wfi (a0 : St) (a1 : Int) : Tr := evF Tryz.prog E_legal_plain 120 Tryz.f141 [.s (.S a0), .s (.x false (.int .i64 a1))]
theorem is_legal_wfi (a0 : St) (a1 : Int) : (t_legal_wfi a0 a1).is [.s (.u), .s (.b)] = true := by kernel_rfl
noncomputable def s_legal_wfi (args : List Dv) : Option (Bool × AV) :=
  match args with
  | [.s c0, .s c1] => (cS c0).bind fun a0 => (cI .i64 c1).bind fun a1 => told (t_legal_wfi a0 a1) [.s (.u), .s (.b)]
  | _ => none
noncomputable def E_legal_wfi : Env := E_legal_plain.add 141 s_legal_wfi
theorem E_legal_wfi_ok : EnvOk Tryz.prog E_legal_wfi := E_legal_plain_ok.add _ _ (by
  intro args n av h hn
  unfold s_legal_wfi at h
  split at h
  · rename_i c0 c1
    obtain ⟨a0, h0, h⟩ := bind_some h
    obtain ⟨a1, h1, h⟩ := bind_some h
    exact told_ok (n := 120) (t := t_legal_wfi a0 a1) (sh := [.s (.u), .s (.b)]) E_legal_plain_ok hmix Tryz.func141 (xs0 := [.s (.S a0), .s (.x false (.int .i64 a1))]) (by simp only [List.map_cons, List.map_nil, Dv.val, flat, (cS_ok h0).2, (cI_ok h1).2]) rfl (is_legal_wfi a0 a1) (fun xs => by kernel_rfl) h hn
  · cases h)
noncomputable def t_legal_guests (a0 : St) (a1 : Int) (a2 : Int) : Tr := evF Tryz.prog E_legal_wfi 120 Tryz.f142 [.s (.S a0), .s (.x false (.int .i64 a1)), .s (.x false (.int .i64 a2))]
theorem is_legal_guests (a0 : St) (a1 : Int) (a2 : Int) : (t_legal_guests a0 a1 a2).is [.s (.u), .s (.b)] = true := by kernel_rfl
noncomputable def s_legal_guests (args : List Dv) : Option (Bool × AV) :=
  match args with
  | [.s c0, .s c1, .s c2] => (cS c0).bind fun a0 => (cI .i64 c1).bind fun a1 => (cI .i64 c2).bind fun a2 => told (t_legal_guests a0 a1 a2) [.s (.u), .s (.b)]
  | _ => none
noncomputable def E_legal_guests : Env := E_legal_wfi.add 142 s_legal_guests
theorem E_legal_guests_ok : EnvOk Tryz.prog E_legal_guests := E_legal_wfi_ok.add _ _ (by
  intro args n av h hn
  unfold s_legal_guests at h
  split at h
  · rename_i c0 c1 c2
    obtain ⟨a0, h0, h⟩ := bind_some h
    obtain ⟨a1, h1, h⟩ := bind_some h
    obtain ⟨a2, h2, h⟩ := bind_some h
    exact told_ok (n := 120) (t := t_legal_guests a0 a1 a2) (sh := [.s (.u), .s (.b)]) E_legal_wfi_ok hmix Tryz.func142 (xs0 := [.s (.S a0), .s (.x false (.int .i64 a1)), .s (.x false (.int .i64 a2))]) (by simp only [List.map_cons, List.map_nil, Dv.val, flat, (cS_ok h0).2, (cI_ok h1).2, (cI_ok h2).2]) rfl (is_legal_guests a0 a1 a2) (fun xs => by kernel_rfl) h hn
  · cases h)
noncomputable def t_legal_guestCsr (a0 : St) (a1 : Int) (a2 : Int) : Tr := evF Tryz.prog E_legal_guests 120 Tryz.f189 [.s (.S a0), .s (.x false (.int .i64 a1)), .s (.x false (.int .i64 a2))]
theorem is_legal_guestCsr (a0 : St) (a1 : Int) (a2 : Int) : (t_legal_guestCsr a0 a1 a2).is [.s (.u), .s (.b)] = true := by kernel_rfl
noncomputable def s_legal_guestCsr (args : List Dv) : Option (Bool × AV) :=
  match args with
  | [.s c0, .s c1, .s c2] => (cS c0).bind fun a0 => (cI .i64 c1).bind fun a1 => (cI .i64 c2).bind fun a2 => told (t_legal_guestCsr a0 a1 a2) [.s (.u), .s (.b)]
  | _ => none
noncomputable def E_legal_guestCsr : Env := E_legal_guests.add 189 s_legal_guestCsr
theorem E_legal_guestCsr_ok : EnvOk Tryz.prog E_legal_guestCsr := E_legal_guests_ok.add _ _ (by
  intro args n av h hn
  unfold s_legal_guestCsr at h
  split at h
  · rename_i c0 c1 c2
    obtain ⟨a0, h0, h⟩ := bind_some h
    obtain ⟨a1, h1, h⟩ := bind_some h
    obtain ⟨a2, h2, h⟩ := bind_some h
    exact told_ok (n := 120) (t := t_legal_guestCsr a0 a1 a2) (sh := [.s (.u), .s (.b)]) E_legal_guests_ok hmix Tryz.func189 (xs0 := [.s (.S a0), .s (.x false (.int .i64 a1)), .s (.x false (.int .i64 a2))]) (by simp only [List.map_cons, List.map_nil, Dv.val, flat, (cS_ok h0).2, (cI_ok h1).2, (cI_ok h2).2]) rfl (is_legal_guestCsr a0 a1 a2) (fun xs => by kernel_rfl) h hn
  · cases h)
noncomputable def t_legal_Writes (a0 : Int) (a1 : Int) (a2 : Int) (a3 : Int) (a4 : Int) (a5 : Int) : Tr := evF Tryz.prog E_legal_guestCsr 120 Tryz.f100 [.g [.x false (.int .i64 a0), .x false (.int .i64 a1), .x false (.int .i64 a2), .x false (.int .i64 a3), .x false (.int .i64 a4), .x false (.int .i64 a5)]]
theorem is_legal_Writes (a0 : Int) (a1 : Int) (a2 : Int) (a3 : Int) (a4 : Int) (a5 : Int) : (t_legal_Writes a0 a1 a2 a3 a4 a5).is [.s (.b)] = true := by kernel_rfl
noncomputable def s_legal_Writes (args : List Dv) : Option (Bool × AV) :=
  match args with
  | [.g [c0, c1, c2, c3, c4, c5]] => (cI .i64 c0).bind fun a0 => (cI .i64 c1).bind fun a1 => (cI .i64 c2).bind fun a2 => (cI .i64 c3).bind fun a3 => (cI .i64 c4).bind fun a4 => (cI .i64 c5).bind fun a5 => told (t_legal_Writes a0 a1 a2 a3 a4 a5) [.s (.b)]
  | _ => none
noncomputable def E_legal_Writes : Env := E_legal_guestCsr.add 100 s_legal_Writes
theorem E_legal_Writes_ok : EnvOk Tryz.prog E_legal_Writes := E_legal_guestCsr_ok.add _ _ (by
  intro args n av h hn
  unfold s_legal_Writes at h
  split at h
  · rename_i c0 c1 c2 c3 c4 c5
    obtain ⟨a0, h0, h⟩ := bind_some h
    obtain ⟨a1, h1, h⟩ := bind_some h
    obtain ⟨a2, h2, h⟩ := bind_some h
    obtain ⟨a3, h3, h⟩ := bind_some h
    obtain ⟨a4, h4, h⟩ := bind_some h
    obtain ⟨a5, h5, h⟩ := bind_some h
    exact told_ok (n := 120) (t := t_legal_Writes a0 a1 a2 a3 a4 a5) (sh := [.s (.b)]) E_legal_guestCsr_ok hmix Tryz.func100 (xs0 := [.g [.x false (.int .i64 a0), .x false (.int .i64 a1), .x false (.int .i64 a2), .x false (.int .i64 a3), .x false (.int .i64 a4), .x false (.int .i64 a5)]]) (by simp only [List.map_cons, List.map_nil, Dv.val, flat, (cI_ok h0).1, (cI_ok h1).1, (cI_ok h2).1, (cI_ok h3).1, (cI_ok h4).1, (cI_ok h5).1]) rfl (is_legal_Writes a0 a1 a2 a3 a4 a5) (fun xs => by kernel_rfl) h hn
  · cases h)
noncomputable def t_legal_Csr (a0 : St) (a1 : Int) (a2 : Bool) : Tr := evF Tryz.prog E_legal_Writes 120 Tryz.f138 [.s (.S a0), .s (.x false (.int .i64 a1)), .s (.x false (.bool a2))]
theorem is_legal_Csr (a0 : St) (a1 : Int) (a2 : Bool) : (t_legal_Csr a0 a1 a2).is [.s (.u), .s (.b)] = true := by kernel_rfl
noncomputable def s_legal_Csr (args : List Dv) : Option (Bool × AV) :=
  match args with
  | [.s c0, .s c1, .s c2] => (cS c0).bind fun a0 => (cI .i64 c1).bind fun a1 => (cB c2).bind fun a2 => told (t_legal_Csr a0 a1 a2) [.s (.u), .s (.b)]
  | _ => none
noncomputable def E_legal_Csr : Env := E_legal_Writes.add 138 s_legal_Csr
theorem E_legal_Csr_ok : EnvOk Tryz.prog E_legal_Csr := E_legal_Writes_ok.add _ _ (by
  intro args n av h hn
  unfold s_legal_Csr at h
  split at h
  · rename_i c0 c1 c2
    obtain ⟨a0, h0, h⟩ := bind_some h
    obtain ⟨a1, h1, h⟩ := bind_some h
    obtain ⟨a2, h2, h⟩ := bind_some h
    exact told_ok (n := 120) (t := t_legal_Csr a0 a1 a2) (sh := [.s (.u), .s (.b)]) E_legal_Writes_ok hmix Tryz.func138 (xs0 := [.s (.S a0), .s (.x false (.int .i64 a1)), .s (.x false (.bool a2))]) (by simp only [List.map_cons, List.map_nil, Dv.val, flat, (cS_ok h0).2, (cI_ok h1).2, (cB_ok h2).2]) rfl (is_legal_Csr a0 a1 a2) (fun xs => by kernel_rfl) h hn
  · cases h)
noncomputable def t_legal_Insn (a0 : St) (a1 : Int) (a2 : Int) (a3 : Int) (a4 : Int) (a5 : Int) (a6 : Int) : Tr := evF Tryz.prog E_legal_Csr 120 Tryz.f93 [.s (.S a0), .g [.x false (.int .i64 a1), .x false (.int .i64 a2), .x false (.int .i64 a3), .x false (.int .i64 a4), .x false (.int .i64 a5), .x false (.int .i64 a6)]]
theorem is_legal_Insn (a0 : St) (a1 : Int) (a2 : Int) (a3 : Int) (a4 : Int) (a5 : Int) (a6 : Int) : (t_legal_Insn a0 a1 a2 a3 a4 a5 a6).is [.s (.u), .s (.b)] = true := by kernel_rfl
noncomputable def s_legal_Insn (args : List Dv) : Option (Bool × AV) :=
  match args with
  | [.s c0, .g [c1, c2, c3, c4, c5, c6]] => (cS c0).bind fun a0 => (cI .i64 c1).bind fun a1 => (cI .i64 c2).bind fun a2 => (cI .i64 c3).bind fun a3 => (cI .i64 c4).bind fun a4 => (cI .i64 c5).bind fun a5 => (cI .i64 c6).bind fun a6 => told (t_legal_Insn a0 a1 a2 a3 a4 a5 a6) [.s (.u), .s (.b)]
  | _ => none
noncomputable def E_legal_Insn : Env := E_legal_Csr.add 93 s_legal_Insn
theorem E_legal_Insn_ok : EnvOk Tryz.prog E_legal_Insn := E_legal_Csr_ok.add _ _ (by
  intro args n av h hn
  unfold s_legal_Insn at h
  split at h
  · rename_i c0 c1 c2 c3 c4 c5 c6
    obtain ⟨a0, h0, h⟩ := bind_some h
    obtain ⟨a1, h1, h⟩ := bind_some h
    obtain ⟨a2, h2, h⟩ := bind_some h
    obtain ⟨a3, h3, h⟩ := bind_some h
    obtain ⟨a4, h4, h⟩ := bind_some h
    obtain ⟨a5, h5, h⟩ := bind_some h
    obtain ⟨a6, h6, h⟩ := bind_some h
    exact told_ok (n := 120) (t := t_legal_Insn a0 a1 a2 a3 a4 a5 a6) (sh := [.s (.u), .s (.b)]) E_legal_Csr_ok hmix Tryz.func93 (xs0 := [.s (.S a0), .g [.x false (.int .i64 a1), .x false (.int .i64 a2), .x false (.int .i64 a3), .x false (.int .i64 a4), .x false (.int .i64 a5), .x false (.int .i64 a6)]]) (by simp only [List.map_cons, List.map_nil, Dv.val, flat, (cS_ok h0).2, (cI_ok h1).1, (cI_ok h2).1, (cI_ok h3).1, (cI_ok h4).1, (cI_ok h5).1, (cI_ok h6).1]) rfl (is_legal_Insn a0 a1 a2 a3 a4 a5 a6) (fun xs => by kernel_rfl) h hn
  · cases h)
noncomputable def FnEE : Env := E_legal_Insn
theorem FnEE_ok : EnvOk Tryz.prog FnEE := E_legal_Insn_ok
end Go.Proofs.YtfehilinnalflaaGreat
namespace Go.Proofs.YtfehilinnalflaaGreat
open Go.RowKit Go.BigFrame
set_option linter.unusedSimpArgs false
set_option linter.unusedVariables false
set_option maxRecDepth 100000
noncomputable def t_route_has (a0 : St) (a1 : Int) (a2 : BitVec 64) : Tr := evF Tryz.prog FnEE 120 Tryz.f136 [.s (.S a0), .s (.x false (.int .i64 a1)), .s (.u false a2)]
theorem is_route_has (a0 : St) (a1 : Int) (a2 : BitVec 64) : (t_route_has a0 a1 a2).is [.s (.b)] = true := by kernel_rfl
noncomputable def s_route_has (args : List Dv) : Option (Bool × AV) :=
  match args with
  | [.s c0, .s c1, .s c2] => (cS c0).bind fun a0 => (cI .i64 c1).bind fun a1 => (cU c2).bind fun a2 => told (t_route_has a0 a1 a2) [.s (.b)]
  | _ => none
noncomputable def E_route_has : Env := FnEE.add 136 s_route_has
theorem E_route_has_ok : EnvOk Tryz.prog E_route_has := FnEE_ok.add _ _ (by
  intro args n av h hn
  unfold s_route_has at h
  split at h
  · rename_i c0 c1 c2
    obtain ⟨a0, h0, h⟩ := bind_some h
    obtain ⟨a1, h1, h⟩ := bind_some h
    obtain ⟨a2, h2, h⟩ := bind_some h
    exact told_ok (n := 120) (t := t_route_has a0 a1 a2) (sh := [.s (.b)]) FnEE_ok hmix Tryz.func136 (xs0 := [.s (.S a0), .s (.x false (.int .i64 a1)), .s (.u false a2)]) (by simp only [List.map_cons, List.map_nil, Dv.val, flat, (cS_ok h0).2, (cI_ok h1).2, (cU_ok h2).2]) rfl (is_route_has a0 a1 a2) (fun xs => by kernel_rfl) h hn
  · cases h)
noncomputable def t_route_Exception (a0 : St) (a1 : BitVec 64) : Tr := evF Tryz.prog E_route_has 120 Tryz.f92 [.s (.S a0), .s (.u false a1)]
theorem is_route_Exception (a0 : St) (a1 : BitVec 64) : (t_route_Exception a0 a1).is [.s (.i .i64), .s (.b)] = true := by kernel_rfl
noncomputable def s_route_Exception (args : List Dv) : Option (Bool × AV) :=
  match args with
  | [.s c0, .s c1] => (cS c0).bind fun a0 => (cU c1).bind fun a1 => told (t_route_Exception a0 a1) [.s (.i .i64), .s (.b)]
  | _ => none
noncomputable def E_route_Exception : Env := E_route_has.add 92 s_route_Exception
theorem E_route_Exception_ok : EnvOk Tryz.prog E_route_Exception := E_route_has_ok.add _ _ (by
  intro args n av h hn
  unfold s_route_Exception at h
  split at h
  · rename_i c0 c1
    obtain ⟨a0, h0, h⟩ := bind_some h
    obtain ⟨a1, h1, h⟩ := bind_some h
    exact told_ok (n := 120) (t := t_route_Exception a0 a1) (sh := [.s (.i .i64), .s (.b)]) E_route_has_ok hmix Tryz.func92 (xs0 := [.s (.S a0), .s (.u false a1)]) (by simp only [List.map_cons, List.map_nil, Dv.val, flat, (cS_ok h0).2, (cU_ok h1).2]) rfl (is_route_Exception a0 a1) (fun xs => by kernel_rfl) h hn
  · cases h)
noncomputable def t_route_Enabled (a0 : St) (a1 : Bool) (a2 : Bool) : Tr := evF Tryz.prog E_route_Exception 120 Tryz.f86 [.s (.S a0), .s (.x false (.bool a1)), .s (.x false (.bool a2))]
theorem is_route_Enabled (a0 : St) (a1 : Bool) (a2 : Bool) : (t_route_Enabled a0 a1 a2).is [.s (.u)] = true := by kernel_rfl
noncomputable def s_route_Enabled (args : List Dv) : Option (Bool × AV) :=
  match args with
  | [.s c0, .s c1, .s c2] => (cS c0).bind fun a0 => (cB c1).bind fun a1 => (cB c2).bind fun a2 => told (t_route_Enabled a0 a1 a2) [.s (.u)]
  | _ => none
noncomputable def E_route_Enabled : Env := E_route_Exception.add 86 s_route_Enabled
theorem E_route_Enabled_ok : EnvOk Tryz.prog E_route_Enabled := E_route_Exception_ok.add _ _ (by
  intro args n av h hn
  unfold s_route_Enabled at h
  split at h
  · rename_i c0 c1 c2
    obtain ⟨a0, h0, h⟩ := bind_some h
    obtain ⟨a1, h1, h⟩ := bind_some h
    obtain ⟨a2, h2, h⟩ := bind_some h
    exact told_ok (n := 120) (t := t_route_Enabled a0 a1 a2) (sh := [.s (.u)]) E_route_Exception_ok hmix Tryz.func86 (xs0 := [.s (.S a0), .s (.x false (.bool a1)), .s (.x false (.bool a2))]) (by simp only [List.map_cons, List.map_nil, Dv.val, flat, (cS_ok h0).2, (cB_ok h1).2, (cB_ok h2).2]) rfl (is_route_Enabled a0 a1 a2) (fun xs => by kernel_rfl) h hn
  · cases h)
noncomputable def t_route_turns  : Tr := evF Tryz.prog E_route_Enabled 120 Tryz.f87 []
theorem is_route_turns  : (t_route_turns ).is [.g [.i .i64, .i .i64, .b, .i .i64, .b, .i .i64, .i .i64, .b, .i .i64, .b, .i .i64, .i .i64, .b, .i .i64, .b, .i .i64, .i .i64, .b, .i .i64, .b, .i .i64, .i .i64, .b, .i .i64, .b, .i .i64, .i .i64, .b, .i .i64, .b, .i .i64, .i .i64, .b, .i .i64, .b, .i .i64, .i .i64, .b, .i .i64, .b]] = true := by kernel_rfl
noncomputable def s_route_turns (args : List Dv) : Option (Bool × AV) :=
  match args with
  | [] => told (t_route_turns ) [.g [.i .i64, .i .i64, .b, .i .i64, .b, .i .i64, .i .i64, .b, .i .i64, .b, .i .i64, .i .i64, .b, .i .i64, .b, .i .i64, .i .i64, .b, .i .i64, .b, .i .i64, .i .i64, .b, .i .i64, .b, .i .i64, .i .i64, .b, .i .i64, .b, .i .i64, .i .i64, .b, .i .i64, .b, .i .i64, .i .i64, .b, .i .i64, .b]]
  | _ => none
noncomputable def E_route_turns : Env := E_route_Enabled.add 87 s_route_turns
theorem E_route_turns_ok : EnvOk Tryz.prog E_route_turns := E_route_Enabled_ok.add _ _ (by
  intro args n av h hn
  unfold s_route_turns at h
  split at h
  · skip
    exact told_ok (n := 120) (t := t_route_turns ) (sh := [.g [.i .i64, .i .i64, .b, .i .i64, .b, .i .i64, .i .i64, .b, .i .i64, .b, .i .i64, .i .i64, .b, .i .i64, .b, .i .i64, .i .i64, .b, .i .i64, .b, .i .i64, .i .i64, .b, .i .i64, .b, .i .i64, .i .i64, .b, .i .i64, .b, .i .i64, .i .i64, .b, .i .i64, .b, .i .i64, .i .i64, .b, .i .i64, .b]]) E_route_Enabled_ok hmix Tryz.func87 (xs0 := []) (by simp only [List.map_cons, List.map_nil, Dv.val, flat, ]) rfl (is_route_turns ) (fun xs => by kernel_rfl) h hn
  · cases h)
noncomputable def t_route_open (a0 : St) (a1 : Int) (a2 : Int) (a3 : Bool) (a4 : Int) (a5 : Bool) : Tr := evF Tryz.prog E_route_turns 120 Tryz.f89 [.s (.S a0), .g [.x false (.int .i64 a1), .x false (.int .i64 a2), .x false (.bool a3), .x false (.int .i64 a4), .x false (.bool a5)]]
theorem is_route_open (a0 : St) (a1 : Int) (a2 : Int) (a3 : Bool) (a4 : Int) (a5 : Bool) : (t_route_open a0 a1 a2 a3 a4 a5).is [.s (.b)] = true := by kernel_rfl
noncomputable def s_route_open (args : List Dv) : Option (Bool × AV) :=
  match args with
  | [.s c0, .g [c1, c2, c3, c4, c5]] => (cS c0).bind fun a0 => (cI .i64 c1).bind fun a1 => (cI .i64 c2).bind fun a2 => (cB c3).bind fun a3 => (cI .i64 c4).bind fun a4 => (cB c5).bind fun a5 => told (t_route_open a0 a1 a2 a3 a4 a5) [.s (.b)]
  | _ => none
noncomputable def E_route_open : Env := E_route_turns.add 89 s_route_open
theorem E_route_open_ok : EnvOk Tryz.prog E_route_open := E_route_turns_ok.add _ _ (by
  intro args n av h hn
  unfold s_route_open at h
  split at h
  · rename_i c0 c1 c2 c3 c4 c5
    obtain ⟨a0, h0, h⟩ := bind_some h
    obtain ⟨a1, h1, h⟩ := bind_some h
    obtain ⟨a2, h2, h⟩ := bind_some h
    obtain ⟨a3, h3, h⟩ := bind_some h
    obtain ⟨a4, h4, h⟩ := bind_some h
    obtain ⟨a5, h5, h⟩ := bind_some h
    exact told_ok (n := 120) (t := t_route_open a0 a1 a2 a3 a4 a5) (sh := [.s (.b)]) E_route_turns_ok hmix Tryz.func89 (xs0 := [.s (.S a0), .g [.x false (.int .i64 a1), .x false (.int .i64 a2), .x false (.bool a3), .x false (.int .i64 a4), .x false (.bool a5)]]) (by simp only [List.map_cons, List.map_nil, Dv.val, flat, (cS_ok h0).2, (cI_ok h1).1, (cI_ok h2).1, (cB_ok h3).1, (cI_ok h4).1, (cB_ok h5).1]) rfl (is_route_open a0 a1 a2 a3 a4 a5) (fun xs => by kernel_rfl) h hn
  · cases h)
noncomputable def t_trap_kept_enter (a0 : Int) (a1 : Int) (a2 : Int) (a3 : St) : Tr := evF Tryz.prog E_route_open 120 Tryz.f134 [.g [.x false (.int .i64 a0), .x false (.int .i64 a1), .x false (.int .i64 a2)], .s (.S a3)]
theorem is_trap_kept_enter (a0 : Int) (a1 : Int) (a2 : Int) (a3 : St) : (t_trap_kept_enter a0 a1 a2 a3).is [.s .S] = true := by kernel_rfl
noncomputable def s_trap_kept_enter (args : List Dv) : Option (Bool × AV) :=
  match args with
  | [.g [c0, c1, c2], .s c3] => (cI .i64 c0).bind fun a0 => (cI .i64 c1).bind fun a1 => (cI .i64 c2).bind fun a2 => (cS c3).bind fun a3 => told (t_trap_kept_enter a0 a1 a2 a3) [.s .S]
  | _ => none
noncomputable def E_trap_kept_enter : Env := E_route_open.add 134 s_trap_kept_enter
theorem E_trap_kept_enter_ok : EnvOk Tryz.prog E_trap_kept_enter := E_route_open_ok.add _ _ (by
  intro args n av h hn
  unfold s_trap_kept_enter at h
  split at h
  · rename_i c0 c1 c2 c3
    obtain ⟨a0, h0, h⟩ := bind_some h
    obtain ⟨a1, h1, h⟩ := bind_some h
    obtain ⟨a2, h2, h⟩ := bind_some h
    obtain ⟨a3, h3, h⟩ := bind_some h
    exact told_ok (n := 120) (t := t_trap_kept_enter a0 a1 a2 a3) (sh := [.s .S]) E_route_open_ok hmix Tryz.func134 (xs0 := [.g [.x false (.int .i64 a0), .x false (.int .i64 a1), .x false (.int .i64 a2)], .s (.S a3)]) (by simp only [List.map_cons, List.map_nil, Dv.val, flat, (cI_ok h0).1, (cI_ok h1).1, (cI_ok h2).1, (cS_ok h3).2]) rfl (is_trap_kept_enter a0 a1 a2 a3) (fun xs => by kernel_rfl) h hn
  · cases h)
noncomputable def t_trap_kept_back (a0 : Int) (a1 : Int) (a2 : Int) (a3 : St) : Tr := evF Tryz.prog E_trap_kept_enter 120 Tryz.f226 [.g [.x false (.int .i64 a0), .x false (.int .i64 a1), .x false (.int .i64 a2)], .s (.S a3)]
theorem is_trap_kept_back (a0 : Int) (a1 : Int) (a2 : Int) (a3 : St) : (t_trap_kept_back a0 a1 a2 a3).is [.s .S] = true := by kernel_rfl
noncomputable def s_trap_kept_back (args : List Dv) : Option (Bool × AV) :=
  match args with
  | [.g [c0, c1, c2], .s c3] => (cI .i64 c0).bind fun a0 => (cI .i64 c1).bind fun a1 => (cI .i64 c2).bind fun a2 => (cS c3).bind fun a3 => told (t_trap_kept_back a0 a1 a2 a3) [.s .S]
  | _ => none
noncomputable def E_trap_kept_back : Env := E_trap_kept_enter.add 226 s_trap_kept_back
theorem E_trap_kept_back_ok : EnvOk Tryz.prog E_trap_kept_back := E_trap_kept_enter_ok.add _ _ (by
  intro args n av h hn
  unfold s_trap_kept_back at h
  split at h
  · rename_i c0 c1 c2 c3
    obtain ⟨a0, h0, h⟩ := bind_some h
    obtain ⟨a1, h1, h⟩ := bind_some h
    obtain ⟨a2, h2, h⟩ := bind_some h
    obtain ⟨a3, h3, h⟩ := bind_some h
    exact told_ok (n := 120) (t := t_trap_kept_back a0 a1 a2 a3) (sh := [.s .S]) E_trap_kept_enter_ok hmix Tryz.func226 (xs0 := [.g [.x false (.int .i64 a0), .x false (.int .i64 a1), .x false (.int .i64 a2)], .s (.S a3)]) (by simp only [List.map_cons, List.map_nil, Dv.val, flat, (cI_ok h0).1, (cI_ok h1).1, (cI_ok h2).1, (cS_ok h3).2]) rfl (is_trap_kept_back a0 a1 a2 a3) (fun xs => by kernel_rfl) h hn
  · cases h)
noncomputable def t_trap_lower (a0 : St) (a1 : Int) (a2 : Int) : Tr := evF Tryz.prog E_trap_kept_back 120 Tryz.f135 [.s (.S a0), .s (.x false (.int .i64 a1)), .s (.x false (.int .i64 a2))]
theorem is_trap_lower (a0 : St) (a1 : Int) (a2 : Int) : (t_trap_lower a0 a1 a2).is [.s .S] = true := by kernel_rfl
noncomputable def s_trap_lower (args : List Dv) : Option (Bool × AV) :=
  match args with
  | [.s c0, .s c1, .s c2] => (cS c0).bind fun a0 => (cI .i64 c1).bind fun a1 => (cI .i64 c2).bind fun a2 => told (t_trap_lower a0 a1 a2) [.s .S]
  | _ => none
noncomputable def E_trap_lower : Env := E_trap_kept_back.add 135 s_trap_lower
theorem E_trap_lower_ok : EnvOk Tryz.prog E_trap_lower := E_trap_kept_back_ok.add _ _ (by
  intro args n av h hn
  unfold s_trap_lower at h
  split at h
  · rename_i c0 c1 c2
    obtain ⟨a0, h0, h⟩ := bind_some h
    obtain ⟨a1, h1, h⟩ := bind_some h
    obtain ⟨a2, h2, h⟩ := bind_some h
    exact told_ok (n := 120) (t := t_trap_lower a0 a1 a2) (sh := [.s .S]) E_trap_kept_back_ok hmix Tryz.func135 (xs0 := [.s (.S a0), .s (.x false (.int .i64 a1)), .s (.x false (.int .i64 a2))]) (by simp only [List.map_cons, List.map_nil, Dv.val, flat, (cS_ok h0).2, (cI_ok h1).2, (cI_ok h2).2]) rfl (is_trap_lower a0 a1 a2) (fun xs => by kernel_rfl) h hn
  · cases h)
noncomputable def t_access_cause (a0 : Int) (a1 : BitVec 64) (a2 : BitVec 64) (a3 : BitVec 64) : Tr := evF Tryz.prog E_trap_lower 120 Tryz.f158 [.s (.x false (.int .i64 a0)), .g [.u false a1, .u false a2, .u false a3]]
theorem is_access_cause (a0 : Int) (a1 : BitVec 64) (a2 : BitVec 64) (a3 : BitVec 64) : (t_access_cause a0 a1 a2 a3).is [.s (.u)] = true := by kernel_rfl
noncomputable def s_access_cause (args : List Dv) : Option (Bool × AV) :=
  match args with
  | [.s c0, .g [c1, c2, c3]] => (cI .i64 c0).bind fun a0 => (cU c1).bind fun a1 => (cU c2).bind fun a2 => (cU c3).bind fun a3 => told (t_access_cause a0 a1 a2 a3) [.s (.u)]
  | _ => none
noncomputable def E_access_cause : Env := E_trap_lower.add 158 s_access_cause
theorem E_access_cause_ok : EnvOk Tryz.prog E_access_cause := E_trap_lower_ok.add _ _ (by
  intro args n av h hn
  unfold s_access_cause at h
  split at h
  · rename_i c0 c1 c2 c3
    obtain ⟨a0, h0, h⟩ := bind_some h
    obtain ⟨a1, h1, h⟩ := bind_some h
    obtain ⟨a2, h2, h⟩ := bind_some h
    obtain ⟨a3, h3, h⟩ := bind_some h
    exact told_ok (n := 120) (t := t_access_cause a0 a1 a2 a3) (sh := [.s (.u)]) E_trap_lower_ok hmix Tryz.func158 (xs0 := [.s (.x false (.int .i64 a0)), .g [.u false a1, .u false a2, .u false a3]]) (by simp only [List.map_cons, List.map_nil, Dv.val, flat, (cI_ok h0).2, (cU_ok h1).1, (cU_ok h2).1, (cU_ok h3).1]) rfl (is_access_cause a0 a1 a2 a3) (fun xs => by kernel_rfl) h hn
  · cases h)
noncomputable def t_access_Bad (a0 : BitVec 64) (a1 : Int) (a2 : Bool) : Tr := evF Tryz.prog E_access_cause 120 Tryz.f114 [.s (.u false a0), .s (.x false (.int .i64 a1)), .s (.x false (.bool a2))]
theorem is_access_Bad (a0 : BitVec 64) (a1 : Int) (a2 : Bool) : (t_access_Bad a0 a1 a2).is [.g [.u, .u, .u, .b]] = true := by kernel_rfl
noncomputable def s_access_Bad (args : List Dv) : Option (Bool × AV) :=
  match args with
  | [.s c0, .s c1, .s c2] => (cU c0).bind fun a0 => (cI .i64 c1).bind fun a1 => (cB c2).bind fun a2 => told (t_access_Bad a0 a1 a2) [.g [.u, .u, .u, .b]]
  | _ => none
noncomputable def E_access_Bad : Env := E_access_cause.add 114 s_access_Bad
theorem E_access_Bad_ok : EnvOk Tryz.prog E_access_Bad := E_access_cause_ok.add _ _ (by
  intro args n av h hn
  unfold s_access_Bad at h
  split at h
  · rename_i c0 c1 c2
    obtain ⟨a0, h0, h⟩ := bind_some h
    obtain ⟨a1, h1, h⟩ := bind_some h
    obtain ⟨a2, h2, h⟩ := bind_some h
    exact told_ok (n := 120) (t := t_access_Bad a0 a1 a2) (sh := [.g [.u, .u, .u, .b]]) E_access_cause_ok hmix Tryz.func114 (xs0 := [.s (.u false a0), .s (.x false (.int .i64 a1)), .s (.x false (.bool a2))]) (by simp only [List.map_cons, List.map_nil, Dv.val, flat, (cU_ok h0).2, (cI_ok h1).2, (cB_ok h2).2]) rfl (is_access_Bad a0 a1 a2) (fun xs => by kernel_rfl) h hn
  · cases h)
noncomputable def t_access_Aligned (a0 : BitVec 64) (a1 : Int) (a2 : Int) (a3 : Bool) : Tr := evF Tryz.prog E_access_Bad 120 Tryz.f104 [.s (.u false a0), .s (.x false (.int .i64 a1)), .s (.x false (.int .i64 a2)), .s (.x false (.bool a3))]
theorem is_access_Aligned (a0 : BitVec 64) (a1 : Int) (a2 : Int) (a3 : Bool) : (t_access_Aligned a0 a1 a2 a3).is [.g [.u, .u, .u, .b], .s (.b)] = true := by kernel_rfl
noncomputable def s_access_Aligned (args : List Dv) : Option (Bool × AV) :=
  match args with
  | [.s c0, .s c1, .s c2, .s c3] => (cU c0).bind fun a0 => (cI .i64 c1).bind fun a1 => (cI .i64 c2).bind fun a2 => (cB c3).bind fun a3 => told (t_access_Aligned a0 a1 a2 a3) [.g [.u, .u, .u, .b], .s (.b)]
  | _ => none
noncomputable def E_access_Aligned : Env := E_access_Bad.add 104 s_access_Aligned
theorem E_access_Aligned_ok : EnvOk Tryz.prog E_access_Aligned := E_access_Bad_ok.add _ _ (by
  intro args n av h hn
  unfold s_access_Aligned at h
  split at h
  · rename_i c0 c1 c2 c3
    obtain ⟨a0, h0, h⟩ := bind_some h
    obtain ⟨a1, h1, h⟩ := bind_some h
    obtain ⟨a2, h2, h⟩ := bind_some h
    obtain ⟨a3, h3, h⟩ := bind_some h
    exact told_ok (n := 120) (t := t_access_Aligned a0 a1 a2 a3) (sh := [.g [.u, .u, .u, .b], .s (.b)]) E_access_Bad_ok hmix Tryz.func104 (xs0 := [.s (.u false a0), .s (.x false (.int .i64 a1)), .s (.x false (.int .i64 a2)), .s (.x false (.bool a3))]) (by simp only [List.map_cons, List.map_nil, Dv.val, flat, (cU_ok h0).2, (cI_ok h1).2, (cI_ok h2).2, (cB_ok h3).2]) rfl (is_access_Aligned a0 a1 a2 a3) (fun xs => by kernel_rfl) h hn
  · cases h)
noncomputable def t_exec_failed (a0 : BitVec 64) (a1 : BitVec 64) (a2 : BitVec 64) (a3 : Bool) : Tr := evF Tryz.prog E_access_Aligned 120 Tryz.f145 [.g [.u false a0, .u false a1, .u false a2, .x false (.bool a3)]]
theorem is_exec_failed (a0 : BitVec 64) (a1 : BitVec 64) (a2 : BitVec 64) (a3 : Bool) : (t_exec_failed a0 a1 a2 a3).is [.g [.S, .u, .u, .u, .u, .b, .b]] = true := by kernel_rfl
noncomputable def s_exec_failed (args : List Dv) : Option (Bool × AV) :=
  match args with
  | [.g [c0, c1, c2, c3]] => (cU c0).bind fun a0 => (cU c1).bind fun a1 => (cU c2).bind fun a2 => (cB c3).bind fun a3 => told (t_exec_failed a0 a1 a2 a3) [.g [.S, .u, .u, .u, .u, .b, .b]]
  | _ => none
noncomputable def E_exec_failed : Env := E_access_Aligned.add 145 s_exec_failed
theorem E_exec_failed_ok : EnvOk Tryz.prog E_exec_failed := E_access_Aligned_ok.add _ _ (by
  intro args n av h hn
  unfold s_exec_failed at h
  split at h
  · rename_i c0 c1 c2 c3
    obtain ⟨a0, h0, h⟩ := bind_some h
    obtain ⟨a1, h1, h⟩ := bind_some h
    obtain ⟨a2, h2, h⟩ := bind_some h
    obtain ⟨a3, h3, h⟩ := bind_some h
    exact told_ok (n := 120) (t := t_exec_failed a0 a1 a2 a3) (sh := [.g [.S, .u, .u, .u, .u, .b, .b]]) E_access_Aligned_ok hmix Tryz.func145 (xs0 := [.g [.u false a0, .u false a1, .u false a2, .x false (.bool a3)]]) (by simp only [List.map_cons, List.map_nil, Dv.val, flat, (cU_ok h0).1, (cU_ok h1).1, (cU_ok h2).1, (cB_ok h3).1]) rfl (is_exec_failed a0 a1 a2 a3) (fun xs => by kernel_rfl) h hn
  · cases h)
noncomputable def t_exec_done (a0 : St) (a1 : BitVec 64) : Tr := evF Tryz.prog E_exec_failed 120 Tryz.f193 [.s (.S a0), .s (.u false a1)]
theorem is_exec_done (a0 : St) (a1 : BitVec 64) : (t_exec_done a0 a1).is [.g [.S, .u, .u, .u, .u, .b, .b]] = true := by kernel_rfl
noncomputable def s_exec_done (args : List Dv) : Option (Bool × AV) :=
  match args with
  | [.s c0, .s c1] => (cS c0).bind fun a0 => (cU c1).bind fun a1 => told (t_exec_done a0 a1) [.g [.S, .u, .u, .u, .u, .b, .b]]
  | _ => none
noncomputable def E_exec_done : Env := E_exec_failed.add 193 s_exec_done
theorem E_exec_done_ok : EnvOk Tryz.prog E_exec_done := E_exec_failed_ok.add _ _ (by
  intro args n av h hn
  unfold s_exec_done at h
  split at h
  · rename_i c0 c1
    obtain ⟨a0, h0, h⟩ := bind_some h
    obtain ⟨a1, h1, h⟩ := bind_some h
    exact told_ok (n := 120) (t := t_exec_done a0 a1) (sh := [.g [.S, .u, .u, .u, .u, .b, .b]]) E_exec_failed_ok hmix Tryz.func193 (xs0 := [.s (.S a0), .s (.u false a1)]) (by simp only [List.map_cons, List.map_nil, Dv.val, flat, (cS_ok h0).2, (cU_ok h1).2]) rfl (is_exec_done a0 a1) (fun xs => by kernel_rfl) h hn
  · cases h)
noncomputable def t_exec_next (a0 : St) (a1 : BitVec 64) : Tr := evF Tryz.prog E_exec_done 120 Tryz.f146 [.s (.S a0), .s (.u false a1)]
theorem is_exec_next (a0 : St) (a1 : BitVec 64) : (t_exec_next a0 a1).is [.g [.S, .u, .u, .u, .u, .b, .b]] = true := by kernel_rfl
noncomputable def s_exec_next (args : List Dv) : Option (Bool × AV) :=
  match args with
  | [.s c0, .s c1] => (cS c0).bind fun a0 => (cU c1).bind fun a1 => told (t_exec_next a0 a1) [.g [.S, .u, .u, .u, .u, .b, .b]]
  | _ => none
noncomputable def E_exec_next : Env := E_exec_done.add 146 s_exec_next
theorem E_exec_next_ok : EnvOk Tryz.prog E_exec_next := E_exec_done_ok.add _ _ (by
  intro args n av h hn
  unfold s_exec_next at h
  split at h
  · rename_i c0 c1
    obtain ⟨a0, h0, h⟩ := bind_some h
    obtain ⟨a1, h1, h⟩ := bind_some h
    exact told_ok (n := 120) (t := t_exec_next a0 a1) (sh := [.g [.S, .u, .u, .u, .u, .b, .b]]) E_exec_done_ok hmix Tryz.func146 (xs0 := [.s (.S a0), .s (.u false a1)]) (by simp only [List.map_cons, List.map_nil, Dv.val, flat, (cS_ok h0).2, (cU_ok h1).2]) rfl (is_exec_next a0 a1) (fun xs => by kernel_rfl) h hn
  · cases h)
noncomputable def t_exec_Goes (a0 : St) (a1 : Int) (a2 : Int) (a3 : Int) (a4 : Int) (a5 : Int) (a6 : Int) : Tr := evF Tryz.prog E_exec_next 120 Tryz.f191 [.s (.S a0), .g [.x false (.int .i64 a1), .x false (.int .i64 a2), .x false (.int .i64 a3), .x false (.int .i64 a4), .x false (.int .i64 a5), .x false (.int .i64 a6)]]
theorem is_exec_Goes (a0 : St) (a1 : Int) (a2 : Int) (a3 : Int) (a4 : Int) (a5 : Int) (a6 : Int) : (t_exec_Goes a0 a1 a2 a3 a4 a5 a6).is [.s (.u)] = true := by kernel_rfl
noncomputable def s_exec_Goes (args : List Dv) : Option (Bool × AV) :=
  match args with
  | [.s c0, .g [c1, c2, c3, c4, c5, c6]] => (cS c0).bind fun a0 => (cI .i64 c1).bind fun a1 => (cI .i64 c2).bind fun a2 => (cI .i64 c3).bind fun a3 => (cI .i64 c4).bind fun a4 => (cI .i64 c5).bind fun a5 => (cI .i64 c6).bind fun a6 => told (t_exec_Goes a0 a1 a2 a3 a4 a5 a6) [.s (.u)]
  | _ => none
noncomputable def E_exec_Goes : Env := E_exec_next.add 191 s_exec_Goes
theorem E_exec_Goes_ok : EnvOk Tryz.prog E_exec_Goes := E_exec_next_ok.add _ _ (by
  intro args n av h hn
  unfold s_exec_Goes at h
  split at h
  · rename_i c0 c1 c2 c3 c4 c5 c6
    obtain ⟨a0, h0, h⟩ := bind_some h
    obtain ⟨a1, h1, h⟩ := bind_some h
    obtain ⟨a2, h2, h⟩ := bind_some h
    obtain ⟨a3, h3, h⟩ := bind_some h
    obtain ⟨a4, h4, h⟩ := bind_some h
    obtain ⟨a5, h5, h⟩ := bind_some h
    obtain ⟨a6, h6, h⟩ := bind_some h
    exact told_ok (n := 120) (t := t_exec_Goes a0 a1 a2 a3 a4 a5 a6) (sh := [.s (.u)]) E_exec_next_ok hmix Tryz.func191 (xs0 := [.s (.S a0), .g [.x false (.int .i64 a1), .x false (.int .i64 a2), .x false (.int .i64 a3), .x false (.int .i64 a4), .x false (.int .i64 a5), .x false (.int .i64 a6)]]) (by simp only [List.map_cons, List.map_nil, Dv.val, flat, (cS_ok h0).2, (cI_ok h1).1, (cI_ok h2).1, (cI_ok h3).1, (cI_ok h4).1, (cI_ok h5).1, (cI_ok h6).1]) rfl (is_exec_Goes a0 a1 a2 a3 a4 a5 a6) (fun xs => by kernel_rfl) h hn
  · cases h)
noncomputable def t_access_sort (a0 : BitVec 64) : Tr := evF Tryz.prog E_exec_Goes 120 Tryz.f224 [.s (.u false a0)]
theorem is_access_sort (a0 : BitVec 64) : (t_access_sort a0).is [.s (.i .i64)] = true := by kernel_rfl
noncomputable def s_access_sort (args : List Dv) : Option (Bool × AV) :=
  match args with
  | [.s c0] => (cU c0).bind fun a0 => told (t_access_sort a0) [.s (.i .i64)]
  | _ => none
noncomputable def E_access_sort : Env := E_exec_Goes.add 224 s_access_sort
theorem E_access_sort_ok : EnvOk Tryz.prog E_access_sort := E_exec_Goes_ok.add _ _ (by
  intro args n av h hn
  unfold s_access_sort at h
  split at h
  · rename_i c0
    obtain ⟨a0, h0, h⟩ := bind_some h
    exact told_ok (n := 120) (t := t_access_sort a0) (sh := [.s (.i .i64)]) E_exec_Goes_ok hmix Tryz.func224 (xs0 := [.s (.u false a0)]) (by simp only [List.map_cons, List.map_nil, Dv.val, flat, (cU_ok h0).2]) rfl (is_access_sort a0) (fun xs => by kernel_rfl) h hn
  · cases h)
noncomputable def FnFE : Env := E_access_sort
theorem FnFE_ok : EnvOk Tryz.prog FnFE := E_access_sort_ok
end Go.Proofs.YtfehilinnalflaaGreat
namespace Go.Proofs.YtfehilinnalflaaGreat
open Go.RowKit Go.BigFrame
set_option linter.unusedSimpArgs false
set_option linter.unusedVariables false
set_option maxRecDepth 100000
noncomputable def t_two_on (a0 : St) (a1 : Int) : Tr := evF Tryz.prog FnFE 120 Tryz.f159 [.s (.S a0), .s (.x false (.int .i64 a1))]
theorem is_two_on (a0 : St) (a1 : Int) : (t_two_on a0 a1).is [.s (.b), .s (.i .i64), .s (.i .i64)] = true := by kernel_rfl
noncomputable def s_two_on (args : List Dv) : Option (Bool × AV) :=
  match args with
  | [.s c0, .s c1] => (cS c0).bind fun a0 => (cI .i64 c1).bind fun a1 => told (t_two_on a0 a1) [.s (.b), .s (.i .i64), .s (.i .i64)]
  | _ => none
noncomputable def E_two_on : Env := FnFE.add 159 s_two_on
theorem E_two_on_ok : EnvOk Tryz.prog E_two_on := FnFE_ok.add _ _ (by
  intro args n av h hn
  unfold s_two_on at h
  split at h
  · rename_i c0 c1
    obtain ⟨a0, h0, h⟩ := bind_some h
    obtain ⟨a1, h1, h⟩ := bind_some h
    exact told_ok (n := 120) (t := t_two_on a0 a1) (sh := [.s (.b), .s (.i .i64), .s (.i .i64)]) FnFE_ok hmix Tryz.func159 (xs0 := [.s (.S a0), .s (.x false (.int .i64 a1))]) (by simp only [List.map_cons, List.map_nil, Dv.val, flat, (cS_ok h0).2, (cI_ok h1).2]) rfl (is_two_on a0 a1) (fun xs => by kernel_rfl) h hn
  · cases h)
noncomputable def t_two_Ask (a0 : St) (a1 : Int) (a2 : Bool) : Tr := evF Tryz.prog E_two_on 120 Tryz.f105 [.s (.S a0), .s (.x false (.int .i64 a1)), .s (.x false (.bool a2))]
theorem is_two_Ask (a0 : St) (a1 : Int) (a2 : Bool) : (t_two_Ask a0 a1 a2).is [.g [.b, .b, .b, .b, .i .i64, .i .i64, .i .i64, .i .i64]] = true := by kernel_rfl
noncomputable def s_two_Ask (args : List Dv) : Option (Bool × AV) :=
  match args with
  | [.s c0, .s c1, .s c2] => (cS c0).bind fun a0 => (cI .i64 c1).bind fun a1 => (cB c2).bind fun a2 => told (t_two_Ask a0 a1 a2) [.g [.b, .b, .b, .b, .i .i64, .i .i64, .i .i64, .i .i64]]
  | _ => none
noncomputable def E_two_Ask : Env := E_two_on.add 105 s_two_Ask
theorem E_two_Ask_ok : EnvOk Tryz.prog E_two_Ask := E_two_on_ok.add _ _ (by
  intro args n av h hn
  unfold s_two_Ask at h
  split at h
  · rename_i c0 c1 c2
    obtain ⟨a0, h0, h⟩ := bind_some h
    obtain ⟨a1, h1, h⟩ := bind_some h
    obtain ⟨a2, h2, h⟩ := bind_some h
    exact told_ok (n := 120) (t := t_two_Ask a0 a1 a2) (sh := [.g [.b, .b, .b, .b, .i .i64, .i .i64, .i .i64, .i .i64]]) E_two_on_ok hmix Tryz.func105 (xs0 := [.s (.S a0), .s (.x false (.int .i64 a1)), .s (.x false (.bool a2))]) (by simp only [List.map_cons, List.map_nil, Dv.val, flat, (cS_ok h0).2, (cI_ok h1).2, (cB_ok h2).2]) rfl (is_two_Ask a0 a1 a2) (fun xs => by kernel_rfl) h hn
  · cases h)
noncomputable def t_two_faults_fault (a0 : BitVec 64) (a1 : Int) (a2 : Bool) (a3 : BitVec 64) (a4 : BitVec 64) (a5 : BitVec 64) (a6 : BitVec 64) : Tr := evF Tryz.prog E_two_Ask 120 Tryz.f210 [.g [.u false a0, .x false (.int .i64 a1), .x false (.bool a2)], .s (.u false a3), .g [.u false a4, .u false a5, .u false a6]]
theorem is_two_faults_fault (a0 : BitVec 64) (a1 : Int) (a2 : Bool) (a3 : BitVec 64) (a4 : BitVec 64) (a5 : BitVec 64) (a6 : BitVec 64) : (t_two_faults_fault a0 a1 a2 a3 a4 a5 a6).is [.g [.u, .u, .u, .b]] = true := by kernel_rfl
noncomputable def s_two_faults_fault (args : List Dv) : Option (Bool × AV) :=
  match args with
  | [.g [c0, c1, c2], .s c3, .g [c4, c5, c6]] => (cU c0).bind fun a0 => (cI .i64 c1).bind fun a1 => (cB c2).bind fun a2 => (cU c3).bind fun a3 => (cU c4).bind fun a4 => (cU c5).bind fun a5 => (cU c6).bind fun a6 => told (t_two_faults_fault a0 a1 a2 a3 a4 a5 a6) [.g [.u, .u, .u, .b]]
  | _ => none
noncomputable def E_two_faults_fault : Env := E_two_Ask.add 210 s_two_faults_fault
theorem E_two_faults_fault_ok : EnvOk Tryz.prog E_two_faults_fault := E_two_Ask_ok.add _ _ (by
  intro args n av h hn
  unfold s_two_faults_fault at h
  split at h
  · rename_i c0 c1 c2 c3 c4 c5 c6
    obtain ⟨a0, h0, h⟩ := bind_some h
    obtain ⟨a1, h1, h⟩ := bind_some h
    obtain ⟨a2, h2, h⟩ := bind_some h
    obtain ⟨a3, h3, h⟩ := bind_some h
    obtain ⟨a4, h4, h⟩ := bind_some h
    obtain ⟨a5, h5, h⟩ := bind_some h
    obtain ⟨a6, h6, h⟩ := bind_some h
    exact told_ok (n := 120) (t := t_two_faults_fault a0 a1 a2 a3 a4 a5 a6) (sh := [.g [.u, .u, .u, .b]]) E_two_Ask_ok hmix Tryz.func210 (xs0 := [.g [.u false a0, .x false (.int .i64 a1), .x false (.bool a2)], .s (.u false a3), .g [.u false a4, .u false a5, .u false a6]]) (by simp only [List.map_cons, List.map_nil, Dv.val, flat, (cU_ok h0).1, (cI_ok h1).1, (cB_ok h2).1, (cU_ok h3).2, (cU_ok h4).1, (cU_ok h5).1, (cU_ok h6).1]) rfl (is_two_faults_fault a0 a1 a2 a3 a4 a5 a6) (fun xs => by kernel_rfl) h hn
  · cases h)
noncomputable def t_two_faults_page (a0 : BitVec 64) (a1 : Int) (a2 : Bool) : Tr := evF Tryz.prog E_two_faults_fault 120 Tryz.f162 [.g [.u false a0, .x false (.int .i64 a1), .x false (.bool a2)]]
theorem is_two_faults_page (a0 : BitVec 64) (a1 : Int) (a2 : Bool) : (t_two_faults_page a0 a1 a2).is [.g [.u, .u, .u, .b]] = true := by kernel_rfl
noncomputable def s_two_faults_page (args : List Dv) : Option (Bool × AV) :=
  match args with
  | [.g [c0, c1, c2]] => (cU c0).bind fun a0 => (cI .i64 c1).bind fun a1 => (cB c2).bind fun a2 => told (t_two_faults_page a0 a1 a2) [.g [.u, .u, .u, .b]]
  | _ => none
noncomputable def E_two_faults_page : Env := E_two_faults_fault.add 162 s_two_faults_page
theorem E_two_faults_page_ok : EnvOk Tryz.prog E_two_faults_page := E_two_faults_fault_ok.add _ _ (by
  intro args n av h hn
  unfold s_two_faults_page at h
  split at h
  · rename_i c0 c1 c2
    obtain ⟨a0, h0, h⟩ := bind_some h
    obtain ⟨a1, h1, h⟩ := bind_some h
    obtain ⟨a2, h2, h⟩ := bind_some h
    exact told_ok (n := 120) (t := t_two_faults_page a0 a1 a2) (sh := [.g [.u, .u, .u, .b]]) E_two_faults_fault_ok hmix Tryz.func162 (xs0 := [.g [.u false a0, .x false (.int .i64 a1), .x false (.bool a2)]]) (by simp only [List.map_cons, List.map_nil, Dv.val, flat, (cU_ok h0).1, (cI_ok h1).1, (cB_ok h2).1]) rfl (is_two_faults_page a0 a1 a2) (fun xs => by kernel_rfl) h hn
  · cases h)
noncomputable def t_two_faults_guest (a0 : BitVec 64) (a1 : Int) (a2 : Bool) (a3 : BitVec 64) : Tr := evF Tryz.prog E_two_faults_page 120 Tryz.f163 [.g [.u false a0, .x false (.int .i64 a1), .x false (.bool a2)], .s (.u false a3)]
theorem is_two_faults_guest (a0 : BitVec 64) (a1 : Int) (a2 : Bool) (a3 : BitVec 64) : (t_two_faults_guest a0 a1 a2 a3).is [.g [.u, .u, .u, .b]] = true := by kernel_rfl
noncomputable def s_two_faults_guest (args : List Dv) : Option (Bool × AV) :=
  match args with
  | [.g [c0, c1, c2], .s c3] => (cU c0).bind fun a0 => (cI .i64 c1).bind fun a1 => (cB c2).bind fun a2 => (cU c3).bind fun a3 => told (t_two_faults_guest a0 a1 a2 a3) [.g [.u, .u, .u, .b]]
  | _ => none
noncomputable def E_two_faults_guest : Env := E_two_faults_page.add 163 s_two_faults_guest
theorem E_two_faults_guest_ok : EnvOk Tryz.prog E_two_faults_guest := E_two_faults_page_ok.add _ _ (by
  intro args n av h hn
  unfold s_two_faults_guest at h
  split at h
  · rename_i c0 c1 c2 c3
    obtain ⟨a0, h0, h⟩ := bind_some h
    obtain ⟨a1, h1, h⟩ := bind_some h
    obtain ⟨a2, h2, h⟩ := bind_some h
    obtain ⟨a3, h3, h⟩ := bind_some h
    exact told_ok (n := 120) (t := t_two_faults_guest a0 a1 a2 a3) (sh := [.g [.u, .u, .u, .b]]) E_two_faults_page_ok hmix Tryz.func163 (xs0 := [.g [.u false a0, .x false (.int .i64 a1), .x false (.bool a2)], .s (.u false a3)]) (by simp only [List.map_cons, List.map_nil, Dv.val, flat, (cU_ok h0).1, (cI_ok h1).1, (cB_ok h2).1, (cU_ok h3).2]) rfl (is_two_faults_guest a0 a1 a2 a3) (fun xs => by kernel_rfl) h hn
  · cases h)
noncomputable def t_two_faults_access (a0 : BitVec 64) (a1 : Int) (a2 : Bool) : Tr := evF Tryz.prog E_two_faults_guest 120 Tryz.f215 [.g [.u false a0, .x false (.int .i64 a1), .x false (.bool a2)]]
theorem is_two_faults_access (a0 : BitVec 64) (a1 : Int) (a2 : Bool) : (t_two_faults_access a0 a1 a2).is [.g [.u, .u, .u, .b]] = true := by kernel_rfl
noncomputable def s_two_faults_access (args : List Dv) : Option (Bool × AV) :=
  match args with
  | [.g [c0, c1, c2]] => (cU c0).bind fun a0 => (cI .i64 c1).bind fun a1 => (cB c2).bind fun a2 => told (t_two_faults_access a0 a1 a2) [.g [.u, .u, .u, .b]]
  | _ => none
noncomputable def E_two_faults_access : Env := E_two_faults_guest.add 215 s_two_faults_access
theorem E_two_faults_access_ok : EnvOk Tryz.prog E_two_faults_access := E_two_faults_guest_ok.add _ _ (by
  intro args n av h hn
  unfold s_two_faults_access at h
  split at h
  · rename_i c0 c1 c2
    obtain ⟨a0, h0, h⟩ := bind_some h
    obtain ⟨a1, h1, h⟩ := bind_some h
    obtain ⟨a2, h2, h⟩ := bind_some h
    exact told_ok (n := 120) (t := t_two_faults_access a0 a1 a2) (sh := [.g [.u, .u, .u, .b]]) E_two_faults_guest_ok hmix Tryz.func215 (xs0 := [.g [.u false a0, .x false (.int .i64 a1), .x false (.bool a2)]]) (by simp only [List.map_cons, List.map_nil, Dv.val, flat, (cU_ok h0).1, (cI_ok h1).1, (cB_ok h2).1]) rfl (is_two_faults_access a0 a1 a2) (fun xs => by kernel_rfl) h hn
  · cases h)
noncomputable def t_two_faults_of (a0 : BitVec 64) (a1 : Int) (a2 : Bool) (a3 : Int) (a4 : BitVec 64) : Tr := evF Tryz.prog E_two_faults_access 120 Tryz.f167 [.g [.u false a0, .x false (.int .i64 a1), .x false (.bool a2)], .s (.x false (.int .i64 a3)), .s (.u false a4)]
theorem is_two_faults_of (a0 : BitVec 64) (a1 : Int) (a2 : Bool) (a3 : Int) (a4 : BitVec 64) : (t_two_faults_of a0 a1 a2 a3 a4).is [.g [.u, .u, .u, .b]] = true := by kernel_rfl
noncomputable def s_two_faults_of (args : List Dv) : Option (Bool × AV) :=
  match args with
  | [.g [c0, c1, c2], .s c3, .s c4] => (cU c0).bind fun a0 => (cI .i64 c1).bind fun a1 => (cB c2).bind fun a2 => (cI .i64 c3).bind fun a3 => (cU c4).bind fun a4 => told (t_two_faults_of a0 a1 a2 a3 a4) [.g [.u, .u, .u, .b]]
  | _ => none
noncomputable def E_two_faults_of : Env := E_two_faults_access.add 167 s_two_faults_of
theorem E_two_faults_of_ok : EnvOk Tryz.prog E_two_faults_of := E_two_faults_access_ok.add _ _ (by
  intro args n av h hn
  unfold s_two_faults_of at h
  split at h
  · rename_i c0 c1 c2 c3 c4
    obtain ⟨a0, h0, h⟩ := bind_some h
    obtain ⟨a1, h1, h⟩ := bind_some h
    obtain ⟨a2, h2, h⟩ := bind_some h
    obtain ⟨a3, h3, h⟩ := bind_some h
    obtain ⟨a4, h4, h⟩ := bind_some h
    exact told_ok (n := 120) (t := t_two_faults_of a0 a1 a2 a3 a4) (sh := [.g [.u, .u, .u, .b]]) E_two_faults_access_ok hmix Tryz.func167 (xs0 := [.g [.u false a0, .x false (.int .i64 a1), .x false (.bool a2)], .s (.x false (.int .i64 a3)), .s (.u false a4)]) (by simp only [List.map_cons, List.map_nil, Dv.val, flat, (cU_ok h0).1, (cI_ok h1).1, (cB_ok h2).1, (cI_ok h3).2, (cU_ok h4).2]) rfl (is_two_faults_of a0 a1 a2 a3 a4) (fun xs => by kernel_rfl) h hn
  · cases h)
noncomputable def t_two_join (a0 : Int) (a1 : BitVec 64) : Tr := evF Tryz.prog E_two_faults_of 120 Tryz.f164 [.s (.x false (.int .i64 a0)), .s (.u false a1)]
theorem is_two_join (a0 : Int) (a1 : BitVec 64) : (t_two_join a0 a1).is [.s (.u)] = true := by kernel_rfl
noncomputable def s_two_join (args : List Dv) : Option (Bool × AV) :=
  match args with
  | [.s c0, .s c1] => (cI .i64 c0).bind fun a0 => (cU c1).bind fun a1 => told (t_two_join a0 a1) [.s (.u)]
  | _ => none
noncomputable def E_two_join : Env := E_two_faults_of.add 164 s_two_join
theorem E_two_join_ok : EnvOk Tryz.prog E_two_join := E_two_faults_of_ok.add _ _ (by
  intro args n av h hn
  unfold s_two_join at h
  split at h
  · rename_i c0 c1
    obtain ⟨a0, h0, h⟩ := bind_some h
    obtain ⟨a1, h1, h⟩ := bind_some h
    exact told_ok (n := 120) (t := t_two_join a0 a1) (sh := [.s (.u)]) E_two_faults_of_ok hmix Tryz.func164 (xs0 := [.s (.x false (.int .i64 a0)), .s (.u false a1)]) (by simp only [List.map_cons, List.map_nil, Dv.val, flat, (cI_ok h0).2, (cU_ok h1).2]) rfl (is_two_join a0 a1) (fun xs => by kernel_rfl) h hn
  · cases h)
noncomputable def t_exec_calls (a0 : St) (a1 : Int) (a2 : Int) (a3 : Int) (a4 : Int) (a5 : Int) (a6 : Int) : Tr := evF Tryz.prog E_two_join 120 Tryz.f148 [.s (.S a0), .g [.x false (.int .i64 a1), .x false (.int .i64 a2), .x false (.int .i64 a3), .x false (.int .i64 a4), .x false (.int .i64 a5), .x false (.int .i64 a6)]]
theorem is_exec_calls (a0 : St) (a1 : Int) (a2 : Int) (a3 : Int) (a4 : Int) (a5 : Int) (a6 : Int) : (t_exec_calls a0 a1 a2 a3 a4 a5 a6).is [.g [.u, .u, .u, .b]] = true := by kernel_rfl
noncomputable def s_exec_calls (args : List Dv) : Option (Bool × AV) :=
  match args with
  | [.s c0, .g [c1, c2, c3, c4, c5, c6]] => (cS c0).bind fun a0 => (cI .i64 c1).bind fun a1 => (cI .i64 c2).bind fun a2 => (cI .i64 c3).bind fun a3 => (cI .i64 c4).bind fun a4 => (cI .i64 c5).bind fun a5 => (cI .i64 c6).bind fun a6 => told (t_exec_calls a0 a1 a2 a3 a4 a5 a6) [.g [.u, .u, .u, .b]]
  | _ => none
noncomputable def E_exec_calls : Env := E_two_join.add 148 s_exec_calls
theorem E_exec_calls_ok : EnvOk Tryz.prog E_exec_calls := E_two_join_ok.add _ _ (by
  intro args n av h hn
  unfold s_exec_calls at h
  split at h
  · rename_i c0 c1 c2 c3 c4 c5 c6
    obtain ⟨a0, h0, h⟩ := bind_some h
    obtain ⟨a1, h1, h⟩ := bind_some h
    obtain ⟨a2, h2, h⟩ := bind_some h
    obtain ⟨a3, h3, h⟩ := bind_some h
    obtain ⟨a4, h4, h⟩ := bind_some h
    obtain ⟨a5, h5, h⟩ := bind_some h
    obtain ⟨a6, h6, h⟩ := bind_some h
    exact told_ok (n := 120) (t := t_exec_calls a0 a1 a2 a3 a4 a5 a6) (sh := [.g [.u, .u, .u, .b]]) E_two_join_ok hmix Tryz.func148 (xs0 := [.s (.S a0), .g [.x false (.int .i64 a1), .x false (.int .i64 a2), .x false (.int .i64 a3), .x false (.int .i64 a4), .x false (.int .i64 a5), .x false (.int .i64 a6)]]) (by simp only [List.map_cons, List.map_nil, Dv.val, flat, (cS_ok h0).2, (cI_ok h1).1, (cI_ok h2).1, (cI_ok h3).1, (cI_ok h4).1, (cI_ok h5).1, (cI_ok h6).1]) rfl (is_exec_calls a0 a1 a2 a3 a4 a5 a6) (fun xs => by kernel_rfl) h hn
  · cases h)
noncomputable def t_fence_is (a0 : Int) (a1 : Int) : Tr := evF Tryz.prog E_exec_calls 120 Tryz.f153 [.s (.x false (.int .i64 a0)), .s (.x false (.int .i64 a1))]
theorem is_fence_is (a0 : Int) (a1 : Int) : (t_fence_is a0 a1).is [.s (.b)] = true := by kernel_rfl
noncomputable def s_fence_is (args : List Dv) : Option (Bool × AV) :=
  match args with
  | [.s c0, .s c1] => (cI .i64 c0).bind fun a0 => (cI .i64 c1).bind fun a1 => told (t_fence_is a0 a1) [.s (.b)]
  | _ => none
noncomputable def E_fence_is : Env := E_exec_calls.add 153 s_fence_is
theorem E_fence_is_ok : EnvOk Tryz.prog E_fence_is := E_exec_calls_ok.add _ _ (by
  intro args n av h hn
  unfold s_fence_is at h
  split at h
  · rename_i c0 c1
    obtain ⟨a0, h0, h⟩ := bind_some h
    obtain ⟨a1, h1, h⟩ := bind_some h
    exact told_ok (n := 120) (t := t_fence_is a0 a1) (sh := [.s (.b)]) E_exec_calls_ok hmix Tryz.func153 (xs0 := [.s (.x false (.int .i64 a0)), .s (.x false (.int .i64 a1))]) (by simp only [List.map_cons, List.map_nil, Dv.val, flat, (cI_ok h0).2, (cI_ok h1).2]) rfl (is_fence_is a0 a1) (fun xs => by kernel_rfl) h hn
  · cases h)
noncomputable def t_fence_vmid (a0 : St) : Tr := evF Tryz.prog E_fence_is 120 Tryz.f154 [.s (.S a0)]
theorem is_fence_vmid (a0 : St) : (t_fence_vmid a0).is [.s (.i .i64)] = true := by kernel_rfl
noncomputable def s_fence_vmid (args : List Dv) : Option (Bool × AV) :=
  match args with
  | [.s c0] => (cS c0).bind fun a0 => told (t_fence_vmid a0) [.s (.i .i64)]
  | _ => none
noncomputable def E_fence_vmid : Env := E_fence_is.add 154 s_fence_vmid
theorem E_fence_vmid_ok : EnvOk Tryz.prog E_fence_vmid := E_fence_is_ok.add _ _ (by
  intro args n av h hn
  unfold s_fence_vmid at h
  split at h
  · rename_i c0
    obtain ⟨a0, h0, h⟩ := bind_some h
    exact told_ok (n := 120) (t := t_fence_vmid a0) (sh := [.s (.i .i64)]) E_fence_is_ok hmix Tryz.func154 (xs0 := [.s (.S a0)]) (by simp only [List.map_cons, List.map_nil, Dv.val, flat, (cS_ok h0).2]) rfl (is_fence_vmid a0) (fun xs => by kernel_rfl) h hn
  · cases h)
noncomputable def t_fence_named (a0 : St) (a1 : Int) (a2 : Int) : Tr := evF Tryz.prog E_fence_vmid 120 Tryz.f97 [.s (.S a0), .s (.x false (.int .i64 a1)), .s (.x false (.int .i64 a2))]
theorem is_fence_named (a0 : St) (a1 : Int) (a2 : Int) : (t_fence_named a0 a1 a2).is [.s (.i .i64)] = true := by kernel_rfl
noncomputable def s_fence_named (args : List Dv) : Option (Bool × AV) :=
  match args with
  | [.s c0, .s c1, .s c2] => (cS c0).bind fun a0 => (cI .i64 c1).bind fun a1 => (cI .i64 c2).bind fun a2 => told (t_fence_named a0 a1 a2) [.s (.i .i64)]
  | _ => none
noncomputable def E_fence_named : Env := E_fence_vmid.add 97 s_fence_named
theorem E_fence_named_ok : EnvOk Tryz.prog E_fence_named := E_fence_vmid_ok.add _ _ (by
  intro args n av h hn
  unfold s_fence_named at h
  split at h
  · rename_i c0 c1 c2
    obtain ⟨a0, h0, h⟩ := bind_some h
    obtain ⟨a1, h1, h⟩ := bind_some h
    obtain ⟨a2, h2, h⟩ := bind_some h
    exact told_ok (n := 120) (t := t_fence_named a0 a1 a2) (sh := [.s (.i .i64)]) E_fence_vmid_ok hmix Tryz.func97 (xs0 := [.s (.S a0), .s (.x false (.int .i64 a1)), .s (.x false (.int .i64 a2))]) (by simp only [List.map_cons, List.map_nil, Dv.val, flat, (cS_ok h0).2, (cI_ok h1).2, (cI_ok h2).2]) rfl (is_fence_named a0 a1 a2) (fun xs => by kernel_rfl) h hn
  · cases h)
noncomputable def t_fence_table (a0 : Int) : Tr := evF Tryz.prog E_fence_named 120 Tryz.f101 [.s (.x false (.int .i64 a0))]
theorem is_fence_table (a0 : Int) : (t_fence_table a0).is [.s (.b)] = true := by kernel_rfl
noncomputable def s_fence_table (args : List Dv) : Option (Bool × AV) :=
  match args with
  | [.s c0] => (cI .i64 c0).bind fun a0 => told (t_fence_table a0) [.s (.b)]
  | _ => none
noncomputable def E_fence_table : Env := E_fence_named.add 101 s_fence_table
theorem E_fence_table_ok : EnvOk Tryz.prog E_fence_table := E_fence_named_ok.add _ _ (by
  intro args n av h hn
  unfold s_fence_table at h
  split at h
  · rename_i c0
    obtain ⟨a0, h0, h⟩ := bind_some h
    exact told_ok (n := 120) (t := t_fence_table a0) (sh := [.s (.b)]) E_fence_named_ok hmix Tryz.func101 (xs0 := [.s (.x false (.int .i64 a0))]) (by simp only [List.map_cons, List.map_nil, Dv.val, flat, (cI_ok h0).2]) rfl (is_fence_table a0) (fun xs => by kernel_rfl) h hn
  · cases h)
noncomputable def t_hazard_Alone (a0 : Int) (a1 : Int) (a2 : Int) (a3 : Int) (a4 : Int) (a5 : Int) : Tr := evF Tryz.prog E_fence_table 120 Tryz.f51 [.g [.x false (.int .i64 a0), .x false (.int .i64 a1), .x false (.int .i64 a2), .x false (.int .i64 a3), .x false (.int .i64 a4), .x false (.int .i64 a5)]]
theorem is_hazard_Alone (a0 : Int) (a1 : Int) (a2 : Int) (a3 : Int) (a4 : Int) (a5 : Int) : (t_hazard_Alone a0 a1 a2 a3 a4 a5).is [.s (.b)] = true := by kernel_rfl
noncomputable def s_hazard_Alone (args : List Dv) : Option (Bool × AV) :=
  match args with
  | [.g [c0, c1, c2, c3, c4, c5]] => (cI .i64 c0).bind fun a0 => (cI .i64 c1).bind fun a1 => (cI .i64 c2).bind fun a2 => (cI .i64 c3).bind fun a3 => (cI .i64 c4).bind fun a4 => (cI .i64 c5).bind fun a5 => told (t_hazard_Alone a0 a1 a2 a3 a4 a5) [.s (.b)]
  | _ => none
noncomputable def E_hazard_Alone : Env := E_fence_table.add 51 s_hazard_Alone
theorem E_hazard_Alone_ok : EnvOk Tryz.prog E_hazard_Alone := E_fence_table_ok.add _ _ (by
  intro args n av h hn
  unfold s_hazard_Alone at h
  split at h
  · rename_i c0 c1 c2 c3 c4 c5
    obtain ⟨a0, h0, h⟩ := bind_some h
    obtain ⟨a1, h1, h⟩ := bind_some h
    obtain ⟨a2, h2, h⟩ := bind_some h
    obtain ⟨a3, h3, h⟩ := bind_some h
    obtain ⟨a4, h4, h⟩ := bind_some h
    obtain ⟨a5, h5, h⟩ := bind_some h
    exact told_ok (n := 120) (t := t_hazard_Alone a0 a1 a2 a3 a4 a5) (sh := [.s (.b)]) E_fence_table_ok hmix Tryz.func51 (xs0 := [.g [.x false (.int .i64 a0), .x false (.int .i64 a1), .x false (.int .i64 a2), .x false (.int .i64 a3), .x false (.int .i64 a4), .x false (.int .i64 a5)]]) (by simp only [List.map_cons, List.map_nil, Dv.val, flat, (cI_ok h0).1, (cI_ok h1).1, (cI_ok h2).1, (cI_ok h3).1, (cI_ok h4).1, (cI_ok h5).1]) rfl (is_hazard_Alone a0 a1 a2 a3 a4 a5) (fun xs => by kernel_rfl) h hn
  · cases h)
noncomputable def t_hazard_Uses (a0 : Int) (a1 : Int) (a2 : Int) (a3 : Int) (a4 : Int) (a5 : Int) (a6 : Int) : Tr := evF Tryz.prog E_hazard_Alone 120 Tryz.f103 [.g [.x false (.int .i64 a0), .x false (.int .i64 a1), .x false (.int .i64 a2), .x false (.int .i64 a3), .x false (.int .i64 a4), .x false (.int .i64 a5)], .s (.x false (.int .i64 a6))]
theorem is_hazard_Uses (a0 : Int) (a1 : Int) (a2 : Int) (a3 : Int) (a4 : Int) (a5 : Int) (a6 : Int) : (t_hazard_Uses a0 a1 a2 a3 a4 a5 a6).is [.s (.b)] = true := by kernel_rfl
noncomputable def s_hazard_Uses (args : List Dv) : Option (Bool × AV) :=
  match args with
  | [.g [c0, c1, c2, c3, c4, c5], .s c6] => (cI .i64 c0).bind fun a0 => (cI .i64 c1).bind fun a1 => (cI .i64 c2).bind fun a2 => (cI .i64 c3).bind fun a3 => (cI .i64 c4).bind fun a4 => (cI .i64 c5).bind fun a5 => (cI .i64 c6).bind fun a6 => told (t_hazard_Uses a0 a1 a2 a3 a4 a5 a6) [.s (.b)]
  | _ => none
noncomputable def E_hazard_Uses : Env := E_hazard_Alone.add 103 s_hazard_Uses
theorem E_hazard_Uses_ok : EnvOk Tryz.prog E_hazard_Uses := E_hazard_Alone_ok.add _ _ (by
  intro args n av h hn
  unfold s_hazard_Uses at h
  split at h
  · rename_i c0 c1 c2 c3 c4 c5 c6
    obtain ⟨a0, h0, h⟩ := bind_some h
    obtain ⟨a1, h1, h⟩ := bind_some h
    obtain ⟨a2, h2, h⟩ := bind_some h
    obtain ⟨a3, h3, h⟩ := bind_some h
    obtain ⟨a4, h4, h⟩ := bind_some h
    obtain ⟨a5, h5, h⟩ := bind_some h
    obtain ⟨a6, h6, h⟩ := bind_some h
    exact told_ok (n := 120) (t := t_hazard_Uses a0 a1 a2 a3 a4 a5 a6) (sh := [.s (.b)]) E_hazard_Alone_ok hmix Tryz.func103 (xs0 := [.g [.x false (.int .i64 a0), .x false (.int .i64 a1), .x false (.int .i64 a2), .x false (.int .i64 a3), .x false (.int .i64 a4), .x false (.int .i64 a5)], .s (.x false (.int .i64 a6))]) (by simp only [List.map_cons, List.map_nil, Dv.val, flat, (cI_ok h0).1, (cI_ok h1).1, (cI_ok h2).1, (cI_ok h3).1, (cI_ok h4).1, (cI_ok h5).1, (cI_ok h6).2]) rfl (is_hazard_Uses a0 a1 a2 a3 a4 a5 a6) (fun xs => by kernel_rfl) h hn
  · cases h)
noncomputable def t_hazard_Passes (a0 : Int) (a1 : Int) (a2 : Int) (a3 : Int) (a4 : Int) (a5 : Int) (a6 : Int) (a7 : Int) (a8 : Int) (a9 : Int) (a10 : Int) (a11 : Int) : Tr := evF Tryz.prog E_hazard_Uses 120 Tryz.f72 [.g [.x false (.int .i64 a0), .x false (.int .i64 a1), .x false (.int .i64 a2), .x false (.int .i64 a3), .x false (.int .i64 a4), .x false (.int .i64 a5)], .g [.x false (.int .i64 a6), .x false (.int .i64 a7), .x false (.int .i64 a8), .x false (.int .i64 a9), .x false (.int .i64 a10), .x false (.int .i64 a11)]]
theorem is_hazard_Passes (a0 : Int) (a1 : Int) (a2 : Int) (a3 : Int) (a4 : Int) (a5 : Int) (a6 : Int) (a7 : Int) (a8 : Int) (a9 : Int) (a10 : Int) (a11 : Int) : (t_hazard_Passes a0 a1 a2 a3 a4 a5 a6 a7 a8 a9 a10 a11).is [.s (.b)] = true := by kernel_rfl
noncomputable def s_hazard_Passes (args : List Dv) : Option (Bool × AV) :=
  match args with
  | [.g [c0, c1, c2, c3, c4, c5], .g [c6, c7, c8, c9, c10, c11]] => (cI .i64 c0).bind fun a0 => (cI .i64 c1).bind fun a1 => (cI .i64 c2).bind fun a2 => (cI .i64 c3).bind fun a3 => (cI .i64 c4).bind fun a4 => (cI .i64 c5).bind fun a5 => (cI .i64 c6).bind fun a6 => (cI .i64 c7).bind fun a7 => (cI .i64 c8).bind fun a8 => (cI .i64 c9).bind fun a9 => (cI .i64 c10).bind fun a10 => (cI .i64 c11).bind fun a11 => told (t_hazard_Passes a0 a1 a2 a3 a4 a5 a6 a7 a8 a9 a10 a11) [.s (.b)]
  | _ => none
noncomputable def E_hazard_Passes : Env := E_hazard_Uses.add 72 s_hazard_Passes
theorem E_hazard_Passes_ok : EnvOk Tryz.prog E_hazard_Passes := E_hazard_Uses_ok.add _ _ (by
  intro args n av h hn
  unfold s_hazard_Passes at h
  split at h
  · rename_i c0 c1 c2 c3 c4 c5 c6 c7 c8 c9 c10 c11
    obtain ⟨a0, h0, h⟩ := bind_some h
    obtain ⟨a1, h1, h⟩ := bind_some h
    obtain ⟨a2, h2, h⟩ := bind_some h
    obtain ⟨a3, h3, h⟩ := bind_some h
    obtain ⟨a4, h4, h⟩ := bind_some h
    obtain ⟨a5, h5, h⟩ := bind_some h
    obtain ⟨a6, h6, h⟩ := bind_some h
    obtain ⟨a7, h7, h⟩ := bind_some h
    obtain ⟨a8, h8, h⟩ := bind_some h
    obtain ⟨a9, h9, h⟩ := bind_some h
    obtain ⟨a10, h10, h⟩ := bind_some h
    obtain ⟨a11, h11, h⟩ := bind_some h
    exact told_ok (n := 120) (t := t_hazard_Passes a0 a1 a2 a3 a4 a5 a6 a7 a8 a9 a10 a11) (sh := [.s (.b)]) E_hazard_Uses_ok hmix Tryz.func72 (xs0 := [.g [.x false (.int .i64 a0), .x false (.int .i64 a1), .x false (.int .i64 a2), .x false (.int .i64 a3), .x false (.int .i64 a4), .x false (.int .i64 a5)], .g [.x false (.int .i64 a6), .x false (.int .i64 a7), .x false (.int .i64 a8), .x false (.int .i64 a9), .x false (.int .i64 a10), .x false (.int .i64 a11)]]) (by simp only [List.map_cons, List.map_nil, Dv.val, flat, (cI_ok h0).1, (cI_ok h1).1, (cI_ok h2).1, (cI_ok h3).1, (cI_ok h4).1, (cI_ok h5).1, (cI_ok h6).1, (cI_ok h7).1, (cI_ok h8).1, (cI_ok h9).1, (cI_ok h10).1, (cI_ok h11).1]) rfl (is_hazard_Passes a0 a1 a2 a3 a4 a5 a6 a7 a8 a9 a10 a11) (fun xs => by kernel_rfl) h hn
  · cases h)
noncomputable def t_hazard_Waits (a0 : Int) (a1 : Int) (a2 : Int) (a3 : Int) (a4 : Int) (a5 : Int) (a6 : Int) (a7 : Int) (a8 : Int) (a9 : Int) (a10 : Int) (a11 : Int) : Tr := evF Tryz.prog E_hazard_Passes 120 Tryz.f47 [.g [.x false (.int .i64 a0), .x false (.int .i64 a1), .x false (.int .i64 a2), .x false (.int .i64 a3), .x false (.int .i64 a4), .x false (.int .i64 a5)], .g [.x false (.int .i64 a6), .x false (.int .i64 a7), .x false (.int .i64 a8), .x false (.int .i64 a9), .x false (.int .i64 a10), .x false (.int .i64 a11)]]
theorem is_hazard_Waits (a0 : Int) (a1 : Int) (a2 : Int) (a3 : Int) (a4 : Int) (a5 : Int) (a6 : Int) (a7 : Int) (a8 : Int) (a9 : Int) (a10 : Int) (a11 : Int) : (t_hazard_Waits a0 a1 a2 a3 a4 a5 a6 a7 a8 a9 a10 a11).is [.s (.b)] = true := by kernel_rfl
noncomputable def s_hazard_Waits (args : List Dv) : Option (Bool × AV) :=
  match args with
  | [.g [c0, c1, c2, c3, c4, c5], .g [c6, c7, c8, c9, c10, c11]] => (cI .i64 c0).bind fun a0 => (cI .i64 c1).bind fun a1 => (cI .i64 c2).bind fun a2 => (cI .i64 c3).bind fun a3 => (cI .i64 c4).bind fun a4 => (cI .i64 c5).bind fun a5 => (cI .i64 c6).bind fun a6 => (cI .i64 c7).bind fun a7 => (cI .i64 c8).bind fun a8 => (cI .i64 c9).bind fun a9 => (cI .i64 c10).bind fun a10 => (cI .i64 c11).bind fun a11 => told (t_hazard_Waits a0 a1 a2 a3 a4 a5 a6 a7 a8 a9 a10 a11) [.s (.b)]
  | _ => none
noncomputable def E_hazard_Waits : Env := E_hazard_Passes.add 47 s_hazard_Waits
theorem E_hazard_Waits_ok : EnvOk Tryz.prog E_hazard_Waits := E_hazard_Passes_ok.add _ _ (by
  intro args n av h hn
  unfold s_hazard_Waits at h
  split at h
  · rename_i c0 c1 c2 c3 c4 c5 c6 c7 c8 c9 c10 c11
    obtain ⟨a0, h0, h⟩ := bind_some h
    obtain ⟨a1, h1, h⟩ := bind_some h
    obtain ⟨a2, h2, h⟩ := bind_some h
    obtain ⟨a3, h3, h⟩ := bind_some h
    obtain ⟨a4, h4, h⟩ := bind_some h
    obtain ⟨a5, h5, h⟩ := bind_some h
    obtain ⟨a6, h6, h⟩ := bind_some h
    obtain ⟨a7, h7, h⟩ := bind_some h
    obtain ⟨a8, h8, h⟩ := bind_some h
    obtain ⟨a9, h9, h⟩ := bind_some h
    obtain ⟨a10, h10, h⟩ := bind_some h
    obtain ⟨a11, h11, h⟩ := bind_some h
    exact told_ok (n := 120) (t := t_hazard_Waits a0 a1 a2 a3 a4 a5 a6 a7 a8 a9 a10 a11) (sh := [.s (.b)]) E_hazard_Passes_ok hmix Tryz.func47 (xs0 := [.g [.x false (.int .i64 a0), .x false (.int .i64 a1), .x false (.int .i64 a2), .x false (.int .i64 a3), .x false (.int .i64 a4), .x false (.int .i64 a5)], .g [.x false (.int .i64 a6), .x false (.int .i64 a7), .x false (.int .i64 a8), .x false (.int .i64 a9), .x false (.int .i64 a10), .x false (.int .i64 a11)]]) (by simp only [List.map_cons, List.map_nil, Dv.val, flat, (cI_ok h0).1, (cI_ok h1).1, (cI_ok h2).1, (cI_ok h3).1, (cI_ok h4).1, (cI_ok h5).1, (cI_ok h6).1, (cI_ok h7).1, (cI_ok h8).1, (cI_ok h9).1, (cI_ok h10).1, (cI_ok h11).1]) rfl (is_hazard_Waits a0 a1 a2 a3 a4 a5 a6 a7 a8 a9 a10 a11) (fun xs => by kernel_rfl) h hn
  · cases h)
noncomputable def FnGE : Env := E_hazard_Waits
theorem FnGE_ok : EnvOk Tryz.prog FnGE := E_hazard_Waits_ok
end Go.Proofs.YtfehilinnalflaaGreat
namespace Go.Proofs.YtfehilinnalflaaGreat
open Go.RowKit Go.BigFrame
set_option linter.unusedSimpArgs false
set_option linter.unusedVariables false
set_option maxRecDepth 100000
def isB (e : BitVec 64) : Bool := (e &&& 1#64 != 0#64) && ((e &&& 4#64 == 0#64) || (e &&& 2#64 != 0#64)) && (e &&& 32#64 == 0#64) && (e >>> 16 == 0#64)
def leafB (e : BitVec 64) : Bool := isB e && (e &&& 10#64 != 0#64)
def frameB (e : BitVec 64) : Nat := (bitsB e 8 8).toNat
theorem w8 : wOf 8 = 8 := by decide
theorem l8 : loOf 8 = 8 := by decide
theorem l12 : loOf 12 = 12 := by decide
theorem n88 : nOf 8 8 = 8 := by decide
theorem n84 : nOf 8 4 = 4 := by decide
theorem n124 : nOf 12 4 = 4 := by decide
theorem bits_lt (v : BitVec 64) (lo n : Nat) (h : n ≤ 63) : (bitsB v lo n).toNat < 2 ^ n := by
  apply Nat.lt_pow_two_of_testBit
  intro i hi
  rw [← BitVec.getLsbD, bits_bit]
  simp; omega
theorem i64_of_u64 (x : BitVec 64) (h : x.toNat < 9223372036854775808) : IntKind.i64.wrap (x.toNat : Int) = (x.toNat : Int) := IntWalk.i64_in _ ⟨by omega, by omega⟩
theorem pframe_b (e : BitVec 64) : Gives Tryz.prog 213 #[U e] (.int .i64 (frameB e : Int)) := by
  intro w
  have HB := Below.refl w.heap.size w
  have s := bits_b e 8 8
  rw [l8, n88] at s
  have hw := i64_of_u64 (bitsB e 8 8) (by have := bits_lt e 8 8 (by omega); omega)
  go_enter Tryz.func213, Tryz.ntmps213
  go_wp2_with (go_at_call 78; (with_reducible refine (s.on HB).mono ?_); clear HB; rintro e w' ⟨rfl, HB⟩)
  go_ret
  exact ⟨rfl, HB⟩
theorem u_test (e : BitVec 64) (k : Nat) (c : Int) (hc : (k : Int) = c) (hk : k < 18446744073709551616) : (bits .and .u64 (e.toNat : Int) c == 0) = (e &&& BitVec.ofNat 64 k == 0#64) := by
  have h1 := u_and e (BitVec.ofNat 64 k)
  rw [ofNat_toNat k hk, hc] at h1
  rw [h1]
  exact u_beq _ 0#64
theorem pis_b (e : BitVec 64) : Gives Tryz.prog 227 #[U e] (.bool (isB e)) := by
  refine .of_same fun w => ?_
  have t1 := u_test e 1 1 rfl (by decide)
  have t4 := u_test e 4 4 rfl (by decide)
  have t2 := u_test e 2 2 rfl (by decide)
  have t32 := u_test e 32 32 rfl (by decide)
  have ts : ((e.toNat : Int) / 65536 == 0) = (e >>> 16 == 0#64) := by have := u_shr e 16; rw [show (65536 : Int) = 2 ^ 16 from rfl, this]; exact u_beq _ 0#64
  have tn : isB e = (!(e &&& 1#64 == 0#64) && ((e &&& 4#64 == 0#64) || !(e &&& 2#64 == 0#64)) && (e &&& 32#64 == 0#64) && (e >>> 16 == 0#64)) := rfl
  rw [tn]
  clear tn
  generalize (e &&& 1#64 == 0#64) = b1 at *
  generalize (e &&& 4#64 == 0#64) = b4 at *
  generalize (e &&& 2#64 == 0#64) = b2 at *
  generalize (e &&& 32#64 == 0#64) = b32 at *
  generalize (e >>> 16 == 0#64) = bs at *
  have n1 : (bits .and .u64 (e.toNat : Int) 1 != 0) = !b1 := congrArg Bool.not t1
  have n2 : (bits .and .u64 (e.toNat : Int) 2 != 0) = !b2 := congrArg Bool.not t2
  go_enter Tryz.func227, Tryz.ntmps227
  cases b1 <;> cases b4 <;> cases b2 <;> cases b32 <;> cases bs <;> (go_wp2; go_ret; exact ⟨rfl, rfl⟩)
theorem pleaf_b (e : BitVec 64) : Gives Tryz.prog 228 #[U e] (.bool (leafB e)) := by
  intro w
  have HB := Below.refl w.heap.size w
  have t10 := u_test e 10 10 rfl (by decide)
  have tn : leafB e = (isB e && !(e &&& 10#64 == 0#64)) := rfl
  rw [tn]
  clear tn
  have hp := pis_b e
  generalize isB e = i at *
  generalize (e &&& 10#64 == 0#64) = b at *
  have n1 : (bits .and .u64 (e.toNat : Int) 10 != 0) = !b := congrArg Bool.not t10
  go_enter Tryz.func228, Tryz.ntmps228
  cases i <;> cases b <;> (go_wp2_with (go_at_call 227; (with_reducible refine (hp.on HB).mono ?_); clear HB; rintro e w' ⟨rfl, HB⟩); go_ret; exact ⟨rfl, HB⟩)
end Go.Proofs.YtfehilinnalflaaGreat
namespace Go.Proofs.YtfehilinnalflaaGreat
open Go.RowKit Go.BigFrame
set_option linter.unusedSimpArgs false
set_option linter.unusedVariables false
set_option maxRecDepth 100000
noncomputable def t_Mask (c : Ch) : Tr := evF Tryz.prog FnGE 120 Tryz.f57 [.s c]
theorem mask_at {m : Bool} {n : Int} {v : BitVec 64} (h1 : (t_Mask (.x true (.int .i64 n))).clean = true) (h2 : (t_Mask (.x true (.int .i64 n))).is [.s .u] = true) (h3 : resVal (outs (t_Mask (.x true (.int .i64 n))) 0 [.s .u]) = U v) :
    Gives Tryz.prog 57 #[.int .i64 n] (U v) := by
  have := gives_of (n := 120) FnGE_ok hmix Tryz.func57 (args := [.s (.x true (.int .i64 n))]) (Tr.ok_of_clean h1) h2
  rw [← h3]; exact this
theorem mask_0 : Gives Tryz.prog 57 #[.int .i64 0] (U (maskV 0)) := mask_at (m := true) (by kernel_rfl) (by kernel_rfl) (by kernel_rfl)
theorem mask_1 : Gives Tryz.prog 57 #[.int .i64 1] (U (maskV 1)) := mask_at (m := true) (by kernel_rfl) (by kernel_rfl) (by kernel_rfl)
theorem mask_2 : Gives Tryz.prog 57 #[.int .i64 2] (U (maskV 2)) := mask_at (m := true) (by kernel_rfl) (by kernel_rfl) (by kernel_rfl)
theorem mask_3 : Gives Tryz.prog 57 #[.int .i64 3] (U (maskV 3)) := mask_at (m := true) (by kernel_rfl) (by kernel_rfl) (by kernel_rfl)
theorem mask_4 : Gives Tryz.prog 57 #[.int .i64 4] (U (maskV 4)) := mask_at (m := true) (by kernel_rfl) (by kernel_rfl) (by kernel_rfl)
theorem mask_5 : Gives Tryz.prog 57 #[.int .i64 5] (U (maskV 5)) := mask_at (m := true) (by kernel_rfl) (by kernel_rfl) (by kernel_rfl)
theorem mask_6 : Gives Tryz.prog 57 #[.int .i64 6] (U (maskV 6)) := mask_at (m := true) (by kernel_rfl) (by kernel_rfl) (by kernel_rfl)
theorem mask_7 : Gives Tryz.prog 57 #[.int .i64 7] (U (maskV 7)) := mask_at (m := true) (by kernel_rfl) (by kernel_rfl) (by kernel_rfl)
theorem mask_8 : Gives Tryz.prog 57 #[.int .i64 8] (U (maskV 8)) := mask_at (m := true) (by kernel_rfl) (by kernel_rfl) (by kernel_rfl)
theorem mask_9 : Gives Tryz.prog 57 #[.int .i64 9] (U (maskV 9)) := mask_at (m := true) (by kernel_rfl) (by kernel_rfl) (by kernel_rfl)
theorem mask_10 : Gives Tryz.prog 57 #[.int .i64 10] (U (maskV 10)) := mask_at (m := true) (by kernel_rfl) (by kernel_rfl) (by kernel_rfl)
theorem mask_11 : Gives Tryz.prog 57 #[.int .i64 11] (U (maskV 11)) := mask_at (m := true) (by kernel_rfl) (by kernel_rfl) (by kernel_rfl)
theorem mask_12 : Gives Tryz.prog 57 #[.int .i64 12] (U (maskV 12)) := mask_at (m := true) (by kernel_rfl) (by kernel_rfl) (by kernel_rfl)
theorem mask_13 : Gives Tryz.prog 57 #[.int .i64 13] (U (maskV 13)) := mask_at (m := true) (by kernel_rfl) (by kernel_rfl) (by kernel_rfl)
theorem mask_14 : Gives Tryz.prog 57 #[.int .i64 14] (U (maskV 14)) := mask_at (m := true) (by kernel_rfl) (by kernel_rfl) (by kernel_rfl)
theorem mask_15 : Gives Tryz.prog 57 #[.int .i64 15] (U (maskV 15)) := mask_at (m := true) (by kernel_rfl) (by kernel_rfl) (by kernel_rfl)
theorem mask_16 : Gives Tryz.prog 57 #[.int .i64 16] (U (maskV 16)) := mask_at (m := true) (by kernel_rfl) (by kernel_rfl) (by kernel_rfl)
theorem mask_17 : Gives Tryz.prog 57 #[.int .i64 17] (U (maskV 17)) := mask_at (m := true) (by kernel_rfl) (by kernel_rfl) (by kernel_rfl)
theorem mask_18 : Gives Tryz.prog 57 #[.int .i64 18] (U (maskV 18)) := mask_at (m := true) (by kernel_rfl) (by kernel_rfl) (by kernel_rfl)
theorem mask_19 : Gives Tryz.prog 57 #[.int .i64 19] (U (maskV 19)) := mask_at (m := true) (by kernel_rfl) (by kernel_rfl) (by kernel_rfl)
theorem mask_20 : Gives Tryz.prog 57 #[.int .i64 20] (U (maskV 20)) := mask_at (m := true) (by kernel_rfl) (by kernel_rfl) (by kernel_rfl)
theorem mask_21 : Gives Tryz.prog 57 #[.int .i64 21] (U (maskV 21)) := mask_at (m := true) (by kernel_rfl) (by kernel_rfl) (by kernel_rfl)
theorem mask_22 : Gives Tryz.prog 57 #[.int .i64 22] (U (maskV 22)) := mask_at (m := true) (by kernel_rfl) (by kernel_rfl) (by kernel_rfl)
theorem mask_23 : Gives Tryz.prog 57 #[.int .i64 23] (U (maskV 23)) := mask_at (m := true) (by kernel_rfl) (by kernel_rfl) (by kernel_rfl)
theorem mask_24 : Gives Tryz.prog 57 #[.int .i64 24] (U (maskV 24)) := mask_at (m := true) (by kernel_rfl) (by kernel_rfl) (by kernel_rfl)
theorem mask_25 : Gives Tryz.prog 57 #[.int .i64 25] (U (maskV 25)) := mask_at (m := true) (by kernel_rfl) (by kernel_rfl) (by kernel_rfl)
theorem mask_26 : Gives Tryz.prog 57 #[.int .i64 26] (U (maskV 26)) := mask_at (m := true) (by kernel_rfl) (by kernel_rfl) (by kernel_rfl)
theorem mask_27 : Gives Tryz.prog 57 #[.int .i64 27] (U (maskV 27)) := mask_at (m := true) (by kernel_rfl) (by kernel_rfl) (by kernel_rfl)
theorem mask_28 : Gives Tryz.prog 57 #[.int .i64 28] (U (maskV 28)) := mask_at (m := true) (by kernel_rfl) (by kernel_rfl) (by kernel_rfl)
def Tr.isw (sh : List DK) : Tr → Bool
  | .fail => true
  | .ret vs _ => areAll vs sh
  | .test _ y n => y.isw sh && n.isw sh
  | .need _ t => t.isw sh
  | .both a _ => a.isw sh
theorem outs_holdsw (sh : List DK) : ∀ (t : Tr), t.ok → t.isw sh = true → t.holds fun vs _ => resVal vs = resVal (outs t 0 sh)
  | .fail, h, _ => h
  | .ret vs m, _, h => resVal_map (outs_ret m vs sh 0 vs (fun m => by rw [Nat.zero_add]) h).symm
  | .test b y n, h, hi => by
    have h' : y.isw sh = true ∧ n.isw sh = true := by simpa [Tr.isw] using hi
    refine ⟨fun e => ?_, fun e => ?_⟩
    · subst e
      have := outs_like (t := .test true y n) (t' := y) ⟨fun _ _ => rfl, fun _ _ => rfl, fun _ _ => rfl, fun _ _ => rfl, fun _ _ => rfl⟩ sh 0
      rw [this]; exact outs_holdsw sh y (h.1 rfl) h'.1
    · subst e
      have := outs_like (t := .test false y n) (t' := n) ⟨fun _ _ => rfl, fun _ _ => rfl, fun _ _ => rfl, fun _ _ => rfl, fun _ _ => rfl⟩ sh 0
      rw [this]; exact outs_holdsw sh n (h.2 rfl) h'.2
  | .need b t, h, hi => by
    have := outs_like (t := .need b t) (t' := t) ⟨fun _ _ => rfl, fun _ _ => rfl, fun _ _ => rfl, fun _ _ => rfl, fun _ _ => rfl⟩ sh 0
    rw [this]; exact ⟨h.1, outs_holdsw sh t h.2 hi⟩
  | .both _ _, h, _ => h.elim
theorem gives_ofw {P : Program} {E : Env} (hE : EnvOk P E) (hm : P.follows .mixedOrders = true) {f : FuncId} {fn : Func} (hf : P.funcs[f]? = some fn) {n : Nat} {args : List Dv} {sh : List DK} (h : (evF P E n fn args).ok) (hs : (evF P E n fn args).isw sh = true) :
    Gives P f (args.map Dv.val).toArray (resVal (outs (evF P E n fn args) 0 sh)) := fun w =>
  (evF_ok hE hm hf (outs_holdsw sh _ h hs) w).mono fun e w' ⟨⟨vs, _, h1, h2⟩, h3⟩ => ⟨by rw [h2, h1], h3⟩
theorem mask_out (n : Int) (h : n < 0 ∨ 29 ≤ n) : Gives Tryz.prog 57 #[.int .i64 n] (U 0#64) := by
  have e1 : (t_Mask (.x false (.int .i64 n))).needB = (bif decide (n < 0) then true else bif decide (n ≥ 29) then true else false) := by kernel_rfl
  have e2 : (t_Mask (.x false (.int .i64 n))).isw [.s .u] = true := by kernel_rfl
  have e3 : resVal (outs (t_Mask (.x false (.int .i64 n))) 0 [.s .u]) = U (bif decide (n < 0) then 0#64 else bif decide (n ≥ 29) then 0#64 else 0#64) := by kernel_rfl
  have e4 : (bif decide (n < 0) then 0#64 else bif decide (n ≥ 29) then 0#64 else 0#64) = 0#64 := by cases decide (n < 0) <;> cases decide (n ≥ 29) <;> rfl
  have := gives_ofw (n := 120) FnGE_ok hmix Tryz.func57 (args := [.s (.x false (.int .i64 n))]) (sh := [.s .u]) (Tr.ok_of_need (by
    show (t_Mask (.x false (.int .i64 n))).needB = true
    rw [e1]
    rcases h with h | h
    · simp [h]
    · have h' : n ≥ 29 := h
      simp [h']) (by kernel_rfl)) e2
  rw [e4] at e3
  rw [← e3]; exact this
def maskI (n : Int) : BitVec 64 := if 0 ≤ n ∧ n < 29 then maskV n.toNat else 0#64
theorem mask_b (n : Int) : Gives Tryz.prog 57 #[.int .i64 n] (U (maskI n)) := by
  unfold maskI
  by_cases h : 0 ≤ n ∧ n < 29
  · rw [if_pos h]
    have hc : n = 0 ∨ n = 1 ∨ n = 2 ∨ n = 3 ∨ n = 4 ∨ n = 5 ∨ n = 6 ∨ n = 7 ∨ n = 8 ∨ n = 9 ∨ n = 10 ∨ n = 11 ∨ n = 12 ∨ n = 13 ∨ n = 14 ∨ n = 15 ∨ n = 16 ∨ n = 17 ∨ n = 18 ∨ n = 19 ∨ n = 20 ∨ n = 21 ∨ n = 22 ∨ n = 23 ∨ n = 24 ∨ n = 25 ∨ n = 26 ∨ n = 27 ∨ n = 28 := by omega
    rcases hc with rfl | rfl | rfl | rfl | rfl | rfl | rfl | rfl | rfl | rfl | rfl | rfl | rfl | rfl | rfl | rfl | rfl | rfl | rfl | rfl | rfl | rfl | rfl | rfl | rfl | rfl | rfl | rfl | rfl
    · exact mask_0
    · exact mask_1
    · exact mask_2
    · exact mask_3
    · exact mask_4
    · exact mask_5
    · exact mask_6
    · exact mask_7
    · exact mask_8
    · exact mask_9
    · exact mask_10
    · exact mask_11
    · exact mask_12
    · exact mask_13
    · exact mask_14
    · exact mask_15
    · exact mask_16
    · exact mask_17
    · exact mask_18
    · exact mask_19
    · exact mask_20
    · exact mask_21
    · exact mask_22
    · exact mask_23
    · exact mask_24
    · exact mask_25
    · exact mask_26
    · exact mask_27
    · exact mask_28
  · rw [if_neg h]
    exact mask_out n (by omega)
def s_Mask (args : List Dv) : Option (Bool × AV) :=
  match args with
  | [.s c0] => (cI .i64 c0).bind fun a0 => some (true, .d (.s (.u false (maskI a0))))
  | _ => none
noncomputable def E_Mask : Env := FnGE.add 57 s_Mask
theorem E_Mask_ok : EnvOk Tryz.prog E_Mask := FnGE_ok.add _ _ (by
  intro args n av h hn
  unfold s_Mask at h
  split at h
  · rename_i c0
    obtain ⟨a0, h0, h⟩ := bind_some h
    cases h
    refine ⟨fun xs => by kernel_rfl, _, fun σ => rfl, ?_⟩
    have e : ([Dv.s c0].map Dv.val).toArray = #[Value.int .i64 a0] := by simp only [List.map_cons, List.map_nil, Dv.val, (cI_ok h0).2]; rfl
    rw [e]; exact mask_b a0
  · cases h)
noncomputable def s_Intr (args : List Dv) : Option (Bool × AV) :=
  match args with
  | [.s c0, .s c1, .s c2] => (cS c0).bind fun s => (cB c1).bind fun t => (cB c2).bind fun l => some (true, .t [.s (.u false (intV s t l).1), .s (.x false (.int .i64 (intV s t l).2.1)), .s (.x false (.bool (intV s t l).2.2.1)), .s (.x false (.bool (intV s t l).2.2.2))])
  | _ => none
noncomputable def E_Intr : Env := E_Mask.add 64 s_Intr
theorem E_Intr_ok : EnvOk Tryz.prog E_Intr := E_Mask_ok.add _ _ (by
  intro args n av h hn
  unfold s_Intr at h
  split at h
  · rename_i c0 c1 c2
    obtain ⟨s, hs, h⟩ := bind_some h
    obtain ⟨t, ht, h⟩ := bind_some h
    obtain ⟨l, hl, h⟩ := bind_some h
    cases h
    refine ⟨fun xs => by kernel_rfl, .tuple #[U (intV s t l).1, .int .i64 (intV s t l).2.1, .bool (intV s t l).2.2.1, .bool (intV s t l).2.2.2], fun σ => rfl, ?_⟩
    have e : ([Dv.s c0, Dv.s c1, Dv.s c2].map Dv.val).toArray = #[.agg (stA s), .bool t, .bool l] := by simp only [List.map_cons, List.map_nil, Dv.val, (cS_ok hs).2, (cB_ok ht).2, (cB_ok hl).2]; rfl
    rw [e]; exact int_b s t l
  · cases h)
noncomputable def s_Frame (args : List Dv) : Option (Bool × AV) :=
  match args with
  | [.s c0] => (cU c0).bind fun e0 => some (true, .d (.s (.x false (.int .i64 (frameB e0 : Int)))))
  | _ => none
noncomputable def E_Frame : Env := E_Intr.add 213 s_Frame
theorem E_Frame_ok : EnvOk Tryz.prog E_Frame := E_Intr_ok.add _ _ (by
  intro args n av h hn
  unfold s_Frame at h
  split at h
  · rename_i c0
    obtain ⟨e0, he0, h⟩ := bind_some h
    cases h
    refine ⟨fun xs => by kernel_rfl, .int .i64 (frameB e0 : Int), fun σ => rfl, ?_⟩
    have e : ([Dv.s c0].map Dv.val).toArray = #[U e0] := by simp only [List.map_cons, List.map_nil, Dv.val, (cU_ok he0).2]; rfl
    rw [e]; exact pframe_b e0
  · cases h)
noncomputable def s_IsP (args : List Dv) : Option (Bool × AV) :=
  match args with
  | [.s c0] => (cU c0).bind fun e0 => some (true, .d (.s (.x false (.bool (isB e0)))))
  | _ => none
noncomputable def E_IsP : Env := E_Frame.add 227 s_IsP
theorem E_IsP_ok : EnvOk Tryz.prog E_IsP := E_Frame_ok.add _ _ (by
  intro args n av h hn
  unfold s_IsP at h
  split at h
  · rename_i c0
    obtain ⟨e0, he0, h⟩ := bind_some h
    cases h
    refine ⟨fun xs => by kernel_rfl, .bool (isB e0), fun σ => rfl, ?_⟩
    have e : ([Dv.s c0].map Dv.val).toArray = #[U e0] := by simp only [List.map_cons, List.map_nil, Dv.val, (cU_ok he0).2]; rfl
    rw [e]; exact pis_b e0
  · cases h)
noncomputable def s_LeafP (args : List Dv) : Option (Bool × AV) :=
  match args with
  | [.s c0] => (cU c0).bind fun e0 => some (true, .d (.s (.x false (.bool (leafB e0)))))
  | _ => none
noncomputable def E_LeafP : Env := E_IsP.add 228 s_LeafP
theorem E_LeafP_ok : EnvOk Tryz.prog E_LeafP := E_IsP_ok.add _ _ (by
  intro args n av h hn
  unfold s_LeafP at h
  split at h
  · rename_i c0
    obtain ⟨e0, he0, h⟩ := bind_some h
    cases h
    refine ⟨fun xs => by kernel_rfl, .bool (leafB e0), fun σ => rfl, ?_⟩
    have e : ([Dv.s c0].map Dv.val).toArray = #[U e0] := by simp only [List.map_cons, List.map_nil, Dv.val, (cU_ok he0).2]; rfl
    rw [e]; exact pleaf_b e0
  · cases h)
noncomputable def FnHE : Env := E_LeafP
theorem FnHE_ok : EnvOk Tryz.prog FnHE := E_LeafP_ok
end Go.Proofs.YtfehilinnalflaaGreat
