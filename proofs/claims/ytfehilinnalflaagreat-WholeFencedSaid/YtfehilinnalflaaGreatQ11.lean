/- Part 11 of the texts behind the law: contracts and lemmas, each proved; no condition but what each names. -/

import Derived.Test.YtfehilinnalflaaGreatQ07
import Derived.Test.YtfehilinnalflaaGreatQ09
import Derived.Test.YtfehilinnalflaaGreatQ10
namespace Go.Proofs.YtfehilinnalflaaGreat
open Go.RowKit Go.BigFrame
set_option linter.unusedSimpArgs false
set_option linter.unusedVariables false
set_option maxRecDepth 100000
noncomputable def t_trap_Mret (a0 : St) : Tr := evF Tryz.prog FnHE 120 Tryz.f206 [.s (.S a0)]
theorem is_trap_Mret (a0 : St) : (t_trap_Mret a0).is [.s .S, .s (.u), .s (.b)] = true := by kernel_rfl
noncomputable def s_trap_Mret (args : List Dv) : Option (Bool × AV) :=
  match args with
  | [.s c0] => (cS c0).bind fun a0 => told (t_trap_Mret a0) [.s .S, .s (.u), .s (.b)]
  | _ => none
noncomputable def E_trap_Mret : Env := FnHE.add 206 s_trap_Mret
theorem E_trap_Mret_ok : EnvOk Tryz.prog E_trap_Mret := FnHE_ok.add _ _ (by
  intro args n av h hn
  unfold s_trap_Mret at h
  split at h
  · rename_i c0
    obtain ⟨a0, h0, h⟩ := bind_some h
    exact told_ok (n := 120) (t := t_trap_Mret a0) (sh := [.s .S, .s (.u), .s (.b)]) FnHE_ok hmix Tryz.func206 (xs0 := [.s (.S a0)]) (by simp only [List.map_cons, List.map_nil, Dv.val, flat, (cS_ok h0).2]) rfl (is_trap_Mret a0) (fun xs => by kernel_rfl) h hn
  · cases h)
noncomputable def t_trap_Sret (a0 : St) : Tr := evF Tryz.prog E_trap_Mret 120 Tryz.f207 [.s (.S a0)]
theorem is_trap_Sret (a0 : St) : (t_trap_Sret a0).is [.s .S, .s (.u), .s (.b)] = true := by kernel_rfl
noncomputable def s_trap_Sret (args : List Dv) : Option (Bool × AV) :=
  match args with
  | [.s c0] => (cS c0).bind fun a0 => told (t_trap_Sret a0) [.s .S, .s (.u), .s (.b)]
  | _ => none
noncomputable def E_trap_Sret : Env := E_trap_Mret.add 207 s_trap_Sret
theorem E_trap_Sret_ok : EnvOk Tryz.prog E_trap_Sret := E_trap_Mret_ok.add _ _ (by
  intro args n av h hn
  unfold s_trap_Sret at h
  split at h
  · rename_i c0
    obtain ⟨a0, h0, h⟩ := bind_some h
    exact told_ok (n := 120) (t := t_trap_Sret a0) (sh := [.s .S, .s (.u), .s (.b)]) E_trap_Mret_ok hmix Tryz.func207 (xs0 := [.s (.S a0)]) (by simp only [List.map_cons, List.map_nil, Dv.val, flat, (cS_ok h0).2]) rfl (is_trap_Sret a0) (fun xs => by kernel_rfl) h hn
  · cases h)
noncomputable def t_decode_fence (a0 : Int) : Tr := evF Tryz.prog E_trap_Sret 120 Tryz.f219 [.s (.x false (.int .i64 a0))]
theorem is_decode_fence (a0 : Int) : (t_decode_fence a0).is [.s (.i .i64)] = true := by kernel_rfl
noncomputable def s_decode_fence (args : List Dv) : Option (Bool × AV) :=
  match args with
  | [.s c0] => (cI .i64 c0).bind fun a0 => told (t_decode_fence a0) [.s (.i .i64)]
  | _ => none
noncomputable def E_decode_fence : Env := E_trap_Sret.add 219 s_decode_fence
theorem E_decode_fence_ok : EnvOk Tryz.prog E_decode_fence := E_trap_Sret_ok.add _ _ (by
  intro args n av h hn
  unfold s_decode_fence at h
  split at h
  · rename_i c0
    obtain ⟨a0, h0, h⟩ := bind_some h
    exact told_ok (n := 120) (t := t_decode_fence a0) (sh := [.s (.i .i64)]) E_trap_Sret_ok hmix Tryz.func219 (xs0 := [.s (.x false (.int .i64 a0))]) (by simp only [List.map_cons, List.map_nil, Dv.val, flat, (cI_ok h0).2]) rfl (is_decode_fence a0) (fun xs => by kernel_rfl) h hn
  · cases h)
noncomputable def t_exec_jumps (a0 : St) (a1 : Int) (a2 : Int) (a3 : Int) (a4 : Int) (a5 : Int) (a6 : Int) : Tr := evF Tryz.prog E_decode_fence 120 Tryz.f143 [.s (.S a0), .g [.x false (.int .i64 a1), .x false (.int .i64 a2), .x false (.int .i64 a3), .x false (.int .i64 a4), .x false (.int .i64 a5), .x false (.int .i64 a6)]]
theorem is_exec_jumps (a0 : St) (a1 : Int) (a2 : Int) (a3 : Int) (a4 : Int) (a5 : Int) (a6 : Int) : (t_exec_jumps a0 a1 a2 a3 a4 a5 a6).is [.g [.S, .u, .u, .u, .u, .b, .b]] = true := by kernel_rfl
noncomputable def s_exec_jumps (args : List Dv) : Option (Bool × AV) :=
  match args with
  | [.s c0, .g [c1, c2, c3, c4, c5, c6]] => (cS c0).bind fun a0 => (cI .i64 c1).bind fun a1 => (cI .i64 c2).bind fun a2 => (cI .i64 c3).bind fun a3 => (cI .i64 c4).bind fun a4 => (cI .i64 c5).bind fun a5 => (cI .i64 c6).bind fun a6 => told (t_exec_jumps a0 a1 a2 a3 a4 a5 a6) [.g [.S, .u, .u, .u, .u, .b, .b]]
  | _ => none
noncomputable def E_exec_jumps : Env := E_decode_fence.add 143 s_exec_jumps
theorem E_exec_jumps_ok : EnvOk Tryz.prog E_exec_jumps := E_decode_fence_ok.add _ _ (by
  intro args n av h hn
  unfold s_exec_jumps at h
  split at h
  · rename_i c0 c1 c2 c3 c4 c5 c6
    obtain ⟨a0, h0, h⟩ := bind_some h
    obtain ⟨a1, h1, h⟩ := bind_some h
    obtain ⟨a2, h2, h⟩ := bind_some h
    obtain ⟨a3, h3, h⟩ := bind_some h
    obtain ⟨a4, h4, h⟩ := bind_some h
    obtain ⟨a5, h5, h⟩ := bind_some h
    obtain ⟨a6, h6, h⟩ := bind_some h
    exact told_ok (n := 120) (t := t_exec_jumps a0 a1 a2 a3 a4 a5 a6) (sh := [.g [.S, .u, .u, .u, .u, .b, .b]]) E_decode_fence_ok hmix Tryz.func143 (xs0 := [.s (.S a0), .g [.x false (.int .i64 a1), .x false (.int .i64 a2), .x false (.int .i64 a3), .x false (.int .i64 a4), .x false (.int .i64 a5), .x false (.int .i64 a6)]]) (by simp only [List.map_cons, List.map_nil, Dv.val, flat, (cS_ok h0).2, (cI_ok h1).1, (cI_ok h2).1, (cI_ok h3).1, (cI_ok h4).1, (cI_ok h5).1, (cI_ok h6).1]) rfl (is_exec_jumps a0 a1 a2 a3 a4 a5 a6) (fun xs => by kernel_rfl) h hn
  · cases h)
noncomputable def t_trap_told_enter (a0 : Int) (a1 : Int) (a2 : Int) (a3 : Int) (a4 : Int) (a5 : St) (a6 : BitVec 64) (a7 : BitVec 64) (a8 : BitVec 64) (a9 : Bool) : Tr := evF Tryz.prog E_exec_jumps 120 Tryz.f132 [.g [.x false (.int .i64 a0), .x false (.int .i64 a1), .x false (.int .i64 a2), .x false (.int .i64 a3), .x false (.int .i64 a4)], .s (.S a5), .g [.u false a6, .u false a7, .u false a8, .x false (.bool a9)]]
theorem is_trap_told_enter (a0 : Int) (a1 : Int) (a2 : Int) (a3 : Int) (a4 : Int) (a5 : St) (a6 : BitVec 64) (a7 : BitVec 64) (a8 : BitVec 64) (a9 : Bool) : (t_trap_told_enter a0 a1 a2 a3 a4 a5 a6 a7 a8 a9).is [.s .S] = true := by kernel_rfl
noncomputable def s_trap_told_enter (args : List Dv) : Option (Bool × AV) :=
  match args with
  | [.g [c0, c1, c2, c3, c4], .s c5, .g [c6, c7, c8, c9]] => (cI .i64 c0).bind fun a0 => (cI .i64 c1).bind fun a1 => (cI .i64 c2).bind fun a2 => (cI .i64 c3).bind fun a3 => (cI .i64 c4).bind fun a4 => (cS c5).bind fun a5 => (cU c6).bind fun a6 => (cU c7).bind fun a7 => (cU c8).bind fun a8 => (cB c9).bind fun a9 => told (t_trap_told_enter a0 a1 a2 a3 a4 a5 a6 a7 a8 a9) [.s .S]
  | _ => none
noncomputable def E_trap_told_enter : Env := E_exec_jumps.add 132 s_trap_told_enter
theorem E_trap_told_enter_ok : EnvOk Tryz.prog E_trap_told_enter := E_exec_jumps_ok.add _ _ (by
  intro args n av h hn
  unfold s_trap_told_enter at h
  split at h
  · rename_i c0 c1 c2 c3 c4 c5 c6 c7 c8 c9
    obtain ⟨a0, h0, h⟩ := bind_some h
    obtain ⟨a1, h1, h⟩ := bind_some h
    obtain ⟨a2, h2, h⟩ := bind_some h
    obtain ⟨a3, h3, h⟩ := bind_some h
    obtain ⟨a4, h4, h⟩ := bind_some h
    obtain ⟨a5, h5, h⟩ := bind_some h
    obtain ⟨a6, h6, h⟩ := bind_some h
    obtain ⟨a7, h7, h⟩ := bind_some h
    obtain ⟨a8, h8, h⟩ := bind_some h
    obtain ⟨a9, h9, h⟩ := bind_some h
    exact told_ok (n := 120) (t := t_trap_told_enter a0 a1 a2 a3 a4 a5 a6 a7 a8 a9) (sh := [.s .S]) E_exec_jumps_ok hmix Tryz.func132 (xs0 := [.g [.x false (.int .i64 a0), .x false (.int .i64 a1), .x false (.int .i64 a2), .x false (.int .i64 a3), .x false (.int .i64 a4)], .s (.S a5), .g [.u false a6, .u false a7, .u false a8, .x false (.bool a9)]]) (by simp only [List.map_cons, List.map_nil, Dv.val, flat, (cI_ok h0).1, (cI_ok h1).1, (cI_ok h2).1, (cI_ok h3).1, (cI_ok h4).1, (cS_ok h5).2, (cU_ok h6).1, (cU_ok h7).1, (cU_ok h8).1, (cB_ok h9).1]) rfl (is_trap_told_enter a0 a1 a2 a3 a4 a5 a6 a7 a8 a9) (fun xs => by kernel_rfl) h hn
  · cases h)
noncomputable def t_csr_Read (a0 : St) (a1 : Int) : Tr := evF Tryz.prog E_trap_told_enter 120 Tryz.f203 [.s (.S a0), .s (.x false (.int .i64 a1))]
theorem is_csr_Read (a0 : St) (a1 : Int) : (t_csr_Read a0 a1).is [.s (.u), .s (.b)] = true := by kernel_rfl
noncomputable def s_csr_Read (args : List Dv) : Option (Bool × AV) :=
  match args with
  | [.s c0, .s c1] => (cS c0).bind fun a0 => (cI .i64 c1).bind fun a1 => told (t_csr_Read a0 a1) [.s (.u), .s (.b)]
  | _ => none
noncomputable def E_csr_Read : Env := E_trap_told_enter.add 203 s_csr_Read
theorem E_csr_Read_ok : EnvOk Tryz.prog E_csr_Read := E_trap_told_enter_ok.add _ _ (by
  intro args n av h hn
  unfold s_csr_Read at h
  split at h
  · rename_i c0 c1
    obtain ⟨a0, h0, h⟩ := bind_some h
    obtain ⟨a1, h1, h⟩ := bind_some h
    exact told_ok (n := 120) (t := t_csr_Read a0 a1) (sh := [.s (.u), .s (.b)]) E_trap_told_enter_ok hmix Tryz.func203 (xs0 := [.s (.S a0), .s (.x false (.int .i64 a1))]) (by simp only [List.map_cons, List.map_nil, Dv.val, flat, (cS_ok h0).2, (cI_ok h1).2]) rfl (is_csr_Read a0 a1) (fun xs => by kernel_rfl) h hn
  · cases h)
noncomputable def t_csr_Write (a0 : St) (a1 : Int) (a2 : BitVec 64) : Tr := evF Tryz.prog E_csr_Read 120 Tryz.f204 [.s (.S a0), .s (.x false (.int .i64 a1)), .s (.u false a2)]
theorem is_csr_Write (a0 : St) (a1 : Int) (a2 : BitVec 64) : (t_csr_Write a0 a1 a2).is [.s .S, .s (.b)] = true := by kernel_rfl
noncomputable def s_csr_Write (args : List Dv) : Option (Bool × AV) :=
  match args with
  | [.s c0, .s c1, .s c2] => (cS c0).bind fun a0 => (cI .i64 c1).bind fun a1 => (cU c2).bind fun a2 => told (t_csr_Write a0 a1 a2) [.s .S, .s (.b)]
  | _ => none
noncomputable def E_csr_Write : Env := E_csr_Read.add 204 s_csr_Write
theorem E_csr_Write_ok : EnvOk Tryz.prog E_csr_Write := E_csr_Read_ok.add _ _ (by
  intro args n av h hn
  unfold s_csr_Write at h
  split at h
  · rename_i c0 c1 c2
    obtain ⟨a0, h0, h⟩ := bind_some h
    obtain ⟨a1, h1, h⟩ := bind_some h
    obtain ⟨a2, h2, h⟩ := bind_some h
    exact told_ok (n := 120) (t := t_csr_Write a0 a1 a2) (sh := [.s .S, .s (.b)]) E_csr_Read_ok hmix Tryz.func204 (xs0 := [.s (.S a0), .s (.x false (.int .i64 a1)), .s (.u false a2)]) (by simp only [List.map_cons, List.map_nil, Dv.val, flat, (cS_ok h0).2, (cI_ok h1).2, (cU_ok h2).2]) rfl (is_csr_Write a0 a1 a2) (fun xs => by kernel_rfl) h hn
  · cases h)
noncomputable def FnIE : Env := E_csr_Write
theorem FnIE_ok : EnvOk Tryz.prog FnIE := E_csr_Write_ok
end Go.Proofs.YtfehilinnalflaaGreat
namespace Go.Proofs.YtfehilinnalflaaGreat
open Go.RowKit Go.BigFrame
set_option linter.unusedSimpArgs false
set_option linter.unusedVariables false
set_option maxRecDepth 100000
noncomputable def t_trap_Enter (a0 : St) (a1 : BitVec 64) (a2 : BitVec 64) (a3 : BitVec 64) (a4 : Bool) (a5 : Int) (a6 : Bool) : Tr := evF Tryz.prog FnIE 120 Tryz.f91 [.s (.S a0), .g [.u false a1, .u false a2, .u false a3, .x false (.bool a4)], .s (.x false (.int .i64 a5)), .s (.x false (.bool a6))]
theorem is_trap_Enter (a0 : St) (a1 : BitVec 64) (a2 : BitVec 64) (a3 : BitVec 64) (a4 : Bool) (a5 : Int) (a6 : Bool) : (t_trap_Enter a0 a1 a2 a3 a4 a5 a6).is [.s .S] = true := by kernel_rfl
noncomputable def s_trap_Enter (args : List Dv) : Option (Bool × AV) :=
  match args with
  | [.s c0, .g [c1, c2, c3, c4], .s c5, .s c6] => (cS c0).bind fun a0 => (cU c1).bind fun a1 => (cU c2).bind fun a2 => (cU c3).bind fun a3 => (cB c4).bind fun a4 => (cI .i64 c5).bind fun a5 => (cB c6).bind fun a6 => told (t_trap_Enter a0 a1 a2 a3 a4 a5 a6) [.s .S]
  | _ => none
noncomputable def E_trap_Enter : Env := FnIE.add 91 s_trap_Enter
theorem E_trap_Enter_ok : EnvOk Tryz.prog E_trap_Enter := FnIE_ok.add _ _ (by
  intro args n av h hn
  unfold s_trap_Enter at h
  split at h
  · rename_i c0 c1 c2 c3 c4 c5 c6
    obtain ⟨a0, h0, h⟩ := bind_some h
    obtain ⟨a1, h1, h⟩ := bind_some h
    obtain ⟨a2, h2, h⟩ := bind_some h
    obtain ⟨a3, h3, h⟩ := bind_some h
    obtain ⟨a4, h4, h⟩ := bind_some h
    obtain ⟨a5, h5, h⟩ := bind_some h
    obtain ⟨a6, h6, h⟩ := bind_some h
    exact told_ok (n := 120) (t := t_trap_Enter a0 a1 a2 a3 a4 a5 a6) (sh := [.s .S]) FnIE_ok hmix Tryz.func91 (xs0 := [.s (.S a0), .g [.u false a1, .u false a2, .u false a3, .x false (.bool a4)], .s (.x false (.int .i64 a5)), .s (.x false (.bool a6))]) (by simp only [List.map_cons, List.map_nil, Dv.val, flat, (cS_ok h0).2, (cU_ok h1).1, (cU_ok h2).1, (cU_ok h3).1, (cB_ok h4).1, (cI_ok h5).2, (cB_ok h6).2]) rfl (is_trap_Enter a0 a1 a2 a3 a4 a5 a6) (fun xs => by kernel_rfl) h hn
  · cases h)
noncomputable def FnJE : Env := E_trap_Enter
theorem FnJE_ok : EnvOk Tryz.prog FnJE := E_trap_Enter_ok
end Go.Proofs.YtfehilinnalflaaGreat
namespace Go.Proofs.YtfehilinnalflaaGreat
open Go.RowKit Go.BigFrame
set_option linter.unusedSimpArgs false
set_option linter.unusedVariables false
set_option maxRecDepth 100000
noncomputable def t_exec_Fault (a0 : St) (a1 : BitVec 64) (a2 : BitVec 64) (a3 : BitVec 64) (a4 : Bool) (a5 : Int) : Tr := evF Tryz.prog FnJE 120 Tryz.f67 [.s (.S a0), .g [.u false a1, .u false a2, .u false a3, .x false (.bool a4)], .s (.x false (.int .u32 a5))]
theorem is_exec_Fault (a0 : St) (a1 : BitVec 64) (a2 : BitVec 64) (a3 : BitVec 64) (a4 : Bool) (a5 : Int) : (t_exec_Fault a0 a1 a2 a3 a4 a5).is [.s .S, .g [.u, .i .u32, .i .i64, .u, .b, .u, .u, .u, .b, .i .i64, .b, .b]] = true := by kernel_rfl
noncomputable def s_exec_Fault (args : List Dv) : Option (Bool × AV) :=
  match args with
  | [.s c0, .g [c1, c2, c3, c4], .s c5] => (cS c0).bind fun a0 => (cU c1).bind fun a1 => (cU c2).bind fun a2 => (cU c3).bind fun a3 => (cB c4).bind fun a4 => (cI .u32 c5).bind fun a5 => told (t_exec_Fault a0 a1 a2 a3 a4 a5) [.s .S, .g [.u, .i .u32, .i .i64, .u, .b, .u, .u, .u, .b, .i .i64, .b, .b]]
  | _ => none
noncomputable def E_exec_Fault : Env := FnJE.add 67 s_exec_Fault
theorem E_exec_Fault_ok : EnvOk Tryz.prog E_exec_Fault := FnJE_ok.add _ _ (by
  intro args n av h hn
  unfold s_exec_Fault at h
  split at h
  · rename_i c0 c1 c2 c3 c4 c5
    obtain ⟨a0, h0, h⟩ := bind_some h
    obtain ⟨a1, h1, h⟩ := bind_some h
    obtain ⟨a2, h2, h⟩ := bind_some h
    obtain ⟨a3, h3, h⟩ := bind_some h
    obtain ⟨a4, h4, h⟩ := bind_some h
    obtain ⟨a5, h5, h⟩ := bind_some h
    exact told_ok (n := 120) (t := t_exec_Fault a0 a1 a2 a3 a4 a5) (sh := [.s .S, .g [.u, .i .u32, .i .i64, .u, .b, .u, .u, .u, .b, .i .i64, .b, .b]]) FnJE_ok hmix Tryz.func67 (xs0 := [.s (.S a0), .g [.u false a1, .u false a2, .u false a3, .x false (.bool a4)], .s (.x false (.int .u32 a5))]) (by simp only [List.map_cons, List.map_nil, Dv.val, flat, (cS_ok h0).2, (cU_ok h1).1, (cU_ok h2).1, (cU_ok h3).1, (cB_ok h4).1, (cI_ok h5).2]) rfl (is_exec_Fault a0 a1 a2 a3 a4 a5) (fun xs => by kernel_rfl) h hn
  · cases h)
noncomputable def t_exec_Interrupt (a0 : St) (a1 : BitVec 64) (a2 : Int) (a3 : Bool) : Tr := evF Tryz.prog E_exec_Fault 120 Tryz.f66 [.s (.S a0), .s (.u false a1), .s (.x false (.int .i64 a2)), .s (.x false (.bool a3))]
theorem is_exec_Interrupt (a0 : St) (a1 : BitVec 64) (a2 : Int) (a3 : Bool) : (t_exec_Interrupt a0 a1 a2 a3).is [.s .S, .g [.u, .i .u32, .i .i64, .u, .b, .u, .u, .u, .b, .i .i64, .b, .b]] = true := by kernel_rfl
noncomputable def s_exec_Interrupt (args : List Dv) : Option (Bool × AV) :=
  match args with
  | [.s c0, .s c1, .s c2, .s c3] => (cS c0).bind fun a0 => (cU c1).bind fun a1 => (cI .i64 c2).bind fun a2 => (cB c3).bind fun a3 => told (t_exec_Interrupt a0 a1 a2 a3) [.s .S, .g [.u, .i .u32, .i .i64, .u, .b, .u, .u, .u, .b, .i .i64, .b, .b]]
  | _ => none
noncomputable def E_exec_Interrupt : Env := E_exec_Fault.add 66 s_exec_Interrupt
theorem E_exec_Interrupt_ok : EnvOk Tryz.prog E_exec_Interrupt := E_exec_Fault_ok.add _ _ (by
  intro args n av h hn
  unfold s_exec_Interrupt at h
  split at h
  · rename_i c0 c1 c2 c3
    obtain ⟨a0, h0, h⟩ := bind_some h
    obtain ⟨a1, h1, h⟩ := bind_some h
    obtain ⟨a2, h2, h⟩ := bind_some h
    obtain ⟨a3, h3, h⟩ := bind_some h
    exact told_ok (n := 120) (t := t_exec_Interrupt a0 a1 a2 a3) (sh := [.s .S, .g [.u, .i .u32, .i .i64, .u, .b, .u, .u, .u, .b, .i .i64, .b, .b]]) E_exec_Fault_ok hmix Tryz.func66 (xs0 := [.s (.S a0), .s (.u false a1), .s (.x false (.int .i64 a2)), .s (.x false (.bool a3))]) (by simp only [List.map_cons, List.map_nil, Dv.val, flat, (cS_ok h0).2, (cU_ok h1).2, (cI_ok h2).2, (cB_ok h3).2]) rfl (is_exec_Interrupt a0 a1 a2 a3) (fun xs => by kernel_rfl) h hn
  · cases h)
noncomputable def FnKE : Env := E_exec_Interrupt
theorem FnKE_ok : EnvOk Tryz.prog FnKE := E_exec_Interrupt_ok
end Go.Proofs.YtfehilinnalflaaGreat
namespace Go.Proofs.YtfehilinnalflaaGreat
open Go.RowKit Go.BigFrame
set_option linter.unusedSimpArgs false
set_option linter.unusedVariables false
set_option maxRecDepth 100000
structure Sub (js : List Nat) (H H1 : Hp) : Prop where
  len : H1.bs.length = js.length
  at_ : ∀ (i j : Nat) (bk1 : Bk), js[i]? = some j → H1.bs[i]? = some bk1 → ∃ bk, H.bs[j]? = some bk ∧ bk.T = bk1.T ∧ flat bk.cs = flat bk1.cs
  inj : ∀ (i i' j : Nat), js[i]? = some j → js[i']? = some j → i = i'
  m : ∀ T, H1.m = some T → H.m = some T
theorem Sub.lt {js : List Nat} {H H1 : Hp} (S : Sub js H H1) (i j : Nat) (h : js[i]? = some j) : j < H.bs.length := by
  have hi : i < H1.bs.length := by rw [S.len]; exact (List.getElem?_eq_some_iff.1 h).1
  obtain ⟨bk, h1, _⟩ := S.at_ i j _ h (List.getElem?_eq_getElem hi)
  exact (List.getElem?_eq_some_iff.1 h1).1
theorem Sub.blocks {js : List Nat} {H H1 : Hp} (S : Sub js H H1) {X : Nat → Prop} {w0 : W0} {σ : List Nat} {w : World} (M : MRel X w0 σ H w) :
    ∃ σ1 : List Nat, (∀ (i j : Nat), js[i]? = some j → σ1[i]? = σ[j]?) ∧ σ1.length = js.length ∧ (∀ (i b : Nat), σ1[i]? = some b → ∃ j, js[i]? = some j ∧ σ[j]? = some b) ∧
      (∀ (k b : Nat) (bk : Bk), σ1[k]? = some b → H1.bs[k]? = some bk → w.heap[b]? = some (.cells (flat bk.cs).toArray bk.T (0, 0))) ∧ (∀ (i i' b : Nat), σ1[i]? = some b → σ1[i']? = some b → i = i') := by
  have hσ : ∀ (i j : Nat), js[i]? = some j → (js.map fun j => σ.getD j 0)[i]? = σ[j]? := by
    intro i j h
    have := S.lt i j h
    rw [← M.len] at this
    rw [List.getElem?_map, h]
    show some (σ.getD j 0) = σ[j]?
    rw [List.getD_eq_getElem?_getD, List.getElem?_eq_getElem this]; rfl
  have back : ∀ (i b : Nat), (js.map fun j => σ.getD j 0)[i]? = some b → ∃ j, js[i]? = some j ∧ σ[j]? = some b := by
    intro i b h
    rw [List.getElem?_map] at h
    cases hj : js[i]? with
    | none => rw [hj] at h; cases h
    | some j =>
      refine ⟨j, rfl, ?_⟩
      rw [← hσ i j hj, List.getElem?_map, hj]
      rw [hj] at h; exact h
  refine ⟨js.map fun j => σ.getD j 0, hσ, by simp, back, ?_, ?_⟩
  · intro k b bk h1 h2
    obtain ⟨j, h3, h4⟩ := back k b h1
    obtain ⟨bk0, h5, h6, h7⟩ := S.at_ k j bk h3 h2
    have := M.blk j b bk0 h4 h5
    rw [← h6, ← h7]; exact this
  · intro i i' b h1 h2
    obtain ⟨j, h3, h4⟩ := back i b h1
    obtain ⟨j', h5, h6⟩ := back i' b h2
    obtain rfl := M.inj j j' b h4 h6
    exact S.inj i i' j h3 h5
theorem Sub.enterR {js : List Nat} {H H1 : Hp} (S : Sub js H H1) {X : Nat → Prop} {w0 : W0} {σ : List Nat} {w : World} (M : MRel X w0 σ H w) (hrw : H1.rw = false) (hro : H1.ro = js.length) :
    ∃ σ1 : List Nat, (∀ (i j : Nat), js[i]? = some j → σ1[i]? = σ[j]?) ∧ MRel (fun _ => False) ⟨w, σ1, false, []⟩ σ1 H1 w := by
  obtain ⟨σ1, hσ, hl, back, hb, hi⟩ := S.blocks M
  refine ⟨σ1, hσ, ⟨Fr.refl _ _, fun k b h hr => ?_, fun k b h => h, by rw [S.len]; exact hl, hb, hi, ?_, fun h => (by rw [hrw] at h; cases h), fun k T h => (by cases h)⟩⟩
  · have := (List.getElem?_eq_some_iff.1 h).1
    omega
  · intro T hT
    replace hT := S.m T hT
    obtain ⟨F, f1, f2, f3⟩ := M.mach T hT
    refine ⟨F, f1, fun h => (by cases h), fun k b hk => ?_⟩
    obtain ⟨j, _, h4⟩ := back k b hk
    exact f3 j b h4
theorem Sub.enter {js : List Nat} {H H1 : Hp} (S : Sub js H H1) {X : Nat → Prop} {w0 : W0} {σ : List Nat} {w : World} (M : MRel X w0 σ H w) {r : Bool} (hr : H1.rw = r) :
    ∃ (σ1 : List Nat) (F : Nat → Prop), (∀ (i j : Nat), js[i]? = some j → σ1[i]? = σ[j]?) ∧ σ1.length = js.length ∧ (∀ T, H.m = some T → Mach w F T ∧ (w0.rw = true → ∀ b, F b → X b ∨ w0.w.heap.size ≤ b) ∧ ∀ (k b : Nat), σ[k]? = some b → ¬ F b) ∧
      MRel (fun b => (∃ i : Nat, σ1[i]? = some b) ∨ (r = true ∧ F b)) ⟨w, σ1, r, H1.bs.map Bk.T⟩ σ1 H1 w := by
  obtain ⟨F, hF⟩ : ∃ F : Nat → Prop, ∀ T, H.m = some T → Mach w F T ∧ (w0.rw = true → ∀ b, F b → X b ∨ w0.w.heap.size ≤ b) ∧ ∀ (k b : Nat), σ[k]? = some b → ¬ F b := by
    cases hm : H.m with
    | none => exact ⟨fun _ => False, fun T h => by cases h⟩
    | some T =>
      obtain ⟨F, h⟩ := M.mach T hm
      exact ⟨F, fun T' h' => by cases h'; exact h⟩
  obtain ⟨σ1, hσ, hl, back, hb, hi⟩ := S.blocks M
  refine ⟨σ1, F, hσ, hl, hF, ⟨Fr.refl _ _, fun k b h _ => .inl (.inl ⟨k, h⟩), fun k b h => h, by rw [S.len]; exact hl, hb, hi, ?_, fun h => hr ▸ h, fun k T h => ?_⟩⟩
  · intro T hT
    replace hT := S.m T hT
    obtain ⟨f1, f2, f3⟩ := hF T hT
    refine ⟨F, f1, fun hr b hb => .inl (.inr ⟨hr, hb⟩), fun k b hk => ?_⟩
    obtain ⟨j, _, h4⟩ := back k b hk
    exact f3 j b h4
  · have h' : (H1.bs.map Bk.T)[k]? = some T := h
    rw [List.getElem?_map] at h'
    cases hk : H1.bs[k]? with
    | none => rw [hk] at h'; cases h'
    | some bk => rw [hk] at h'; cases h'; exact ⟨bk, rfl, rfl⟩
def putAll : List Nat → List Bk → List Bk → List Bk
  | j :: js, c :: cs, bs => putAll js cs (bs.set j c)
  | _, _, bs => bs
theorem putAll_len : ∀ (js : List Nat) (cs bs : List Bk), (putAll js cs bs).length = bs.length
  | [], cs, bs => by cases cs <;> rfl
  | j :: js, [], bs => rfl
  | j :: js, c :: cs, bs => by show (putAll js cs (bs.set j c)).length = _; rw [putAll_len js cs]; simp
theorem putAll_other : ∀ (js : List Nat) (cs bs : List Bk) (k : Nat), (∀ (i : Nat), js[i]? ≠ some k) → (putAll js cs bs)[k]? = bs[k]?
  | [], cs, bs, k, _ => by cases cs <;> rfl
  | j :: js, [], bs, k, _ => rfl
  | j :: js, c :: cs, bs, k, h => by
    show (putAll js cs (bs.set j c))[k]? = _
    rw [putAll_other js cs _ k (fun i => h (i + 1)), List.getElem?_set_ne (fun e => h 0 (by simp [e]))]
theorem putAll_at : ∀ (js : List Nat) (cs bs : List Bk), (∀ (i i' j : Nat), js[i]? = some j → js[i']? = some j → i = i') → ∀ (i j : Nat) (c : Bk), js[i]? = some j → cs[i]? = some c → j < bs.length → (putAll js cs bs)[j]? = some c
  | [], cs, bs, _, i, j, c, h, _, _ => by cases h
  | _ :: _, [], bs, _, i, j, c, _, h, _ => by cases h
  | j0 :: js, c0 :: cs, bs, hi, i, j, c, h1, h2, h3 => by
    show (putAll js cs (bs.set j0 c0))[j]? = _
    have hi' : ∀ (i i' j : Nat), js[i]? = some j → js[i']? = some j → i = i' := fun i i' j a b => by have := hi (i + 1) (i' + 1) j a b; omega
    cases i with
    | zero =>
      cases h1; cases h2
      rw [putAll_other js cs _ _ (fun i e => by have := hi 0 (i + 1) j0 rfl e; omega), List.getElem?_set_self h3]
    | succ i => exact putAll_at js cs _ hi' i j c h1 h2 (by simpa using h3)
structure Back (js : List Nat) (cs : List Bk) (H H' : Hp) : Prop where
  at_ : ∀ (i : Nat) (bk : Bk), i < js.length → H'.bs[i]? = some bk → ∃ c, cs[i]? = some c ∧ c.T = bk.T ∧ flat c.cs = flat bk.cs
  wr : ∀ (i j : Nat), js[i]? = some j → H.ro ≤ j
theorem Sub.ty_back {js : List Nat} {H H1 H' : Hp} (S : Sub js H H1) {cs : List Bk} {X X1 : Nat → Prop} {w0 : W0} {σ σ1 σ' : List Nat} {r : Bool} {w w' : World} (M : MRel X w0 σ H w) (hl : σ1.length = js.length)
    (M' : MRel X1 ⟨w, σ1, r, H1.bs.map Bk.T⟩ σ' H' w') (hB : Back js cs H H') : ∀ (k : Nat) (T : TypeId), w0.ts[k]? = some T → ∃ bk, (putAll js cs H.bs)[k]? = some bk ∧ bk.T = T := by
  intro k T hT
  obtain ⟨bk, h1, h2⟩ := M.ty k T hT
  have hk : k < H.bs.length := (List.getElem?_eq_some_iff.1 h1).1
  by_cases c : ∃ i : Nat, js[i]? = some k
  · obtain ⟨i, hi⟩ := c
    have hil : i < js.length := (List.getElem?_eq_some_iff.1 hi).1
    have hi1 : i < H1.bs.length := by rw [S.len]; exact hil
    have h3 := List.getElem?_eq_getElem hi1
    obtain ⟨bk0, h8, h9, _⟩ := S.at_ i k _ hi h3
    rw [h1] at h8; cases h8
    obtain ⟨bk', h4, h5⟩ := M'.ty i bk.T (by show (H1.bs.map Bk.T)[i]? = _; rw [List.getElem?_map, h3, h9]; rfl)
    obtain ⟨c, h6, h7, _⟩ := hB.at_ i bk' hil h4
    exact ⟨c, putAll_at js cs H.bs S.inj i k c hi h6 hk, by rw [h7, h5, h2]⟩
  · exact ⟨bk, by rw [putAll_other js cs H.bs k (fun i e => c ⟨i, e⟩)]; exact h1, h2⟩
theorem Sub.blk_back {js : List Nat} {H H1 H' : Hp} (S : Sub js H H1) {cs : List Bk} {X X1 : Nat → Prop} {F : Nat → Prop} {w0 : W0} {σ σ1 σ' : List Nat} {r : Bool} {ts : List TypeId} {w w' : World} (M : MRel X w0 σ H w) (hσ : ∀ (i j : Nat), js[i]? = some j → σ1[i]? = σ[j]?)
    (back : ∀ (i b : Nat), σ1[i]? = some b → ∃ j, js[i]? = some j ∧ σ[j]? = some b) (hX : ∀ b, X1 b → (∃ i : Nat, σ1[i]? = some b) ∨ F b) (hd : ∀ (k b : Nat), σ[k]? = some b → ¬ F b)
    (M' : MRel X1 ⟨w, σ1, r, ts⟩ σ' H' w') (hB : Back js cs H H') : ∀ (k b : Nat) (bk : Bk), σ[k]? = some b → (putAll js cs H.bs)[k]? = some bk → w'.heap[b]? = some (.cells (flat bk.cs).toArray bk.T (0, 0)) := by
  intro k b bk h1 h6
  by_cases c : ∃ i : Nat, js[i]? = some k
  · obtain ⟨i, hi⟩ := c
    have hil : i < js.length := (List.getElem?_eq_some_iff.1 hi).1
    have h3 : σ1[i]? = some b := by rw [hσ i k hi]; exact h1
    have h4 := M'.pre i b h3
    have h5 : i < H'.bs.length := by rw [← M'.len]; exact (List.getElem?_eq_some_iff.1 h4).1
    obtain ⟨c, h7, h8, h9⟩ := hB.at_ i _ hil (List.getElem?_eq_getElem h5)
    rw [putAll_at js cs H.bs S.inj i k c hi h7 (S.lt i k hi)] at h6
    cases h6
    have := M'.blk i b _ h4 (List.getElem?_eq_getElem h5)
    rw [h8, h9]; exact this
  · rw [putAll_other js cs H.bs k (fun i e => c ⟨i, e⟩)] at h6
    have h7 := M.blk k b bk h1 h6
    rw [M'.fr.block b (blk_lt h7) ?_]
    · exact h7
    · intro hx
      rcases hX b hx with ⟨i, hi⟩ | hb
      · obtain ⟨j, hj, h8⟩ := back i b hi
        obtain rfl := M.inj k j b h1 h8
        exact c ⟨i, hj⟩
      · exact hd k b h1 hb
theorem Sub.backs {js : List Nat} {σ σ1 : List Nat} (hσ : ∀ (i j : Nat), js[i]? = some j → σ1[i]? = σ[j]?) (hl : σ1.length = js.length) : ∀ (i b : Nat), σ1[i]? = some b → ∃ j, js[i]? = some j ∧ σ[j]? = some b := by
  intro i b h
  have hi : i < js.length := by rw [← hl]; exact (List.getElem?_eq_some_iff.1 h).1
  refine ⟨js[i], List.getElem?_eq_getElem hi, ?_⟩
  rw [← hσ i _ (List.getElem?_eq_getElem hi)]; exact h
theorem Sub.leave {js : List Nat} {H H1 H' : Hp} (S : Sub js H H1) {X : Nat → Prop} {w0 : W0} {σ σ1 σ' : List Nat} {w w' : World} {F : Nat → Prop} (M : MRel X w0 σ H w) (hσ : ∀ (i j : Nat), js[i]? = some j → σ1[i]? = σ[j]?) (hl : σ1.length = js.length)
    (hF : ∀ T, H.m = some T → Mach w F T ∧ (w0.rw = true → ∀ b, F b → X b ∨ w0.w.heap.size ≤ b) ∧ ∀ (k b : Nat), σ[k]? = some b → ¬ F b) (hm : H.m.isSome = true) (hw : H.rw = true) {cs : List Bk} (hB : Back js cs H H')
    (M' : MRel (fun b => (∃ i : Nat, σ1[i]? = some b) ∨ (true = true ∧ F b)) ⟨w, σ1, true, H1.bs.map Bk.T⟩ σ' H' w') : MRel X w0 σ ⟨putAll js cs H.bs, H'.m, H.rw, H.ro⟩ w' := by
  obtain ⟨T, hT⟩ := Option.isSome_iff_exists.1 hm
  obtain ⟨f1, f2, f3⟩ := hF T hT
  have hr := M.rwk hw
  have back := Sub.backs hσ hl
  refine ⟨M.fr.then_ M'.fr ?_, M.own, M.pre, by rw [putAll_len]; exact M.len, S.blk_back M hσ back (fun b h => h.imp id (·.2)) f3 M' hB, M.inj, ?_, M.rwk, S.ty_back M hl M' hB⟩
  · rintro b (⟨i, hi⟩ | ⟨_, hb⟩)
    · obtain ⟨j, hj, h⟩ := back i b hi
      exact M.own j b h (hB.wr i j hj)
    · exact f2 hr b hb
  · intro T' hT'
    obtain ⟨F', g1, g2, g3⟩ := M'.mach T' hT'
    have key : ∀ b, F' b → F b ∨ w.heap.size ≤ b := by
      intro b hb
      rcases g2 rfl b hb with (⟨i, hi⟩ | ⟨_, h⟩) | h
      · exact absurd hb (g3 i b (M'.pre i b hi))
      · exact .inl h
      · exact .inr h
    refine ⟨F', g1, fun _ b hb => ?_, fun k b hk hb => ?_⟩
    · rcases key b hb with h | h
      · exact f2 hr b h
      · exact .inr (Nat.le_trans M.fr.size h)
    · rcases key b hb with h | h
      · exact f3 k b hk h
      · have h9 : k < H.bs.length := by rw [← M.len]; exact (List.getElem?_eq_some_iff.1 hk).1
        have := blk_lt (M.blk k b _ hk (List.getElem?_eq_getElem h9))
        omega
theorem Sub.leave0 {js : List Nat} {H H1 H' : Hp} (S : Sub js H H1) {X : Nat → Prop} {w0 : W0} {σ σ1 σ' : List Nat} {w w' : World} {F : Nat → Prop} (M : MRel X w0 σ H w) (hσ : ∀ (i j : Nat), js[i]? = some j → σ1[i]? = σ[j]?) (hl : σ1.length = js.length)
    {cs : List Bk} (hB : Back js cs H H')
    (M' : MRel (fun b => (∃ i : Nat, σ1[i]? = some b) ∨ (false = true ∧ F b)) ⟨w, σ1, false, H1.bs.map Bk.T⟩ σ' H' w') : MRel X w0 σ ⟨putAll js cs H.bs, H.m, H.rw, H.ro⟩ w' := by
  have back := Sub.backs hσ hl
  refine ⟨M.fr.then_ M'.fr ?_, M.own, M.pre, by rw [putAll_len]; exact M.len, S.blk_back (F := fun _ => False) M hσ back (fun b h => h.imp id (fun h => absurd h.1 (by decide))) (fun _ _ _ h => h) M' hB, M.inj, ?_, M.rwk, S.ty_back M hl M' hB⟩
  · rintro b (⟨i, hi⟩ | ⟨h, _⟩)
    · obtain ⟨j, hj, h⟩ := back i b hi
      exact M.own j b h (hB.wr i j hj)
    · cases h
  · intro T hT
    obtain ⟨F0, g1, g2, g3⟩ := M.mach T hT
    refine ⟨F0, g1.keep M'.fr.size fun b hb => M'.fr.block b (g1.fl b hb) ?_, g2, g3⟩
    rintro (⟨i, hi⟩ | ⟨h, _⟩)
    · obtain ⟨j, hj, h⟩ := back i b hi
      exact g3 j b h hb
    · cases h
def PSub (js : List Nat) : List (Nat × Nat) → List (Nat × Nat) → Prop
  | [], [] => True
  | (k, o) :: l, (i, o') :: l' => (js[i]? = some k ∧ o = o') ∧ PSub js l l'
  | _, _ => False
theorem PSub.rel {js σ σ1 : List Nat} (hσ : ∀ (i j : Nat), js[i]? = some j → σ1[i]? = σ[j]?) : ∀ {l l' : List (Nat × Nat)} {vs : List Value}, PSub js l l' → CRel σ l vs → CRel σ1 l' vs
  | [], [], [], _, _ => trivial
  | [], [], _ :: _, _, h => h.elim
  | [], _ :: _, _, h, _ => h.elim
  | (_, _) :: _, [], _, h, _ => h.elim
  | (_, _) :: _, (_, _) :: _, [], _, h => h.elim
  | (k, o) :: l, (i, o') :: l', v :: vs, ⟨⟨h1, h2⟩, h3⟩, ⟨⟨b, h4, h5⟩, h6⟩ => ⟨⟨b, by rw [hσ _ _ h1]; exact h4, by rw [h5, h2]⟩, h3.rel hσ h6⟩
def ASub (js : List Nat) : AV → AV → Prop
  | .d v, .d v' => v.val = v'.val
  | .p k o, .p i o' => js[i]? = some k ∧ o = o'
  | .l k n, .l i n' => js[i]? = some k ∧ n = n'
  | .c f fs cs, .c f' fs' cs' => f = f' ∧ PSub js fs fs' ∧ PSub js cs cs'
  | _, _ => False
def ASubs (js : List Nat) : List AV → List AV → Prop
  | [], [] => True
  | a :: xs, b :: bs => ASub js a b ∧ ASubs js xs bs
  | _, _ => False
theorem ASub.rel {js σ σ1 : List Nat} (hσ : ∀ (i j : Nat), js[i]? = some j → σ1[i]? = σ[j]?) {a b : AV} (h : ASub js a b) {v : Value} (hv : VRel σ a v) : VRel σ1 b v := by
  cases a <;> cases b <;> first | (exact h.elim) | skip
  · have hv' : v = _ := hv
    show v = _
    rw [hv']; exact h
  · obtain ⟨h1, rfl⟩ := h
    obtain ⟨x, h2, h3⟩ := hv
    exact ⟨x, by rw [hσ _ _ h1]; exact h2, h3⟩
  · obtain ⟨h1, rfl⟩ := h
    obtain ⟨x, h2, h3⟩ := hv
    exact ⟨x, by rw [hσ _ _ h1]; exact h2, h3⟩
  · obtain ⟨rfl, h1, h2⟩ := h
    obtain ⟨fv, cv, h3, h4, h5⟩ := hv
    exact ⟨fv, cv, h1.rel hσ h3, h2.rel hσ h4, h5⟩
theorem ASubs.at_ {js : List Nat} : ∀ {xs bs : List AV}, ASubs js xs bs → xs.length = bs.length ∧ ∀ (i : Nat) (b : AV), bs[i]? = some b → ∃ a, xs[i]? = some a ∧ ASub js a b
  | [], [], _ => ⟨rfl, fun i b h => by cases h⟩
  | [], _ :: _, h => h.elim
  | _ :: _, [], h => h.elim
  | a :: xs, b :: bs, ⟨h1, h2⟩ => by
    obtain ⟨h3, h4⟩ := ASubs.at_ h2
    refine ⟨by simp [h3], fun i x hx => ?_⟩
    cases i with
    | zero => cases hx; exact ⟨a, rfl, h1⟩
    | succ i => exact h4 i x hx
theorem ASubs.rel {js σ σ1 : List Nat} (hσ : ∀ (i j : Nat), js[i]? = some j → σ1[i]? = σ[j]?) {xs bs : List AV} (h : ASubs js xs bs) {vals : Array Value} (F : FRel σ xs vals) : FRel σ1 bs vals := by
  obtain ⟨h1, h2⟩ := h.at_
  refine ⟨by rw [← h1]; exact F.size, fun i b hb => ?_⟩
  obtain ⟨a, h3, h4⟩ := h2 i b hb
  obtain ⟨v, h5, h6⟩ := F.at_ i a h3
  exact ⟨v, h5, h4.rel hσ h6⟩
theorem resVal_told {t : Tr} {sh : List DK} {m : Bool} {av : AV} (h : told t sh = some (m, av)) (σ : List Nat) : VRel σ av (resVal (outs t 0 sh)) ∧ m = t.needB := by
  unfold told at h
  split at h
  · cases h; exact ⟨rfl, rfl⟩
  · rename_i h1; cases h
    refine ⟨?_, rfl⟩
    show resVal (outs t 0 sh) = .tuple _
    match sh, h1 with
    | [], _ => rfl
    | [k], h1 => exact absurd rfl (h1 k)
    | a :: b :: l, _ => rfl
def Tr.normR : Tr → Tr
  | .fail => .fail
  | .ret vs m => .ret vs m
  | .test b y n => .test b y.normR n.normR
  | .need b t => .need b t.normR
  | .both a _ => a.normR
theorem normR_eq : ∀ (t : Tr), t.normR = t.norm
  | .fail => rfl
  | .ret _ _ => rfl
  | .test b y n => by show Tr.test b y.normR n.normR = .test b y.norm n.norm; rw [normR_eq y, normR_eq n]
  | .need b t => by show Tr.need b t.normR = .need b t.norm; rw [normR_eq t]
  | .both a _ => normR_eq a
def Tr.LL : Tr → List Tr
  | .fail => []
  | .ret _ _ => []
  | .test _ y n => y.LL ++ n.LL
  | .need _ t => t.LL
  | .both a b => a.norm :: (a.LL ++ b.LL)
def Tr.RR : Tr → List Tr
  | .fail => []
  | .ret _ _ => []
  | .test _ y n => y.RR ++ n.RR
  | .need _ t => t.RR
  | .both a b => b.normR :: (a.RR ++ b.RR)
theorem LL_eq : ∀ (t : Tr), t.LL = t.L
  | .fail => rfl
  | .ret _ _ => rfl
  | .test b y n => by show y.LL ++ n.LL = y.L ++ n.L; rw [LL_eq y, LL_eq n]
  | .need b t => LL_eq t
  | .both a b => by show a.norm :: (a.LL ++ b.LL) = a.norm :: (a.L ++ b.L); rw [LL_eq a, LL_eq b]
theorem RR_eq : ∀ (t : Tr), t.RR = t.R
  | .fail => rfl
  | .ret _ _ => rfl
  | .test b y n => by show y.RR ++ n.RR = y.R ++ n.R; rw [RR_eq y, RR_eq n]
  | .need b t => RR_eq t
  | .both a b => by show b.normR :: (a.RR ++ b.RR) = b.norm :: (a.R ++ b.R); rw [RR_eq a, RR_eq b, normR_eq]
theorem LR_of {t : Tr} (h : t.LL = t.RR) : t.L = t.R := by rw [← LL_eq, ← RR_eq]; exact h
theorem read_ok {P : Program} {E : Env} (hE : EnvOk P E) (hm : P.follows .mixedOrders = true) {f : FuncId} {fn : Func} (hf : P.funcs[f]? = some fn) {n : Nat} {js : List Nat} {H H1 : Hp} (S : Sub js H H1) (hrw : H1.rw = false) (hro : H1.ro = js.length) {avs args : List AV} (hA : ASubs js avs args)
    {sh : List DK} {t : Tr} (ht : t = evFX P E n fn args H1) (hs : t.is sh = true) {m : Bool} {av : AV} (h : told t sh = some (m, av)) (hn : m = true) (hL : t.LL = t.RR := by kernel_rfl) : ReadOk P f avs H av := by
  intro X w0 σ w vals F M
  refine ⟨resVal (outs t 0 sh), (resVal_told h σ).1, fun w1 hb => ?_⟩
  obtain ⟨σ1, hσ, M1⟩ := S.enterR (M.step hb) hrw hro
  have hneed : t.needB = true := by rw [← (resVal_told h σ).2]; exact hn
  have hnf : H1.nf = 0 := by
    unfold Hp.nf
    split
    · rename_i e; rw [S.len]; omega
    · rfl
  refine (evFX_ok hE hm hf (ht ▸ outs_norm hneed hs (LR_of hL)) (hA.rel hσ F) M1).mono ?_
  rintro e w' ⟨vs, m', σ', H', h1, rfl, M', _⟩
  refine ⟨?_, M'.fr.below⟩
  rw [hnf] at h1
  have h1' : resVal vs = resVal (outs t 0 sh) := by rw [ht]; simpa using h1
  rw [h1']
theorem outs_all (sh : List DK) : ∀ (t : Tr), t.ok → t.is sh = true → t.holds fun vs _ => vs.map Dv.val = (outs t 0 sh).map Dv.val
  | .fail, h, _ => h
  | .ret vs m, _, h => (outs_ret m vs sh 0 vs (fun m => by rw [Nat.zero_add]) h).symm
  | .test b y n, h, hi => by
    have h' : y.is sh = true ∧ n.is sh = true := by simpa [Tr.is] using hi
    refine ⟨fun e => ?_, fun e => ?_⟩
    · subst e
      have := outs_like (t := .test true y n) (t' := y) ⟨fun _ _ => rfl, fun _ _ => rfl, fun _ _ => rfl, fun _ _ => rfl, fun _ _ => rfl⟩ sh 0
      rw [this]; exact outs_all sh y (h.1 rfl) h'.1
    · subst e
      have := outs_like (t := .test false y n) (t' := n) ⟨fun _ _ => rfl, fun _ _ => rfl, fun _ _ => rfl, fun _ _ => rfl, fun _ _ => rfl⟩ sh 0
      rw [this]; exact outs_all sh n (h.2 rfl) h'.2
  | .need b t, h, hi => by
    have := outs_like (t := .need b t) (t' := t) ⟨fun _ _ => rfl, fun _ _ => rfl, fun _ _ => rfl, fun _ _ => rfl, fun _ _ => rfl⟩ sh 0
    rw [this]; exact ⟨h.1, outs_all sh t h.2 hi⟩
  | .both _ _, h, _ => h.elim
theorem outs_alln {t : Tr} {sh : List DK} (h : t.needB = true) (hs : t.is sh = true) : t.norm.holds fun vs _ => vs.map Dv.val = (outs t 0 sh).map Dv.val := by
  have := outs_all sh t.norm (Tr.ok_norm h) (by rw [norm_is]; exact hs)
  rw [outs_like (norm_like t)] at this
  exact this
def Tr.selM (S : HS) : Tr → HS
  | .fail => S
  | .ret _ m => match m with
    | some T => T
    | none => S
  | .test b y n => bif b then y.selM S else n.selM S
  | .need _ t => t.selM S
  | .both a _ => a.selM S
def Tr.theM (t : Tr) (S : HS) : HS := { bus := (t.selM S).bus, tl := (t.selM S).tl, b := S.b, p := S.p, t := S.t }
def Tr.setM (S : HS) : Tr → Tr
  | .fail => .fail
  | .ret vs m => match m with
    | some T => .ret vs (some { bus := T.bus, tl := T.tl, b := S.b, p := S.p, t := S.t })
    | none => .fail
  | .test b y n => .test b (y.setM S) (n.setM S)
  | .need b t => .need b (t.setM S)
  | .both a b => .both (a.setM S) (b.setM S)
theorem theM_holds (S : HS) : ∀ (t : Tr), t.ok → t.setM S = t → t.holds fun _ m => m = some (t.theM S)
  | .fail, h, _ => h
  | .ret vs m, _, h => by
    cases m with
    | none => cases h
    | some T =>
      have h' : Tr.ret vs (some { bus := T.bus, tl := T.tl, b := S.b, p := S.p, t := S.t }) = .ret vs (some T) := h
      injection h' with _ h'
      exact h'.symm
  | .test b y n, h, hi => by
    have hi' : Tr.test b (y.setM S) (n.setM S) = .test b y n := hi
    injection hi' with _ h1 h2
    refine ⟨fun e => ?_, fun e => ?_⟩
    · subst e; exact theM_holds S y (h.1 rfl) h1
    · subst e; exact theM_holds S n (h.2 rfl) h2
  | .need b t, h, hi => by
    have hi' : Tr.need b (t.setM S) = .need b t := hi
    injection hi' with _ h1
    exact ⟨h.1, theM_holds S t h.2 h1⟩
  | .both _ _, h, _ => h.elim
theorem norm_setM (S : HS) : ∀ (t : Tr), (t.setM S).norm = t.norm.setM S
  | .fail => rfl
  | .ret vs m => by cases m <;> rfl
  | .test b y n => by show Tr.test b (y.setM S).norm (n.setM S).norm = .test b (y.norm.setM S) (n.norm.setM S); rw [norm_setM S y, norm_setM S n]
  | .need b t => by show Tr.need b (t.setM S).norm = .need b (t.norm.setM S); rw [norm_setM S t]
  | .both a _ => norm_setM S a
theorem norm_selM (S : HS) : ∀ (t : Tr), t.norm.selM S = t.selM S
  | .fail => rfl
  | .ret _ _ => rfl
  | .test b y n => by show (bif b then y.norm.selM S else n.norm.selM S) = (bif b then y.selM S else n.selM S); rw [norm_selM S y, norm_selM S n]
  | .need b t => norm_selM S t
  | .both a _ => norm_selM S a
theorem theM_norm {S : HS} {t : Tr} (h : t.needB = true) (hM : t.setM S = t) : t.norm.holds fun _ m => m = some (t.theM S) := by
  have := theM_holds S t.norm (Tr.ok_norm h) (by rw [← norm_setM, hM])
  have e : t.norm.theM S = t.theM S := by unfold Tr.theM; rw [norm_selM]
  rw [e] at this
  exact this
theorem holds_and {R R' : List Dv → Option HS → Prop} : ∀ (t : Tr), t.holds R → t.holds R' → t.holds fun vs m => R vs m ∧ R' vs m
  | .fail, h, _ => h
  | .ret _ _, h, h' => ⟨h, h'⟩
  | .test _ y n, h, h' => ⟨fun e => holds_and y (h.1 e) (h'.1 e), fun e => holds_and n (h.2 e) (h'.2 e)⟩
  | .need _ t, h, h' => ⟨h.1, holds_and t h.2 h'.2⟩
  | .both a b, h, h' => ⟨holds_and a h.1 h'.1, holds_and b h.2 h'.2⟩
theorem outs_app (t : Tr) : ∀ (a b : List DK) (i : Nat), outs t i (a ++ b) = outs t i a ++ outs t (i + a.length) b
  | [], b, i => rfl
  | k :: a, b, i => by
    show selD t i k :: outs t (i + 1) (a ++ b) = selD t i k :: (outs t (i + 1) a ++ outs t (i + (a.length + 1)) b)
    rw [outs_app t a b (i + 1), show i + 1 + a.length = i + (a.length + 1) by omega]
theorem outs_len (t : Tr) : ∀ (a : List DK) (i : Nat), (outs t i a).length = a.length
  | [], i => rfl
  | k :: a, i => by show (outs t (i + 1) a).length + 1 = a.length + 1; rw [outs_len t a]
def blks (t : Tr) : Nat → List (TypeId × List CK) → List Bk
  | _, [] => []
  | i, (T, ks) :: l => ⟨T, selG t i 0 ks⟩ :: blks t (i + 1) l
def bsh (l : List (TypeId × List CK)) : List DK := l.map fun x => .g x.2
theorem blks_at (t : Tr) : ∀ (l : List (TypeId × List CK)) (i k : Nat) (x : TypeId × List CK), l[k]? = some x → (blks t i l)[k]? = some ⟨x.1, selG t (i + k) 0 x.2⟩
  | [], i, k, x, h => by cases h
  | (T, ks) :: l, i, k, x, h => by
    cases k with
    | zero => cases h; rfl
    | succ k =>
      show (blks t (i + 1) l)[k]? = _
      rw [blks_at t l (i + 1) k x h, show i + 1 + k = i + (k + 1) by omega]
theorem outs_bsh (t : Tr) : ∀ (l : List (TypeId × List CK)) (i k : Nat) (x : TypeId × List CK), l[k]? = some x → (outs t i (bsh l))[k]? = some (.g (selG t (i + k) 0 x.2))
  | [], i, k, x, h => by cases h
  | (T, ks) :: l, i, k, x, h => by
    cases k with
    | zero => cases h; rfl
    | succ k =>
      show (outs t (i + 1) (bsh l))[k]? = _
      rw [outs_bsh t l (i + 1) k x h, show i + 1 + k = i + (k + 1) by omega]
theorem split_vals {t : Tr} {sh : List DK} {l : List (TypeId × List CK)} {vs : List Dv} {bs : List Dv} (hl : bs.length = l.length) (h : (vs ++ bs).map Dv.val = (outs t 0 (sh ++ bsh l)).map Dv.val) :
    resVal vs = resVal (outs t 0 sh) ∧ ∀ (k : Nat) (d : Dv) (x : TypeId × List CK), bs[k]? = some d → l[k]? = some x → d.val = .agg (flat (selG t (sh.length + k) 0 x.2)).toArray := by
  rw [outs_app, List.map_append, List.map_append] at h
  have hb : (outs t (0 + sh.length) (bsh l)).length = l.length := by rw [outs_len]; simp [bsh]
  have hlen := congrArg List.length h
  simp only [List.length_append, List.length_map, hb, hl] at hlen
  obtain ⟨h1, h2⟩ := List.append_inj h (by simp; omega)
  refine ⟨resVal_map h1, fun k d x hk hx => ?_⟩
  have h3 := congrArg (fun l => l[k]?) h2
  simp only [List.getElem?_map, hk, outs_bsh t l _ k x hx, Option.map_some] at h3
  have h3' : d.val = Dv.val (.g (selG t (0 + sh.length + k) 0 x.2)) := by injection h3
  rw [h3', Nat.zero_add]; rfl
theorem agg_flat {cs : List Ch} {l : List Value} (h : Dv.val (.g cs) = .agg l.toArray) : flat cs = l := by
  have h' : Value.agg (flat cs).toArray = .agg l.toArray := h
  injection h' with h'
  simpa using congrArg Array.toList h'
def setC (c : Ch) : List Dv → Nat → Nat → List Dv
  | [], _, _ => [.g []]
  | d :: vs, 0, j => .g (d.chs.take j ++ c :: d.chs.drop (j + 1)) :: vs
  | d :: vs, i + 1, j => d :: setC c vs i j
theorem pick_setC {c : Ch} : ∀ {vs : List Dv} {i j : Nat}, setC c vs i j = vs → pickC vs i j = c
  | [], i, j, h => by unfold setC at h; cases h
  | d :: vs, 0, j, h => by
    unfold setC at h
    injection h with h _
    have hc := congrArg Dv.chs h
    have hc' : d.chs.take j ++ c :: d.chs.drop (j + 1) = d.chs := hc
    have hl := congrArg List.length hc'
    simp at hl
    have hj : j < d.chs.length := by omega
    have : d.chs[j]? = some c := by rw [← hc', List.getElem?_append_right (by simp; omega)]; simp [Nat.min_eq_left (Nat.le_of_lt hj)]
    show d.chs.getD j _ = c
    rw [List.getD_eq_getElem?_getD, this]; rfl
  | d :: vs, i + 1, j, h => by
    unfold setC at h
    injection h with _ h
    show pickC vs i j = c
    exact pick_setC h
def Tr.setV (i j b : Nat) : Tr → Tr
  | .fail => .fail
  | .ret vs m => .ret (setC (.x false (.pointer (some ⟨b, 0, none⟩))) vs i j) m
  | .test c y n => .test c (y.setV i j b) (n.setV i j b)
  | .need c t => .need c (t.setV i j b)
  | .both x y => .both (x.setV i j b) (y.setV i j b)
theorem sel_setV {i j b : Nat} : ∀ (t : Tr), t.ok → t.setV i j b = t → t.sel (.pointer none) (fun vs => (pickC vs i j).V) = .pointer (some ⟨b, 0, none⟩)
  | .fail, h, _ => h.elim
  | .ret vs m, _, h => by
    have h' : Tr.ret (setC (.x false (.pointer (some ⟨b, 0, none⟩))) vs i j) m = .ret vs m := h
    injection h' with h' _
    show (pickC vs i j).V = _
    rw [pick_setC h']; rfl
  | .test c y n, h, hi => by
    have hi' : Tr.test c (y.setV i j b) (n.setV i j b) = .test c y n := hi
    injection hi' with _ h1 h2
    cases c
    · exact sel_setV n (h.2 rfl) h2
    · exact sel_setV y (h.1 rfl) h1
  | .need c t, h, hi => by
    have hi' : Tr.need c (t.setV i j b) = .need c t := hi
    injection hi' with _ h1
    exact sel_setV t h.2 h1
  | .both _ _, h, _ => h.elim
theorem norm_setV (i j b : Nat) : ∀ (t : Tr), (t.setV i j b).norm = t.norm.setV i j b
  | .fail => rfl
  | .ret _ _ => rfl
  | .test c y n => by show Tr.test c (y.setV i j b).norm (n.setV i j b).norm = .test c (y.norm.setV i j b) (n.norm.setV i j b); rw [norm_setV i j b y, norm_setV i j b n]
  | .need c t => by show Tr.need c (t.setV i j b).norm = .need c (t.norm.setV i j b); rw [norm_setV i j b t]
  | .both a _ => norm_setV i j b a
theorem sel_setVn {i j b : Nat} {t : Tr} (h : t.needB = true) (hV : t.setV i j b = t) : t.sel (.pointer none) (fun vs => (pickC vs i j).V) = .pointer (some ⟨b, 0, none⟩) := by
  have := sel_setV t.norm (Tr.ok_norm h) (by rw [← norm_setV, hV])
  rw [norm_sel] at this
  exact this
def KRel (t : Tr) (i : Nat) : Nat → List CK → List CK → Prop
  | _, [], [] => True
  | j, k :: ks, k' :: ks' => (k' = k ∨ (k = .v ∧ ∃ b, k' = .k b ∧ t.setV i j b = t)) ∧ KRel t i (j + 1) ks ks'
  | _, _, _ => False
theorem KRel.flat {t : Tr} (ht : t.needB = true) {i : Nat} : ∀ {j : Nat} {ks ks' : List CK}, KRel t i j ks ks' → Go.Proofs.YtfehilinnalflaaGreat.flat (selG t i j ks') = Go.Proofs.YtfehilinnalflaaGreat.flat (selG t i j ks)
  | _, [], [], _ => rfl
  | _, [], _ :: _, h => h.elim
  | _, _ :: _, [], h => h.elim
  | j, k :: ks, k' :: ks', ⟨h, hr⟩ => by
    show (selC t i j k').cells ++ Go.Proofs.YtfehilinnalflaaGreat.flat (selG t i (j + 1) ks') = (selC t i j k).cells ++ Go.Proofs.YtfehilinnalflaaGreat.flat (selG t i (j + 1) ks)
    rw [KRel.flat ht hr]
    rcases h with rfl | ⟨rfl, b, rfl, h⟩
    · rfl
    · have := sel_setVn ht h
      show [Value.pointer (some ⟨b, 0, none⟩)] ++ _ = [t.sel (.pointer none) fun vs => (pickC vs i j).V] ++ _
      rw [this]
def KRels (t : Tr) : Nat → List (TypeId × List CK) → List (TypeId × List CK) → Prop
  | _, [], [] => True
  | i, (T, ks) :: l, (T', ks') :: l' => (T' = T ∧ KRel t i 0 ks ks') ∧ KRels t (i + 1) l l'
  | _, _, _ => False
theorem KRels.at_ {t : Tr} (ht : t.needB = true) : ∀ {i : Nat} {l l' : List (TypeId × List CK)}, KRels t i l l' → ∀ (k : Nat) (c : Bk), (blks t i l)[k]? = some c → ∃ c', (blks t i l')[k]? = some c' ∧ c'.T = c.T ∧ Go.Proofs.YtfehilinnalflaaGreat.flat c'.cs = Go.Proofs.YtfehilinnalflaaGreat.flat c.cs
  | _, [], [], _, k, c, h => by cases h
  | _, [], _ :: _, h, _, _, _ => h.elim
  | _, _ :: _, [], h, _, _, _ => h.elim
  | i, (T, ks) :: l, (T', ks') :: l', ⟨⟨h1, h2⟩, h3⟩, k, c, h => by
    cases k with
    | zero => cases h; exact ⟨_, rfl, h1, h2.flat ht⟩
    | succ k => exact KRels.at_ ht h3 k c h
theorem Back.to {js : List Nat} {cs cs' : List Bk} {H H' : Hp} (h : Back js cs H H') (hc : ∀ (k : Nat) (c : Bk), cs[k]? = some c → ∃ c', cs'[k]? = some c' ∧ c'.T = c.T ∧ Go.Proofs.YtfehilinnalflaaGreat.flat c'.cs = Go.Proofs.YtfehilinnalflaaGreat.flat c.cs) : Back js cs' H H' :=
  ⟨fun i bk hi hb => by
    obtain ⟨c, h1, h2, h3⟩ := h.at_ i bk hi hb
    obtain ⟨c', h4, h5, h6⟩ := hc i c h1
    exact ⟨c', h4, h5.trans h2, h6.trans h3⟩, h.wr⟩
structure Shp (H1 : Hp) (l : List (TypeId × List CK)) : Prop where
  ro : H1.ro = 0
  len : H1.bs.length = l.length
  ty : ∀ (k : Nat) (x : TypeId × List CK) (bk : Bk), l[k]? = some x → H1.bs[k]? = some bk → bk.T = x.1
theorem back_of {js : List Nat} {H H1 H' : Hp} (S : Sub js H H1) {l : List (TypeId × List CK)} (hs : Shp H1 l) (hwr : ∀ (i j : Nat), js[i]? = some j → H.ro ≤ j) {t : Tr} {sh : List DK} {X1 : Nat → Prop} {σ1 σ' : List Nat} {r : Bool} {w w' : World}
    (M' : MRel X1 ⟨w, σ1, r, H1.bs.map Bk.T⟩ σ' H' w') {vs : List Dv} (h : (vs ++ (H'.bs.take H1.nf).map fun (bk : Bk) => Dv.g bk.cs).map Dv.val = (outs t 0 (sh ++ bsh l)).map Dv.val) :
    resVal vs = resVal (outs t 0 sh) ∧ Back js (blks t sh.length l) H H' := by
  have hnf : H1.nf = l.length := by unfold Hp.nf; rw [if_pos hs.ro]; exact hs.len
  have hex : ∀ k, k < l.length → ∃ bk, H'.bs[k]? = some bk ∧ ∃ bk1, H1.bs[k]? = some bk1 ∧ bk.T = bk1.T := by
    intro k hk
    have hk1 : k < H1.bs.length := by rw [hs.len]; exact hk
    obtain ⟨bk, h1, h2⟩ := M'.ty k H1.bs[k].T (by show (H1.bs.map Bk.T)[k]? = _; rw [List.getElem?_map, List.getElem?_eq_getElem hk1]; rfl)
    exact ⟨bk, h1, _, List.getElem?_eq_getElem hk1, h2⟩
  have hlen : l.length ≤ H'.bs.length := by
    by_cases c : l.length = 0
    · omega
    · obtain ⟨bk, h1, _⟩ := hex (l.length - 1) (by omega)
      have := (List.getElem?_eq_some_iff.1 h1).1
      omega
  obtain ⟨h1, h2⟩ := split_vals (by rw [hnf]; simp; omega) h
  refine ⟨h1, fun i bk hi hbk => ?_, hwr⟩
  have hil : i < l.length := by rw [← hs.len, S.len]; exact hi
  have hx := List.getElem?_eq_getElem hil
  refine ⟨_, blks_at t l sh.length i _ hx, ?_, ?_⟩
  · obtain ⟨bk', h3, bk1, h4, h5⟩ := hex i hil
    rw [hbk] at h3; cases h3
    rw [h5]; exact (hs.ty i _ bk1 hx h4).symm
  · have h6 := h2 i (.g bk.cs) _ (by rw [List.getElem?_map, hnf, List.getElem?_take_of_lt hil, hbk]; rfl) hx
    exact (agg_flat h6).symm
theorem turn0_ok {P : Program} {E : Env} (hE : EnvOk P E) (hm : P.follows .mixedOrders = true) {f : FuncId} {fn : Func} (hf : P.funcs[f]? = some fn) {n : Nat} {js : List Nat} {H H1 : Hp} (S : Sub js H H1) (hrw : H1.rw = false) {l : List (TypeId × List CK)} (hs : Shp H1 l) (hwr : ∀ (i j : Nat), js[i]? = some j → H.ro ≤ j)
    {avs args : List AV} (hA : ASubs js avs args) {sh : List DK} {t : Tr} (ht : t = evFX P E n fn args H1) (his : t.is (sh ++ bsh l) = true) {l' : List (TypeId × List CK)} (hK : KRels t sh.length l l') {m : Bool} {av : AV} (h : told t sh = some (m, av)) (hn : m = true) (hL : t.LL = t.RR := by kernel_rfl) :
    TurnOk P f avs H av ⟨putAll js (blks t sh.length l') H.bs, H.m, H.rw, H.ro⟩ := by
  intro X w0 σ w vals F M
  obtain ⟨σ1, F0, hσ, hl, hF, M1⟩ := S.enter M hrw
  have hok : t.needB = true := by rw [← (resVal_told h σ).2]; exact hn
  refine (evFX_ok hE hm hf (ht ▸ holds_norm t (LR_of hL) (outs_alln hok his)) (hA.rel hσ F) M1).mono ?_
  rintro e w' ⟨vs, m', σ', H', h1, rfl, M', _⟩
  obtain ⟨h2, h3⟩ := back_of (sh := sh) (t := t) S hs hwr M' (by rw [ht]; exact h1)
  exact ⟨_, rfl, by rw [h2]; exact (resVal_told h σ).1, S.leave0 M hσ hl (h3.to (KRels.at_ hok hK)) M'⟩
theorem turn_ok {P : Program} {E : Env} (hE : EnvOk P E) (hm : P.follows .mixedOrders = true) {f : FuncId} {fn : Func} (hf : P.funcs[f]? = some fn) {n : Nat} {js : List Nat} {H H1 : Hp} (S : Sub js H H1) (hrw : H1.rw = true) (hw : H.rw = true) {T : HS} (hT : H.m = some T) {l : List (TypeId × List CK)} (hs : Shp H1 l)
    (hwr : ∀ (i j : Nat), js[i]? = some j → H.ro ≤ j) {avs args : List AV} (hA : ASubs js avs args) {sh : List DK} {t : Tr} (ht : t = evFX P E n fn args H1) (his : t.is (sh ++ bsh l) = true) {l' : List (TypeId × List CK)} (hK : KRels t sh.length l l') (hM : t.setM T = t) {m : Bool} {av : AV} (h : told t sh = some (m, av)) (hn : m = true) (hL : t.LL = t.RR := by kernel_rfl) :
    TurnOk P f avs H av ⟨putAll js (blks t sh.length l') H.bs, some (t.theM T), H.rw, H.ro⟩ := by
  intro X w0 σ w vals F M
  obtain ⟨σ1, F0, hσ, hl, hF, M1⟩ := S.enter M hrw
  have hok : t.needB = true := by rw [← (resVal_told h σ).2]; exact hn
  refine (evFX_ok hE hm hf (ht ▸ holds_norm t (LR_of hL) (holds_and _ (outs_alln hok his) (theM_norm hok hM))) (hA.rel hσ F) M1).mono ?_
  rintro e w' ⟨vs, m', σ', H', ⟨h1, h1m⟩, rfl, M', hm'⟩
  obtain ⟨h2, h3⟩ := back_of (sh := sh) (t := t) S hs hwr M' (by rw [ht]; exact h1)
  refine ⟨_, rfl, by rw [h2]; exact (resVal_told h σ).1, ?_⟩
  have := S.leave M hσ hl hF (by rw [hT]; rfl) hw (h3.to (KRels.at_ hok hK)) M'
  rw [hm', h1m] at this
  rw [ht]; exact ht ▸ this
def cP : Ch → Option Nat
  | .x _ (.pointer (some ⟨b, 0, none⟩)) => some b
  | _ => none
theorem cP_ok {c : Ch} {b : Nat} (h : cP c = some b) : c.cells = (Ch.x false (.pointer (some ⟨b, 0, none⟩))).cells ∧ c.one = (Ch.x false (.pointer (some ⟨b, 0, none⟩))).one := by
  unfold cP at h
  split at h
  · cases h; exact ⟨rfl, rfl⟩
  · cases h
theorem Sub.none (H : Hp) (rw : Bool) (m : Option HS) (hm : ∀ T, m = some T → H.m = some T) : Sub [] H ⟨[], m, rw, 0⟩ := ⟨rfl, fun i j bk h => (by cases h), fun i i' j h => (by cases h), hm⟩
theorem Sub.one {H : Hp} {k : Nat} {bk bk1 : Bk} (h : H.bs[k]? = some bk) (hT : bk.T = bk1.T) (hf : flat bk.cs = flat bk1.cs) (m : Option HS) (hm : ∀ T, m = some T → H.m = some T) (rw : Bool) (ro : Nat) : Sub [k] H ⟨[bk1], m, rw, ro⟩ := by
  refine ⟨rfl, fun i j b hj hb => ?_, fun i i' j h1 h2 => ?_, hm⟩
  · cases i with
    | zero => cases hj; cases hb; exact ⟨bk, h, hT, hf⟩
    | succ i => cases hj
  · cases i with
    | zero => cases i' with
      | zero => rfl
      | succ i' => cases h2
    | succ i => cases h1
theorem Shp.none (m : Option HS) (rw : Bool) : Shp ⟨[], m, rw, 0⟩ [] := ⟨rfl, rfl, fun k x bk h => (by cases h)⟩
theorem Shp.one (T : TypeId) (cs : List Ch) (ks : List CK) (m : Option HS) (rw : Bool) : Shp ⟨[⟨T, cs⟩], m, rw, 0⟩ [(T, ks)] := by
  refine ⟨rfl, rfl, fun k x bk h1 h2 => ?_⟩
  cases k with
  | zero => cases h1; cases h2; rfl
  | succ k => cases h1
theorem wr_one {H : Hp} {k : Nat} (h : H.ro ≤ k) : ∀ (i j : Nat), [k][i]? = some j → H.ro ≤ j := by
  intro i j hj
  cases i with
  | zero => cases hj; exact h
  | succ i => cases hj
end Go.Proofs.YtfehilinnalflaaGreat
namespace Go.Proofs.YtfehilinnalflaaGreat
open Go.RowKit Go.BigFrame
set_option linter.unusedSimpArgs false
set_option linter.unusedVariables false
set_option maxRecDepth 100000
def FB (b p g : Nat) (ks : Nat → Option Nat) (c : Nat) : Prop := c = b ∨ c = p ∨ c = g ∨ ∃ i, i < 8 ∧ ks i = some c
def XBus (w w' : World) (b p g : Nat) (ks : Nat → Option Nat) (S : BusV) : Prop :=
  ∃ ks' vs', IsBus w' 0 b p g ks' vs' S ∧ Fr (FB b p g ks) w w' ∧ ∀ i k, i < 8 → ks' i = some k → ks i = some k ∨ w.heap.size ≤ k
theorem Mach.open_ {w : World} {F : Nat → Prop} {S : HS} (M : Mach w F S) : ∃ g ks vs, IsBus w 0 S.b S.p g ks vs S.bus ∧ ∀ w' B', XBus w w' S.b S.p g ks B' → ∃ F' : Nat → Prop, Mach w' F' { bus := B', tl := S.tl, b := S.b, p := S.p, t := S.t } ∧ (∀ c, F' c → F c ∨ w.heap.size ≤ c) ∧ Fr F w w' := by
  obtain ⟨g, ks, vs, h1, h2, h3, h4, h5, h6, h7, h8, h9⟩ := M.bus
  refine ⟨g, ks, vs, h1, fun w' B' h => ?_⟩
  obtain ⟨ks', vs', j1, j2, j3⟩ := h
  have hFB : ∀ c, FB S.b S.p g ks c → F c := by
    rintro c (rfl | rfl | rfl | ⟨i, hi, e⟩)
    · exact h2
    · exact h3
    · exact h4
    · exact h5 i c hi e
  have htl := blk_lt M.tlb
  have hn : ∀ c, FB S.b S.p g ks c → c ≠ S.t := by
    rintro c (rfl | rfl | rfl | ⟨i, hi, e⟩)
    · exact fun e => h6 e.symm
    · exact fun e => h7 e.symm
    · exact fun e => h8 e.symm
    · exact fun e2 => h9 i hi (by rw [e, e2])
  refine ⟨fun c => FB S.b S.p g ks' c ∨ c = S.t, ⟨⟨g, ks', vs', j1, .inl (.inl rfl), .inl (.inr (.inl rfl)), .inl (.inr (.inr (.inl rfl))), fun i k hi e => .inl (.inr (.inr (.inr ⟨i, hi, e⟩))), h6, h7, h8, fun i hi e => ?_⟩, ?_, .inr rfl, ?_⟩, ?_, j2.mono hFB⟩
  · rcases j3 i _ hi e with e | e
    · exact h9 i hi e
    · exact absurd e (Nat.not_le.2 htl)
  · show w'.heap[S.t]? = _
    rw [j2.block _ htl (fun e => hn _ e rfl)]
    exact M.tlb
  · rintro c (h | rfl)
    · rcases h with rfl | rfl | rfl | ⟨i, hi, e⟩
      · exact blk_lt j1.blk
      · exact j1.mem.p_lt
      · exact j1.mem.g_lt
      · have := j1.row i hi
        rw [e] at this
        exact this.lt
    · exact Nat.lt_of_lt_of_le htl j2.size
  · rintro c (h | rfl)
    · rcases h with rfl | rfl | rfl | ⟨i, hi, e⟩
      · exact .inl h2
      · exact .inl h3
      · exact .inl h4
      · rcases j3 i _ hi e with e | e
        · exact .inl (h5 i c hi e)
        · exact .inr e
    · exact .inl M.ft
theorem xsettime (b p g : Nat) (ks : Nat → Option Nat) (vs : Nat → Value) (x : BitVec 64) (S : BusV) (w : World) (h : IsBus w 0 b p g ks vs S) :
    Calls Tryz.prog 45 #[.pointer (some ⟨b, 0, none⟩), U x] w fun e w' => e = .returned (.tuple #[]) ∧ XBus w w' b p g ks { S with t := x } := by
  have key := astore b 1 S.t x w h.c1 (h.free 1)
  have fin := Lib.hid (show XBus w (w.setCell ⟨b, 1, none⟩ (U x)) b p g ks { S with t := x } from
    ⟨ks, vs, h.turn (set_upd _ _ _ _) x S.al S.ns (set_block h.blk (show 1 < 15 by decide)), Fr.of_upd (set_upd _ _ _ _) (.inl rfl), fun i k _ e => .inl e⟩)
  clear h
  go_enter Tryz.func45, Tryz.ntmps45
  go_wp2_with fail
  (with_reducible refine key.mono ?_)
  rintro e w1 ⟨rfl, rfl⟩
  go_wp2
  go_end0
  exact ⟨rfl, fin.out⟩
theorem xwrite_alarm (b p g : Nat) (ks : Nat → Option Nat) (vs : Nat → Value) (S : BusV) (x : BitVec 64) (w : World) (h : IsBus w 0 b p g ks vs S) :
    Calls Tryz.prog 112 #[.pointer (some ⟨b, 0, none⟩), .int .u64 61448, .int .i64 8, U x] w fun e w' => e = .returned (.bool true) ∧ XBus w w' b p g ks { S with al := x } := by
  have c2 := h.c2
  have f2 := h.free 2
  have fin := Lib.hid (show XBus w (w.setCell ⟨b, 2, none⟩ (U x)) b p g ks { S with al := x } from
    ⟨ks, vs, h.turn (set_upd _ _ _ _) S.t x S.ns (set_block h.blk (show 2 < 15 by decide)), Fr.of_upd (set_upd _ _ _ _) (.inl rfl), fun i k _ e => .inl e⟩)
  generalize S.al = t at *
  clear h
  go_enter Tryz.func112, Tryz.ntmps112
  go_wp2
  go_ret
  exact ⟨rfl, fin.out⟩
theorem xwrite_mem (b p g : Nat) (ks : Nat → Option Nat) (vs : Nat → Value) (S : BusV) (a : BitVec 64) (n : Int) (x : BitVec 64) (w : World) (h : IsBus w 0 b p g ks vs S) (hc : conOf a n = none) (h2 : ¬ (a.toNat = 61448 ∧ n = 8)) :
    Calls Tryz.prog 112 #[.pointer (some ⟨b, 0, none⟩), U a, .int .i64 n, U x] w fun e w' => e = .returned (.bool (codeOf a n == 0)) ∧ XBus w w' b p g ks { S with f := wrF S.f a n x } := by
  have hp := h.c0
  have kc := bcon b a n w
  rw [hc] at kc
  have kr := write_all a n x w h.mem
  have H := Lib.hid h
  generalize wrF S.f a n x = f' at *
  have e2 : (((a.toNat : Int) == 61448) && (n == 8)) = false := by rw [Bool.eq_false_iff]; intro e; rw [Bool.and_eq_true, beq_iff_eq, beq_iff_eq] at e; omega
  generalize hb2 : ((a.toNat : Int) == 61448) = b2 at *
  generalize hb3 : (n == 8) = b3 at *
  generalize codeOf a n = c at *
  clear h h2 hc
  go_enter Tryz.func112, Tryz.ntmps112
  cases b2 <;> cases b3 <;> first
    | (exact absurd e2 (by decide))
    | (go_wp2_with fail
       (with_reducible refine kc.mono ?_)
       rintro e w1 ⟨rfl, rfl⟩
       go_wp2_with fail
       (with_reducible refine kr.mono ?_)
       rintro e w2 ⟨rfl, hu, hM⟩
       go_wp2
       go_ret
       exact ⟨rfl, ks, vs, H.out.mem_turn hu hM, Fr.of_upd hu (.inr (.inr (.inl rfl))), fun i k _ e => .inl e⟩)
set_option maxHeartbeats 2000000 in
theorem xwrite_con (b p g k : Nat) (ks : Nat → Option Nat) (vs : Nat → Value) (S : BusV) (a x : BitVec 64) (w : World) (h : IsBus w 0 b p g ks vs S) (hc : conOf a 1 = some k) (hl : (S.ls (2 * k + 1)).length ≤ 64) :
    Calls Tryz.prog 112 #[.pointer (some ⟨b, 0, none⟩), U a, .int .i64 1, U x] w fun e w' => e = .returned (.bool true) ∧
      XBus w w' b p g ks { S with ls := updN S.ls (2 * k + 1) (last64 (S.ls (2 * k + 1) ++ [UInt8.ofNat x.toNat])), nil := updN S.nil (2 * k + 1) false } := by
  obtain ⟨hk, _, ha⟩ := con_lt hc
  have kc := bcon b a 1 w
  rw [hc] at kc
  have co : cellOf (2 * k + 1) = 3 + 3 * k + 1 := by unfold cellOf; omega
  obtain ⟨xb, hxb⟩ : ∃ xb : UInt8, xb = UInt8.ofNat x.toNat := ⟨_, rfl⟩
  have hxw : IntKind.u8.wrap (x.toNat : Int) = (xb.toNat : Int) := by rw [hxb]; simp [go_sem, IntKind.wrap, IntKind.signed, IntKind.bits]
  have ci := h.crow (2 * k + 1) (by omega)
  have fr := h.free (3 + 3 * k + 1)
  rw [co] at ci
  have hrow := h.row (2 * k + 1) (by omega)
  rw [← hxb]
  have hbl := blk_lt h.blk
  -- the new slice of one byte, and the append
  have hW0 : Below w.heap.size w (w.alloc (.cells #[.int .u8 (xb.toNat : Int)] 5)) := (Below.refl _ _).alloc (Nat.le_refl _) _
  have hI := h.below hW0
  have hnew : (w.alloc (.cells #[.int .u8 (xb.toNat : Int)] 5)).cell? ⟨w.heap.size, 0, none⟩ = some (.int .u8 (xb.toNat : Int)) := by rw [World.cell?_alloc_at _ _ _ _ rfl]; rfl
  have hWs : (w.alloc (.cells #[.int .u8 (xb.toNat : Int)] 5)).heap.size = w.heap.size + 1 := by simp
  obtain ⟨W, hW⟩ : ∃ W, W = w.alloc (.cells #[.int .u8 (xb.toNat : Int)] 5) := ⟨_, rfl⟩
  rw [← hW] at hW0 hI hnew hWs
  obtain ⟨v1, k1, w1, hap, hr1, hu1, hk1⟩ := append_row (hI.row (2 * k + 1) (by omega)) (by omega) 84 (.slice (some ⟨w.heap.size, 0, none⟩) 1 1) [xb]
    (Src.ofSlice (P := Tryz.prog) W Tryz.underlying84 ⟨w.heap.size, 0, none⟩ 1 1 _ rfl (by
      intro j u hj
      match j, hj with
      | 0, hj => simp at hj; subst hj; simpa [Addr.add] using hnew) (by intro u hu; simp at hu; subst hu; rfl)) (by simp; omega)
  rw [hW] at hap
  have T1 := hI.turn_row (2 * k + 1) (by omega) k1 v1 _ hu1 hr1 (hk1.elim .inl fun e => .inr (.inr ⟨_, e, Nat.le_refl _⟩))
  rw [co] at T1
  obtain ⟨v2, hsl, hr2⟩ := row_drop hr1 ((S.ls (2 * k + 1) ++ [xb]).length - 64) (by omega) .i64
  have hsz1 := hu1.size
  have hkb : ks (2 * k + 1) ≠ some b := (h.far (2 * k + 1) (by omega)).2.1
  have hbW : b < W.heap.size := by omega
  have cw1 : w1.cell? ⟨b, 3 + 3 * k + 1, none⟩ = some (vs (2 * k + 1)) := (World.cell?_of_block (a := ⟨b, 3 + 3 * k + 1, none⟩) (hu1.block b hbW hkb)).trans (by have := hI.crow (2 * k + 1) (by omega); rw [co] at this; exact this)
  have fw1 : w1.frozen? ⟨b, 3 + 3 * k + 1, none⟩ = false := (World.frozen?_of_block (a := ⟨b, 3 + 3 * k + 1, none⟩) (hu1.block b hbW hkb)).trans (hI.free _)
  have c2 := T1.crow (2 * k + 1) (by omega)
  rw [co, updN_same] at c2
  have f2 := T1.free (3 + 3 * k + 1)
  have hkF : ∀ q, ks (2 * k + 1) = some q → FB b p g ks q := fun q hq => .inr (.inr (.inr ⟨_, by omega, hq⟩))
  have b1 : Fr (FB b p g ks) w (w1.setCell ⟨b, 3 + 3 * k + 1, none⟩ v1) := ((Fr.of_below hW0).trans ⟨hu1.os, hu1.tape, hu1.output, hu1.size, fun i hi hn => hu1.block i hi (fun e => hn (hkF i e))⟩).trans (Fr.of_upd (set_upd _ _ _ _) (.inl rfl))
  have fin : ∀ j, XBus w (((w1.setCell ⟨b, 3 + 3 * k + 1, none⟩ v1).drewN j).setCell ⟨b, 3 + 3 * k + 1, none⟩ v2) b p g ks { S with ls := updN S.ls (2 * k + 1) (last64 (S.ls (2 * k + 1) ++ [xb])), nil := updN S.nil (2 * k + 1) false } := by
    intro j
    have T2 := (T1.below (Below.of_drew j))
    have T3 := T2.turn_row (2 * k + 1) (by omega) k1 v2 (last64 (S.ls (2 * k + 1) ++ [xb])) ⟨rfl, rfl, rfl, Nat.le_refl _, fun _ _ _ => rfl⟩ (hr2.same fun q hq hql => by
      show (w1.setCell _ _).heap[q]? = _
      exact set_other _ _ _ _ _ (fun e => by
        have := (T1.far (2 * k + 1) (by omega)).2.1
        rw [updN_same] at this
        exact this (by rw [hq, e]))) (.inl (updN_same _ _ _).symm)
    rw [co] at T3
    have e : updN (updN S.ls (2 * k + 1) (S.ls (2 * k + 1) ++ [xb])) (2 * k + 1) (last64 (S.ls (2 * k + 1) ++ [xb])) = updN S.ls (2 * k + 1) (last64 (S.ls (2 * k + 1) ++ [xb])) := by
      funext i; unfold updN; split <;> rfl
    have e' : updN (updN S.nil (2 * k + 1) false) (2 * k + 1) false = updN S.nil (2 * k + 1) false := by
      funext i; unfold updN; split <;> rfl
    simp only [e, e'] at T3
    refine ⟨_, _, T3, (b1.trans (Fr.of_below (Below.of_drew j))).trans (Fr.of_upd (set_upd _ _ _ _) (.inl rfl)), fun i q hi hq => ?_⟩
    unfold updN at hq
    split at hq
    · rename_i ei
      rcases hk1 with hk1 | hk1
      · exact .inl (by rw [ei, ← hk1]; exact hq)
      · rw [hq] at hk1; cases hk1; exact .inr (by omega)
    · exact .inl hq
  have FIN := Lib.hid fin
  obtain ⟨n1, hn1⟩ : ∃ n1, n1 = (S.ls (2 * k + 1) ++ [xb]).length := ⟨_, rfl⟩
  obtain ⟨a1, q1, hv1⟩ : ∃ a1 q1, v1 = .slice a1 n1 q1 := by rw [hn1]; exact hr1.shape
  obtain ⟨a2, m2, q2, hv2⟩ : ∃ a2 m2 q2, v2 = .slice a2 m2 q2 := by obtain ⟨x1, x2, x3⟩ := hr2.shape; exact ⟨_, _, _, x3⟩
  have hn1l : n1 ≤ 65 := by rw [hn1]; simp; omega
  rw [← hn1] at hsl
  have nw : IntKind.i64.wrap ((n1 : Int) - 64) = (n1 : Int) - 64 := IntWalk.i64_in _ ⟨by omega, by omega⟩
  have mx := fun W => max_run (P := Tryz.prog) #[3, 3] 3 .i64 ((n1 : Int) - 64) 0 ((n1 - 64 : Nat) : Int) (by split <;> omega) W
  obtain ⟨av, lv, cv, hv0⟩ : ∃ av lv cv, vs (2 * k + 1) = .slice av lv cv := by obtain ⟨x1, x2, x3⟩ := hrow.shape; exact ⟨_, _, _, x3⟩
  obtain ⟨t1, t2⟩ := at_con ha hk
  simp only [Option.map_some] at kc
  rw [hv0] at ci cw1 hap
  obtain ⟨yb, hyb⟩ : ∃ yb : Int, yb = (xb.toNat : Int) := ⟨_, rfl⟩
  rw [← hyb] at hxw hap
  obtain ⟨S', hS'⟩ : ∃ S', S' = { S with ls := updN S.ls (2 * k + 1) (last64 (S.ls (2 * k + 1) ++ [xb])), nil := updN S.nil (2 * k + 1) false } := ⟨_, rfl⟩
  rw [← hS'] at FIN ⊢
  generalize n1 - 64 = d at *
  generalize hO : 3 + 3 * k = o at *
  clear h hc hl hk ha co hrow hbl hW0 hI hnew hWs hr1 hu1 hk1 T1 hr2 hsz1 hkb hbW hkF b1 fin hn1 hn1l hO hS' hyb hW
  subst hv1 hv2
  go_enter Tryz.func112, Tryz.ntmps112
  go_wp2_with fail
  (with_reducible refine kc.mono ?_)
  rintro e w4 ⟨rfl, rfl⟩
  go_wp2_with (at_builtin; refine wpList_append_run rfl _ _ _ _ rfl _ _ rfl rfl _ _ hap ?_)
  go_region
  all_goals (try go_wp2)
  all_goals go_ret
  all_goals exact ⟨rfl, FIN.out 1⟩
end Go.Proofs.YtfehilinnalflaaGreat
namespace Go.Proofs.YtfehilinnalflaaGreat
open Go.RowKit Go.BigFrame
set_option linter.unusedSimpArgs false
set_option linter.unusedVariables false
set_option maxRecDepth 100000
theorem FRel.uncons {σ : List Nat} {a : AV} {l : List AV} {args : List Value} (h : FRel σ (a :: l) args.toArray) : ∃ v vs, args = v :: vs ∧ VRel σ a v ∧ FRel σ l vs.toArray := by
  have hs := h.size
  cases args with
  | nil => simp at hs
  | cons v vs =>
    obtain ⟨v', h1, h2⟩ := h.at_ 0 a rfl
    have e : v = v' := by simpa using h1
    subst e
    refine ⟨v, vs, rfl, h2, by simpa using hs, fun i av hi => ?_⟩
    obtain ⟨u, h3, h4⟩ := h.at_ (i + 1) av hi
    exact ⟨u, by simpa using h3, h4⟩
theorem FRel.nil_ {σ : List Nat} {args : List Value} (h : FRel σ [] args.toArray) : args = [] := by
  have hs := h.size
  cases args with
  | nil => rfl
  | cons v vs => simp at hs
theorem MRel.mach_at {X : Nat → Prop} {w0 : W0} {σ : List Nat} {H : Hp} {w w1 : World} (M : MRel X w0 σ H w) {S : HS} (hS : H.m = some S) (hb : Below w.heap.size w w1) : ∃ F, Mach w1 F S := by
  obtain ⟨F, h, _⟩ := (M.step hb).mach S hS
  exact ⟨F, h⟩
theorem MRel.eff {X : Nat → Prop} {w0 : W0} {σ : List Nat} {H : Hp} {w w' : World} (M : MRel X w0 σ H w) (hw : H.rw = true) {S S' : HS} (hS : H.m = some S) {F : Nat → Prop} (f2 : w0.rw = true → ∀ b, F b → X b ∨ w0.w.heap.size ≤ b) (f3 : ∀ (k b : Nat), σ[k]? = some b → ¬ F b) (h : ∃ F' : Nat → Prop, Mach w' F' S' ∧ (∀ c, F' c → F c ∨ w.heap.size ≤ c) ∧ Fr F w w') :
    MRel X w0 σ ⟨H.bs, some S', H.rw, H.ro⟩ w' := by
  obtain ⟨F', h1, h2, h3⟩ := h
  have hr := M.rwk hw
  refine ⟨M.fr.then_ h3 (f2 hr), M.own, M.pre, M.len, fun k b bk a1 a2 => ?_, M.inj, fun T hT => ?_, M.rwk, M.ty⟩
  · have h7 := M.blk k b bk a1 a2
    rw [h3.block b (blk_lt h7) (f3 k b a1)]; exact h7
  · cases hT
    refine ⟨F', h1, fun _ b hb => ?_, fun k b hk hb => ?_⟩
    · rcases h2 b hb with h | h
      · exact f2 hr b h
      · exact .inr (Nat.le_trans M.fr.size h)
    · rcases h2 b hb with h | h
      · exact f3 k b hk h
      · have h9 : k < H.bs.length := by rw [← M.len]; exact (List.getElem?_eq_some_iff.1 hk).1
        have := blk_lt (M.blk k b _ hk (List.getElem?_eq_getElem h9))
        omega
def s_memRead (avs : List AV) (H : Hp) : Option (Bool × AV) :=
  match avs, H.m with
  | [.d (.s (.x _ (.pointer (some ⟨p, 0, none⟩)))), .d (.s (.u _ a)), .d (.s (.x _ (.int .i64 n)))], some S => some (decide (p = S.p), .t [.s (.u false (rdF S.bus.f a n)), .s (.x false (.int .i64 (codeOf a n)))])
  | _, _ => none
noncomputable def E_memRead : Env := FnKE.addR 170 s_memRead
theorem E_memRead_ok : EnvOk Tryz.prog E_memRead := FnKE_ok.addR _ _ (fun xs => by kernel_rfl) (by
  intro avs H n av h hn X w0 σ w args F M
  unfold s_memRead at h
  split at h
  · rename_i s1 p s2 a s3 m S hS
    cases h
    obtain ⟨v1, l1, rfl, e1, F⟩ := F.uncons
    obtain ⟨v2, l2, rfl, e2, F⟩ := F.uncons
    obtain ⟨v3, l3, rfl, e3, F⟩ := F.uncons
    obtain rfl := F.nil_
    have hp : p = S.p := of_decide_eq_true hn
    have e1' : v1 = .pointer (some ⟨p, 0, none⟩) := e1
    have e2' : v2 = U a := e2
    have e3' : v3 = .int .i64 m := e3
    refine ⟨_, rfl, fun w1 hb => ?_⟩
    obtain ⟨G, hM⟩ := M.mach_at hS hb
    obtain ⟨g, ks, vs, hI, _⟩ := hM.bus
    rw [e1', e2', e3', hp]
    exact read_all a m w1 hI.mem
  · cases h)
def rowsNil (S : BusV) : Bool := (S.ls 0).isEmpty && (S.ls 2).isEmpty && (S.ls 4).isEmpty && (S.ls 6).isEmpty
def outsShort (S : BusV) : Bool := decide ((S.ls 1).length ≤ 64) && decide ((S.ls 3).length ≤ 64) && decide ((S.ls 5).length ≤ 64) && decide ((S.ls 7).length ≤ 64)
def busV (S : BusV) (a : BitVec 64) (n : Int) : BitVec 64 := if a.toNat = 61440 ∧ n = 8 then S.t else if a.toNat = 61448 ∧ n = 8 then S.al else if (conOf a n).isSome = true then 0#64 else rdF S.f a n
def busOk (a : BitVec 64) (n : Int) : Bool := decide (a.toNat = 61440 ∧ n = 8) || decide (a.toNat = 61448 ∧ n = 8) || (conOf a n).isSome || codeOf a n == 0
theorem conOf_one {a : BitVec 64} {n : Int} {k : Nat} (h : conOf a n = some k) : n = 1 ∧ k < 4 := by
  unfold conOf at h
  split at h
  · rename_i c
    cases h
    obtain ⟨c1, c2⟩ := c
    refine ⟨by omega, by omega⟩
  · cases h
theorem rowsNil_at {S : BusV} (h : rowsNil S = true) (k : Nat) (hk : k < 4) : S.ls (2 * k) = [] := by
  unfold rowsNil at h
  simp only [Bool.and_eq_true, List.isEmpty_iff] at h
  have h4 : k = 0 ∨ k = 1 ∨ k = 2 ∨ k = 3 := by omega
  rcases h4 with rfl | rfl | rfl | rfl
  · exact h.1.1.1
  · exact h.1.1.2
  · exact h.1.2
  · exact h.2
theorem outsShort_at {S : BusV} (h : outsShort S = true) (k : Nat) (hk : k < 4) : (S.ls (2 * k + 1)).length ≤ 64 := by
  unfold outsShort at h
  simp only [Bool.and_eq_true, decide_eq_true_eq] at h
  have h4 : k = 0 ∨ k = 1 ∨ k = 2 ∨ k = 3 := by omega
  rcases h4 with rfl | rfl | rfl | rfl
  · exact h.1.1.1
  · exact h.1.1.2
  · exact h.1.2
  · exact h.2
theorem bread_any (b B : Nat) (S : BusV) (a : BitVec 64) (n : Int) (w : World) (h : Bus w B b S) (hr : rowsNil S = true) :
    Calls Tryz.prog 113 #[.pointer (some ⟨b, 0, none⟩), U a, .int .i64 n] w fun e w' => e = .returned (.tuple #[U (busV S a n), .bool (busOk a n)]) ∧ Below w.heap.size w w' := by
  unfold busV busOk
  by_cases h1 : a.toNat = 61440 ∧ n = 8
  · obtain ⟨ha, rfl⟩ := h1
    have hv : U a = .int .u64 61440 := by show Value.int .u64 (a.toNat : Int) = _; rw [ha]; rfl
    rw [hv]
    simp only [ha, and_self, if_true, decide_true, Bool.true_or]
    exact (bread_time b B S w h).mono fun e w' ⟨h1, h2⟩ => ⟨h1, by rw [h2]; exact Below.refl _ _⟩
  by_cases h2 : a.toNat = 61448 ∧ n = 8
  · obtain ⟨ha, rfl⟩ := h2
    have hv : U a = .int .u64 61448 := by show Value.int .u64 (a.toNat : Int) = _; rw [ha]; rfl
    rw [hv]
    have n1 : ¬ (61448 = 61440 ∧ (8 : Int) = 8) := by decide
    simp only [ha, and_self, n1, if_true, if_false, decide_true, decide_false, Bool.true_or, Bool.false_or]
    exact (bread_alarm b B S w h).mono fun e w' ⟨h1, h2⟩ => ⟨h1, by rw [h2]; exact Below.refl _ _⟩
  rw [if_neg h1, if_neg h2, decide_eq_false h1, decide_eq_false h2]
  cases hc : conOf a n with
  | some k =>
    obtain ⟨rfl, hk⟩ := conOf_one hc
    simp only [Option.isSome_some, if_true, Bool.true_or, Bool.false_or]
    exact (bread_con0 b B k S a w h hc (rowsNil_at hr k hk)).mono fun e w' ⟨h1, h2⟩ => ⟨h1, by rw [h2]; exact Below.refl _ _⟩
  | none =>
    simp only [Option.isSome_none, if_false, Bool.false_or, Bool.false_eq_true]
    exact bread_mem b B S a n w h hc h1 h2
def s_busRead (avs : List AV) (H : Hp) : Option (Bool × AV) :=
  match avs, H.m with
  | [.d (.s (.x _ (.pointer (some ⟨p, 0, none⟩)))), .d (.s (.u _ a)), .d (.s (.x _ (.int .i64 n)))], some S => some (decide (p = S.b) && rowsNil S.bus, .t [.s (.u false (busV S.bus a n)), .s (.x false (.bool (busOk a n)))])
  | _, _ => none
noncomputable def E_busRead : Env := E_memRead.addR 113 s_busRead
theorem E_busRead_ok : EnvOk Tryz.prog E_busRead := E_memRead_ok.addR _ _ (fun xs => by kernel_rfl) (by
  intro avs H n av h hn X w0 σ w args F M
  unfold s_busRead at h
  split at h
  · rename_i s1 p s2 a s3 m S hS
    cases h
    obtain ⟨v1, l1, rfl, e1, F⟩ := F.uncons
    obtain ⟨v2, l2, rfl, e2, F⟩ := F.uncons
    obtain ⟨v3, l3, rfl, e3, F⟩ := F.uncons
    obtain rfl := F.nil_
    rw [Bool.and_eq_true] at hn
    have hp : p = S.b := of_decide_eq_true hn.1
    have e1' : v1 = .pointer (some ⟨p, 0, none⟩) := e1
    have e2' : v2 = U a := e2
    have e3' : v3 = .int .i64 m := e3
    refine ⟨_, rfl, fun w1 hb => ?_⟩
    obtain ⟨G, hM⟩ := M.mach_at hS hb
    obtain ⟨g, ks, vs, hI, _⟩ := hM.bus
    rw [e1', e2', e3', hp]
    exact bread_any S.b 0 S.bus a m w1 ⟨_, _, _, _, hI⟩ hn.2
  · cases h)
def s_busDev (avs : List AV) (H : Hp) : Option (Bool × AV) :=
  match avs with
  | [.d (.s (.x _ (.pointer (some ⟨p, 0, none⟩)))), .d (.s (.u _ a))] => some (true, .d (.s (.x false (.bool (decide (61440 ≤ a.toNat ∧ a.toNat < 62720))))))
  | _ => none
noncomputable def E_busDev : Env := E_busRead.addR 111 s_busDev
theorem E_busDev_ok : EnvOk Tryz.prog E_busDev := E_busRead_ok.addR _ _ (fun xs => by kernel_rfl) (by
  intro avs H n av h hn X w0 σ w args F M
  unfold s_busDev at h
  split at h
  · rename_i s1 p s2 a
    cases h
    obtain ⟨v1, l1, rfl, e1, F⟩ := F.uncons
    obtain ⟨v2, l2, rfl, e2, F⟩ := F.uncons
    obtain rfl := F.nil_
    have e1' : v1 = .pointer (some ⟨p, 0, none⟩) := e1
    have e2' : v2 = U a := e2
    refine ⟨_, rfl, fun w1 hb => ?_⟩
    rw [e1', e2']
    exact (bdevice p a w1).mono fun e w' ⟨h1, h2⟩ => ⟨h1, by rw [h2]; exact Below.refl _ _⟩
  · cases h)
def s_busTimer (avs : List AV) (H : Hp) : Option (Bool × AV) :=
  match avs, H.m with
  | [.d (.s (.x _ (.pointer (some ⟨p, 0, none⟩))))], some S => some (decide (p = S.b), .d (.s (.x false (.bool (decide (S.bus.al.toNat ≤ S.bus.t.toNat))))))
  | _, _ => none
noncomputable def E_busTimer : Env := E_busDev.addR 65 s_busTimer
theorem E_busTimer_ok : EnvOk Tryz.prog E_busTimer := E_busDev_ok.addR _ _ (fun xs => by kernel_rfl) (by
  intro avs H n av h hn X w0 σ w args F M
  unfold s_busTimer at h
  split at h
  · rename_i s1 p S hS
    cases h
    obtain ⟨v1, l1, rfl, e1, F⟩ := F.uncons
    obtain rfl := F.nil_
    have hp : p = S.b := of_decide_eq_true hn
    have e1' : v1 = .pointer (some ⟨p, 0, none⟩) := e1
    refine ⟨_, rfl, fun w1 hb => ?_⟩
    obtain ⟨G, hM⟩ := M.mach_at hS hb
    obtain ⟨g, ks, vs, hI, _⟩ := hM.bus
    rw [e1', hp]
    exact (btimer S.b 0 S.bus w1 ⟨_, _, _, _, hI⟩).mono fun e w' ⟨h1, k, h2⟩ => ⟨h1, by rw [h2]; exact Below.of_drew k⟩
  · cases h)
theorem bmem_b (b p g : Nat) (ks : Nat → Option Nat) (vs : Nat → Value) (S : BusV) (w : World) (h : IsBus w 0 b p g ks vs S) :
    Calls Tryz.prog 109 #[.pointer (some ⟨b, 0, none⟩)] w fun e w' => e = .returned (.pointer (some ⟨p, 0, none⟩)) ∧ w = w' := by
  have hp := h.c0
  clear h
  go_enter Tryz.func109, Tryz.ntmps109
  go_wp2
  go_ret
  exact ⟨rfl, rfl⟩
def s_busMem (avs : List AV) (H : Hp) : Option (Bool × AV) :=
  match avs, H.m with
  | [.d (.s (.x _ (.pointer (some ⟨p, 0, none⟩))))], some S => some (decide (p = S.b), .d (.s (.x false (.pointer (some ⟨S.p, 0, none⟩)))))
  | _, _ => none
noncomputable def E_busMem : Env := E_busTimer.addR 109 s_busMem
theorem E_busMem_ok : EnvOk Tryz.prog E_busMem := E_busTimer_ok.addR _ _ (fun xs => by kernel_rfl) (by
  intro avs H n av h hn X w0 σ w args F M
  unfold s_busMem at h
  split at h
  · rename_i s1 p S hS
    cases h
    obtain ⟨v1, l1, rfl, e1, F⟩ := F.uncons
    obtain rfl := F.nil_
    have hp : p = S.b := of_decide_eq_true hn
    have e1' : v1 = .pointer (some ⟨p, 0, none⟩) := e1
    refine ⟨_, rfl, fun w1 hb => ?_⟩
    obtain ⟨G, hM⟩ := M.mach_at hS hb
    obtain ⟨g, ks, vs, hI, _⟩ := hM.bus
    rw [e1', hp]
    exact (bmem_b _ _ _ _ _ _ w1 hI).mono fun e w' ⟨h1, h2⟩ => ⟨h1, by rw [h2]; exact Below.refl _ _⟩
  · cases h)
def busWrOk (a : BitVec 64) (n : Int) : Bool := decide (a.toNat = 61448 ∧ n = 8) || (conOf a n).isSome || codeOf a n == 0
def busWr (S : BusV) (a : BitVec 64) (n : Int) (x : BitVec 64) : BusV :=
  if a.toNat = 61448 ∧ n = 8 then { S with al := x } else match conOf a n with
    | some k => { S with ls := updN S.ls (2 * k + 1) (last64 (S.ls (2 * k + 1) ++ [UInt8.ofNat x.toNat])), nil := updN S.nil (2 * k + 1) false }
    | none => { S with f := wrF S.f a n x }
theorem xwrite_any (b p g : Nat) (ks : Nat → Option Nat) (vs : Nat → Value) (S : BusV) (a : BitVec 64) (n : Int) (x : BitVec 64) (w : World) (h : IsBus w 0 b p g ks vs S) (hl : outsShort S = true) :
    Calls Tryz.prog 112 #[.pointer (some ⟨b, 0, none⟩), U a, .int .i64 n, U x] w fun e w' => e = .returned (.bool (busWrOk a n)) ∧ XBus w w' b p g ks (busWr S a n x) := by
  unfold busWrOk busWr
  by_cases h2 : a.toNat = 61448 ∧ n = 8
  · obtain ⟨ha, rfl⟩ := h2
    have hv : U a = .int .u64 61448 := by show Value.int .u64 (a.toNat : Int) = _; rw [ha]; rfl
    rw [hv]
    simp only [ha, and_self, if_true, decide_true, Bool.true_or]
    exact xwrite_alarm b p g ks vs S x w h
  rw [if_neg h2, decide_eq_false h2]
  cases hc : conOf a n with
  | some k =>
    obtain ⟨rfl, hk⟩ := conOf_one hc
    simp only [Option.isSome_some, Bool.true_or, Bool.false_or]
    exact xwrite_con b p g k ks vs S a x w h hc (outsShort_at hl k hk)
  | none =>
    simp only [Option.isSome_none, Bool.false_or]
    exact xwrite_mem b p g ks vs S a n x w h hc h2
def s_busWrite (avs : List AV) (H : Hp) : Option (Bool × AV × HS) :=
  match avs, H.m, H.rw with
  | [.d (.s (.x _ (.pointer (some ⟨p, 0, none⟩)))), .d (.s (.u _ a)), .d (.s (.x _ (.int .i64 n))), .d (.s (.u _ x))], some S, true => some (decide (p = S.b) && outsShort S.bus, .d (.s (.x false (.bool (busWrOk a n)))), { bus := busWr S.bus a n x, tl := S.tl, b := S.b, p := S.p, t := S.t })
  | _, _, _ => none
noncomputable def E_busWrite : Env := E_busMem.addM 112 s_busWrite
theorem E_busWrite_ok : EnvOk Tryz.prog E_busWrite := E_busMem_ok.addM _ _ (fun xs => by kernel_rfl) (by
  intro avs H n av S' h hn X w0 σ w args F M
  unfold s_busWrite at h
  split at h
  · rename_i s1 p s2 a s3 m s4 x S hS hw
    cases h
    obtain ⟨v1, l1, rfl, e1, F⟩ := F.uncons
    obtain ⟨v2, l2, rfl, e2, F⟩ := F.uncons
    obtain ⟨v3, l3, rfl, e3, F⟩ := F.uncons
    obtain ⟨v4, l4, rfl, e4, F⟩ := F.uncons
    obtain rfl := F.nil_
    rw [Bool.and_eq_true] at hn
    have hp : p = S.b := of_decide_eq_true hn.1
    have e1' : v1 = .pointer (some ⟨p, 0, none⟩) := e1
    have e2' : v2 = U a := e2
    have e3' : v3 = .int .i64 m := e3
    have e4' : v4 = U x := e4
    obtain ⟨F0, f1, f2, f3⟩ := M.mach S hS
    obtain ⟨g, ks, vs, hI, hX⟩ := f1.open_
    rw [e1', e2', e3', e4', hp]
    refine (xwrite_any S.b S.p g ks vs S.bus a m x w hI hn.2).mono ?_
    rintro e w' ⟨rfl, hx⟩
    exact ⟨_, rfl, rfl, M.eff hw hS f2 f3 (hX w' _ hx)⟩
  · cases h)
def s_setTime (avs : List AV) (H : Hp) : Option (Bool × AV × HS) :=
  match avs, H.m, H.rw with
  | [.d (.s (.x _ (.pointer (some ⟨p, 0, none⟩)))), .d (.s (.u _ x))], some S, true => some (decide (p = S.b), .t [], { bus := { S.bus with t := x }, tl := S.tl, b := S.b, p := S.p, t := S.t })
  | _, _, _ => none
noncomputable def E_setTime : Env := E_busWrite.addM 45 s_setTime
theorem E_setTime_ok : EnvOk Tryz.prog E_setTime := E_busWrite_ok.addM _ _ (fun xs => by kernel_rfl) (by
  intro avs H n av S' h hn X w0 σ w args F M
  unfold s_setTime at h
  split at h
  · rename_i s1 p s4 x S hS hw
    cases h
    obtain ⟨v1, l1, rfl, e1, F⟩ := F.uncons
    obtain ⟨v4, l4, rfl, e4, F⟩ := F.uncons
    obtain rfl := F.nil_
    have hp : p = S.b := of_decide_eq_true hn
    have e1' : v1 = .pointer (some ⟨p, 0, none⟩) := e1
    have e4' : v4 = U x := e4
    obtain ⟨F0, f1, f2, f3⟩ := M.mach S hS
    obtain ⟨g, ks, vs, hI, hX⟩ := f1.open_
    rw [e1', e4', hp]
    refine (xsettime S.b S.p g ks vs x S.bus w hI).mono ?_
    rintro e w' ⟨rfl, hx⟩
    exact ⟨_, rfl, rfl, M.eff hw hS f2 f3 (hX w' _ hx)⟩
  · cases h)
noncomputable def McE : Env := E_setTime
theorem McE_ok : EnvOk Tryz.prog McE := E_setTime_ok
end Go.Proofs.YtfehilinnalflaaGreat
namespace Go.Proofs.YtfehilinnalflaaGreat
open Go.RowKit Go.BigFrame
set_option linter.unusedSimpArgs false
set_option linter.unusedVariables false
set_option maxRecDepth 100000
noncomputable def t_decode_of_1 (b0 : Int) (a1 : Int) (a2 : Int) : Tr := evFX Tryz.prog McE 120 Tryz.f171 [.d (.s (.x false (.int .i64 a1))), .d (.s (.x false (.int .i64 a2))), .p 0 0] ⟨[⟨26, [.x false (.int .u32 b0)]⟩], none, false, 1⟩
theorem is_decode_of_1 (b0 : Int) (a1 : Int) (a2 : Int) : (t_decode_of_1 b0 a1 a2).is ([.s (.i .i64)]) = true := by kernel_rfl
noncomputable def s_decode_of_1 (avs : List AV) (H : Hp) : Option (Bool × AV) :=
  match avs with
  | [.d (.s c1), .d (.s c2), .p k0 0] => match H.bs[k0]? with
    | some ⟨T0, [d0]⟩ => if T0 = 26 then (cI .u32 d0).bind fun b0 => (cI .i64 c1).bind fun a1 => (cI .i64 c2).bind fun a2 => told (t_decode_of_1 b0 a1 a2) [.s (.i .i64)] else none
    | _ => none
  | _ => none
noncomputable def E_decode_of_1 : Env := McE.addR 171 s_decode_of_1
theorem E_decode_of_1_ok : EnvOk Tryz.prog E_decode_of_1 := McE_ok.addR _ _ (fun xs => by kernel_rfl) (by
  intro avs H n av h hn
  unfold s_decode_of_1 at h
  split at h
  · rename_i c1 c2 k0
    split at h
    · rename_i T0 d0 hbk
      split at h
      · rename_i hT0
        obtain ⟨b0, g0, h⟩ := bind_some h
        obtain ⟨a1, h1, h⟩ := bind_some h
        obtain ⟨a2, h2, h⟩ := bind_some h
        exact read_ok (n := 120) (avs := [.d (.s c1), .d (.s c2), .p k0 0]) (args := [.d (.s (.x false (.int .i64 a1))), .d (.s (.x false (.int .i64 a2))), .p 0 0]) (t := (t_decode_of_1 b0 a1 a2)) (sh := [.s (.i .i64)]) McE_ok hmix Tryz.func171 (Sub.one hbk hT0 (by simp only [flat, (cI_ok g0).1]) _ (fun T h => by cases h) false 1) rfl rfl ⟨(by show Dv.val _ = Dv.val _; simp only [Dv.val, flat, (cI_ok h1).2]), (by show Dv.val _ = Dv.val _; simp only [Dv.val, flat, (cI_ok h2).2]), ⟨rfl, rfl⟩, trivial⟩ rfl (is_decode_of_1 b0 a1 a2) h hn
      · cases h
    · cases h
  · cases h)
noncomputable def t_pte_May_1 (b0 : Int) (a1 : Int) : Tr := evFX Tryz.prog E_decode_of_1 120 Tryz.f209 [.d (.s (.x false (.int .i64 a1))), .p 0 0] ⟨[⟨3, [.x false (.int .i64 b0)]⟩], none, false, 1⟩
theorem is_pte_May_1 (b0 : Int) (a1 : Int) : (t_pte_May_1 b0 a1).is ([.s (.b)]) = true := by kernel_rfl
noncomputable def s_pte_May_1 (avs : List AV) (H : Hp) : Option (Bool × AV) :=
  match avs with
  | [.d (.s c1), .p k0 0] => match H.bs[k0]? with
    | some ⟨T0, [d0]⟩ => if T0 = 3 then (cI .i64 d0).bind fun b0 => (cI .i64 c1).bind fun a1 => told (t_pte_May_1 b0 a1) [.s (.b)] else none
    | _ => none
  | _ => none
noncomputable def E_pte_May_1 : Env := E_decode_of_1.addR 209 s_pte_May_1
theorem E_pte_May_1_ok : EnvOk Tryz.prog E_pte_May_1 := E_decode_of_1_ok.addR _ _ (fun xs => by kernel_rfl) (by
  intro avs H n av h hn
  unfold s_pte_May_1 at h
  split at h
  · rename_i c1 k0
    split at h
    · rename_i T0 d0 hbk
      split at h
      · rename_i hT0
        obtain ⟨b0, g0, h⟩ := bind_some h
        obtain ⟨a1, h1, h⟩ := bind_some h
        exact read_ok (n := 120) (avs := [.d (.s c1), .p k0 0]) (args := [.d (.s (.x false (.int .i64 a1))), .p 0 0]) (t := (t_pte_May_1 b0 a1)) (sh := [.s (.b)]) E_decode_of_1_ok hmix Tryz.func209 (Sub.one hbk hT0 (by simp only [flat, (cI_ok g0).1]) _ (fun T h => by cases h) false 1) rfl rfl ⟨(by show Dv.val _ = Dv.val _; simp only [Dv.val, flat, (cI_ok h1).2]), ⟨rfl, rfl⟩, trivial⟩ rfl (is_pte_May_1 b0 a1) h hn
      · cases h
    · cases h
  · cases h)
noncomputable def t_decode_parts_number_1 (b0 : Int) (b1 : Int) (a2 : Int) (a3 : Int) (a4 : Int) (a5 : Int) (a6 : Int) (a7 : Int) (a8 : Int) : Tr := evFX Tryz.prog E_pte_May_1 120 Tryz.f173 [.d (.g [.x false (.int .u32 a2), .x false (.int .i64 a3), .x false (.int .i64 a4), .x false (.int .i64 a5), .x false (.int .i64 a6), .x false (.int .i64 a7)]), .d (.s (.x false (.int .i64 a8))), .l 0 1] ⟨[⟨287, [.x false (.int .i64 b0), .x false (.int .i64 b1)]⟩], none, false, 1⟩
theorem is_decode_parts_number_1 (b0 : Int) (b1 : Int) (a2 : Int) (a3 : Int) (a4 : Int) (a5 : Int) (a6 : Int) (a7 : Int) (a8 : Int) : (t_decode_parts_number_1 b0 b1 a2 a3 a4 a5 a6 a7 a8).is ([.s (.i .i64)]) = true := by kernel_rfl
noncomputable def s_decode_parts_number_1 (avs : List AV) (H : Hp) : Option (Bool × AV) :=
  match avs with
  | [.d (.g [c2, c3, c4, c5, c6, c7]), .d (.s c8), .l k0 1] => match H.bs[k0]? with
    | some ⟨T0, [d0, d1]⟩ => if T0 = 287 then (cI .i64 d0).bind fun b0 => (cI .i64 d1).bind fun b1 => (cI .u32 c2).bind fun a2 => (cI .i64 c3).bind fun a3 => (cI .i64 c4).bind fun a4 => (cI .i64 c5).bind fun a5 => (cI .i64 c6).bind fun a6 => (cI .i64 c7).bind fun a7 => (cI .i64 c8).bind fun a8 => told (t_decode_parts_number_1 b0 b1 a2 a3 a4 a5 a6 a7 a8) [.s (.i .i64)] else none
    | _ => none
  | _ => none
noncomputable def E_decode_parts_number_1 : Env := E_pte_May_1.addR 173 s_decode_parts_number_1
theorem E_decode_parts_number_1_ok : EnvOk Tryz.prog E_decode_parts_number_1 := E_pte_May_1_ok.addR _ _ (fun xs => by kernel_rfl) (by
  intro avs H n av h hn
  unfold s_decode_parts_number_1 at h
  split at h
  · rename_i c2 c3 c4 c5 c6 c7 c8 k0
    split at h
    · rename_i T0 d0 d1 hbk
      split at h
      · rename_i hT0
        obtain ⟨b0, g0, h⟩ := bind_some h
        obtain ⟨b1, g1, h⟩ := bind_some h
        obtain ⟨a2, h2, h⟩ := bind_some h
        obtain ⟨a3, h3, h⟩ := bind_some h
        obtain ⟨a4, h4, h⟩ := bind_some h
        obtain ⟨a5, h5, h⟩ := bind_some h
        obtain ⟨a6, h6, h⟩ := bind_some h
        obtain ⟨a7, h7, h⟩ := bind_some h
        obtain ⟨a8, h8, h⟩ := bind_some h
        exact read_ok (n := 120) (avs := [.d (.g [c2, c3, c4, c5, c6, c7]), .d (.s c8), .l k0 1]) (args := [.d (.g [.x false (.int .u32 a2), .x false (.int .i64 a3), .x false (.int .i64 a4), .x false (.int .i64 a5), .x false (.int .i64 a6), .x false (.int .i64 a7)]), .d (.s (.x false (.int .i64 a8))), .l 0 1]) (t := (t_decode_parts_number_1 b0 b1 a2 a3 a4 a5 a6 a7 a8)) (sh := [.s (.i .i64)]) E_pte_May_1_ok hmix Tryz.func173 (Sub.one hbk hT0 (by simp only [flat, (cI_ok g0).1, (cI_ok g1).1]) _ (fun T h => by cases h) false 1) rfl rfl ⟨(by show Dv.val _ = Dv.val _; simp only [Dv.val, flat, (cI_ok h2).1, (cI_ok h3).1, (cI_ok h4).1, (cI_ok h5).1, (cI_ok h6).1, (cI_ok h7).1]), (by show Dv.val _ = Dv.val _; simp only [Dv.val, flat, (cI_ok h8).2]), ⟨rfl, rfl⟩, trivial⟩ rfl (is_decode_parts_number_1 b0 b1 a2 a3 a4 a5 a6 a7 a8) h hn
      · cases h
    · cases h
  · cases h)
noncomputable def t_decode_parts_number_2 (b0 : Int) (b1 : Int) (b2 : Int) (b3 : Int) (a4 : Int) (a5 : Int) (a6 : Int) (a7 : Int) (a8 : Int) (a9 : Int) (a10 : Int) : Tr := evFX Tryz.prog E_decode_parts_number_1 120 Tryz.f173 [.d (.g [.x false (.int .u32 a4), .x false (.int .i64 a5), .x false (.int .i64 a6), .x false (.int .i64 a7), .x false (.int .i64 a8), .x false (.int .i64 a9)]), .d (.s (.x false (.int .i64 a10))), .l 0 2] ⟨[⟨287, [.x false (.int .i64 b0), .x false (.int .i64 b1), .x false (.int .i64 b2), .x false (.int .i64 b3)]⟩], none, false, 1⟩
theorem is_decode_parts_number_2 (b0 : Int) (b1 : Int) (b2 : Int) (b3 : Int) (a4 : Int) (a5 : Int) (a6 : Int) (a7 : Int) (a8 : Int) (a9 : Int) (a10 : Int) : (t_decode_parts_number_2 b0 b1 b2 b3 a4 a5 a6 a7 a8 a9 a10).is ([.s (.i .i64)]) = true := by kernel_rfl
noncomputable def s_decode_parts_number_2 (avs : List AV) (H : Hp) : Option (Bool × AV) :=
  match avs with
  | [.d (.g [c4, c5, c6, c7, c8, c9]), .d (.s c10), .l k0 2] => match H.bs[k0]? with
    | some ⟨T0, [d0, d1, d2, d3]⟩ => if T0 = 287 then (cI .i64 d0).bind fun b0 => (cI .i64 d1).bind fun b1 => (cI .i64 d2).bind fun b2 => (cI .i64 d3).bind fun b3 => (cI .u32 c4).bind fun a4 => (cI .i64 c5).bind fun a5 => (cI .i64 c6).bind fun a6 => (cI .i64 c7).bind fun a7 => (cI .i64 c8).bind fun a8 => (cI .i64 c9).bind fun a9 => (cI .i64 c10).bind fun a10 => told (t_decode_parts_number_2 b0 b1 b2 b3 a4 a5 a6 a7 a8 a9 a10) [.s (.i .i64)] else none
    | _ => none
  | _ => none
noncomputable def E_decode_parts_number_2 : Env := E_decode_parts_number_1.addR 173 s_decode_parts_number_2
theorem E_decode_parts_number_2_ok : EnvOk Tryz.prog E_decode_parts_number_2 := E_decode_parts_number_1_ok.addR _ _ (fun xs => by kernel_rfl) (by
  intro avs H n av h hn
  unfold s_decode_parts_number_2 at h
  split at h
  · rename_i c4 c5 c6 c7 c8 c9 c10 k0
    split at h
    · rename_i T0 d0 d1 d2 d3 hbk
      split at h
      · rename_i hT0
        obtain ⟨b0, g0, h⟩ := bind_some h
        obtain ⟨b1, g1, h⟩ := bind_some h
        obtain ⟨b2, g2, h⟩ := bind_some h
        obtain ⟨b3, g3, h⟩ := bind_some h
        obtain ⟨a4, h4, h⟩ := bind_some h
        obtain ⟨a5, h5, h⟩ := bind_some h
        obtain ⟨a6, h6, h⟩ := bind_some h
        obtain ⟨a7, h7, h⟩ := bind_some h
        obtain ⟨a8, h8, h⟩ := bind_some h
        obtain ⟨a9, h9, h⟩ := bind_some h
        obtain ⟨a10, h10, h⟩ := bind_some h
        exact read_ok (n := 120) (avs := [.d (.g [c4, c5, c6, c7, c8, c9]), .d (.s c10), .l k0 2]) (args := [.d (.g [.x false (.int .u32 a4), .x false (.int .i64 a5), .x false (.int .i64 a6), .x false (.int .i64 a7), .x false (.int .i64 a8), .x false (.int .i64 a9)]), .d (.s (.x false (.int .i64 a10))), .l 0 2]) (t := (t_decode_parts_number_2 b0 b1 b2 b3 a4 a5 a6 a7 a8 a9 a10)) (sh := [.s (.i .i64)]) E_decode_parts_number_1_ok hmix Tryz.func173 (Sub.one hbk hT0 (by simp only [flat, (cI_ok g0).1, (cI_ok g1).1, (cI_ok g2).1, (cI_ok g3).1]) _ (fun T h => by cases h) false 1) rfl rfl ⟨(by show Dv.val _ = Dv.val _; simp only [Dv.val, flat, (cI_ok h4).1, (cI_ok h5).1, (cI_ok h6).1, (cI_ok h7).1, (cI_ok h8).1, (cI_ok h9).1]), (by show Dv.val _ = Dv.val _; simp only [Dv.val, flat, (cI_ok h10).2]), ⟨rfl, rfl⟩, trivial⟩ rfl (is_decode_parts_number_2 b0 b1 b2 b3 a4 a5 a6 a7 a8 a9 a10) h hn
      · cases h
    · cases h
  · cases h)
noncomputable def t_decode_parts_number_4 (b0 : Int) (b1 : Int) (b2 : Int) (b3 : Int) (b4 : Int) (b5 : Int) (b6 : Int) (b7 : Int) (a8 : Int) (a9 : Int) (a10 : Int) (a11 : Int) (a12 : Int) (a13 : Int) (a14 : Int) : Tr := evFX Tryz.prog E_decode_parts_number_2 120 Tryz.f173 [.d (.g [.x false (.int .u32 a8), .x false (.int .i64 a9), .x false (.int .i64 a10), .x false (.int .i64 a11), .x false (.int .i64 a12), .x false (.int .i64 a13)]), .d (.s (.x false (.int .i64 a14))), .l 0 4] ⟨[⟨287, [.x false (.int .i64 b0), .x false (.int .i64 b1), .x false (.int .i64 b2), .x false (.int .i64 b3), .x false (.int .i64 b4), .x false (.int .i64 b5), .x false (.int .i64 b6), .x false (.int .i64 b7)]⟩], none, false, 1⟩
theorem is_decode_parts_number_4 (b0 : Int) (b1 : Int) (b2 : Int) (b3 : Int) (b4 : Int) (b5 : Int) (b6 : Int) (b7 : Int) (a8 : Int) (a9 : Int) (a10 : Int) (a11 : Int) (a12 : Int) (a13 : Int) (a14 : Int) : (t_decode_parts_number_4 b0 b1 b2 b3 b4 b5 b6 b7 a8 a9 a10 a11 a12 a13 a14).is ([.s (.i .i64)]) = true := by kernel_rfl
noncomputable def s_decode_parts_number_4 (avs : List AV) (H : Hp) : Option (Bool × AV) :=
  match avs with
  | [.d (.g [c8, c9, c10, c11, c12, c13]), .d (.s c14), .l k0 4] => match H.bs[k0]? with
    | some ⟨T0, [d0, d1, d2, d3, d4, d5, d6, d7]⟩ => if T0 = 287 then (cI .i64 d0).bind fun b0 => (cI .i64 d1).bind fun b1 => (cI .i64 d2).bind fun b2 => (cI .i64 d3).bind fun b3 => (cI .i64 d4).bind fun b4 => (cI .i64 d5).bind fun b5 => (cI .i64 d6).bind fun b6 => (cI .i64 d7).bind fun b7 => (cI .u32 c8).bind fun a8 => (cI .i64 c9).bind fun a9 => (cI .i64 c10).bind fun a10 => (cI .i64 c11).bind fun a11 => (cI .i64 c12).bind fun a12 => (cI .i64 c13).bind fun a13 => (cI .i64 c14).bind fun a14 => told (t_decode_parts_number_4 b0 b1 b2 b3 b4 b5 b6 b7 a8 a9 a10 a11 a12 a13 a14) [.s (.i .i64)] else none
    | _ => none
  | _ => none
noncomputable def E_decode_parts_number_4 : Env := E_decode_parts_number_2.addR 173 s_decode_parts_number_4
theorem E_decode_parts_number_4_ok : EnvOk Tryz.prog E_decode_parts_number_4 := E_decode_parts_number_2_ok.addR _ _ (fun xs => by kernel_rfl) (by
  intro avs H n av h hn
  unfold s_decode_parts_number_4 at h
  split at h
  · rename_i c8 c9 c10 c11 c12 c13 c14 k0
    split at h
    · rename_i T0 d0 d1 d2 d3 d4 d5 d6 d7 hbk
      split at h
      · rename_i hT0
        obtain ⟨b0, g0, h⟩ := bind_some h
        obtain ⟨b1, g1, h⟩ := bind_some h
        obtain ⟨b2, g2, h⟩ := bind_some h
        obtain ⟨b3, g3, h⟩ := bind_some h
        obtain ⟨b4, g4, h⟩ := bind_some h
        obtain ⟨b5, g5, h⟩ := bind_some h
        obtain ⟨b6, g6, h⟩ := bind_some h
        obtain ⟨b7, g7, h⟩ := bind_some h
        obtain ⟨a8, h8, h⟩ := bind_some h
        obtain ⟨a9, h9, h⟩ := bind_some h
        obtain ⟨a10, h10, h⟩ := bind_some h
        obtain ⟨a11, h11, h⟩ := bind_some h
        obtain ⟨a12, h12, h⟩ := bind_some h
        obtain ⟨a13, h13, h⟩ := bind_some h
        obtain ⟨a14, h14, h⟩ := bind_some h
        exact read_ok (n := 120) (avs := [.d (.g [c8, c9, c10, c11, c12, c13]), .d (.s c14), .l k0 4]) (args := [.d (.g [.x false (.int .u32 a8), .x false (.int .i64 a9), .x false (.int .i64 a10), .x false (.int .i64 a11), .x false (.int .i64 a12), .x false (.int .i64 a13)]), .d (.s (.x false (.int .i64 a14))), .l 0 4]) (t := (t_decode_parts_number_4 b0 b1 b2 b3 b4 b5 b6 b7 a8 a9 a10 a11 a12 a13 a14)) (sh := [.s (.i .i64)]) E_decode_parts_number_2_ok hmix Tryz.func173 (Sub.one hbk hT0 (by simp only [flat, (cI_ok g0).1, (cI_ok g1).1, (cI_ok g2).1, (cI_ok g3).1, (cI_ok g4).1, (cI_ok g5).1, (cI_ok g6).1, (cI_ok g7).1]) _ (fun T h => by cases h) false 1) rfl rfl ⟨(by show Dv.val _ = Dv.val _; simp only [Dv.val, flat, (cI_ok h8).1, (cI_ok h9).1, (cI_ok h10).1, (cI_ok h11).1, (cI_ok h12).1, (cI_ok h13).1]), (by show Dv.val _ = Dv.val _; simp only [Dv.val, flat, (cI_ok h14).2]), ⟨rfl, rfl⟩, trivial⟩ rfl (is_decode_parts_number_4 b0 b1 b2 b3 b4 b5 b6 b7 a8 a9 a10 a11 a12 a13 a14) h hn
      · cases h
    · cases h
  · cases h)
noncomputable def FnME : Env := E_decode_parts_number_4
theorem FnME_ok : EnvOk Tryz.prog FnME := E_decode_parts_number_4_ok
end Go.Proofs.YtfehilinnalflaaGreat
