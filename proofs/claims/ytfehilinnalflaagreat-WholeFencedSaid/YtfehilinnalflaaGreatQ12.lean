/- Part 12 of the texts behind the law: contracts and lemmas, each proved; no condition but what each names. -/
import Derived.WalkMore
import Derived.Test.YtfehilinnalflaaGreatQ10
import Derived.Test.YtfehilinnalflaaGreatQ11
namespace Go.Proofs.YtfehilinnalflaaGreat
open Go.RowKit Go.BigFrame
set_option linter.unusedSimpArgs false
set_option linter.unusedVariables false
set_option maxRecDepth 100000
noncomputable def t_decode_parts_immediate (a0 : Int) (a1 : Int) (a2 : Int) (a3 : Int) (a4 : Int) (a5 : Int) (a6 : Int) : Tr := evF Tryz.prog FnME 120 Tryz.f174 [.g [.x false (.int .u32 a0), .x false (.int .i64 a1), .x false (.int .i64 a2), .x false (.int .i64 a3), .x false (.int .i64 a4), .x false (.int .i64 a5)], .s (.x false (.int .i64 a6))]
theorem is_decode_parts_immediate (a0 : Int) (a1 : Int) (a2 : Int) (a3 : Int) (a4 : Int) (a5 : Int) (a6 : Int) : (t_decode_parts_immediate a0 a1 a2 a3 a4 a5 a6).is [.g [.i .i64, .i .i64, .i .i64, .i .i64, .i .i64, .i .i64]] = true := by kernel_rfl
noncomputable def s_decode_parts_immediate (args : List Dv) : Option (Bool × AV) :=
  match args with
  | [.g [c0, c1, c2, c3, c4, c5], .s c6] => (cI .u32 c0).bind fun a0 => (cI .i64 c1).bind fun a1 => (cI .i64 c2).bind fun a2 => (cI .i64 c3).bind fun a3 => (cI .i64 c4).bind fun a4 => (cI .i64 c5).bind fun a5 => (cI .i64 c6).bind fun a6 => told (t_decode_parts_immediate a0 a1 a2 a3 a4 a5 a6) [.g [.i .i64, .i .i64, .i .i64, .i .i64, .i .i64, .i .i64]]
  | _ => none
noncomputable def E_decode_parts_immediate : Env := FnME.add 174 s_decode_parts_immediate
theorem E_decode_parts_immediate_ok : EnvOk Tryz.prog E_decode_parts_immediate := FnME_ok.add _ _ (by
  intro args n av h hn
  unfold s_decode_parts_immediate at h
  split at h
  · rename_i c0 c1 c2 c3 c4 c5 c6
    obtain ⟨a0, h0, h⟩ := bind_some h
    obtain ⟨a1, h1, h⟩ := bind_some h
    obtain ⟨a2, h2, h⟩ := bind_some h
    obtain ⟨a3, h3, h⟩ := bind_some h
    obtain ⟨a4, h4, h⟩ := bind_some h
    obtain ⟨a5, h5, h⟩ := bind_some h
    obtain ⟨a6, h6, h⟩ := bind_some h
    exact told_ok (n := 120) (t := t_decode_parts_immediate a0 a1 a2 a3 a4 a5 a6) (sh := [.g [.i .i64, .i .i64, .i .i64, .i .i64, .i .i64, .i .i64]]) FnME_ok hmix Tryz.func174 (xs0 := [.g [.x false (.int .u32 a0), .x false (.int .i64 a1), .x false (.int .i64 a2), .x false (.int .i64 a3), .x false (.int .i64 a4), .x false (.int .i64 a5)], .s (.x false (.int .i64 a6))]) (by simp only [List.map_cons, List.map_nil, Dv.val, flat, (cI_ok h0).1, (cI_ok h1).1, (cI_ok h2).1, (cI_ok h3).1, (cI_ok h4).1, (cI_ok h5).1, (cI_ok h6).2]) rfl (is_decode_parts_immediate a0 a1 a2 a3 a4 a5 a6) (fun xs => by kernel_rfl) h hn
  · cases h)
noncomputable def t_decode_of (a0 : Int) : Tr := evF Tryz.prog E_decode_parts_immediate 120 Tryz.f115 [.s (.x false (.int .u32 a0))]
theorem is_decode_of (a0 : Int) : (t_decode_of a0).is [.g [.i .u32, .i .i64, .i .i64, .i .i64, .i .i64, .i .i64]] = true := by kernel_rfl
noncomputable def s_decode_of (args : List Dv) : Option (Bool × AV) :=
  match args with
  | [.s c0] => (cI .u32 c0).bind fun a0 => told (t_decode_of a0) [.g [.i .u32, .i .i64, .i .i64, .i .i64, .i .i64, .i .i64]]
  | _ => none
noncomputable def E_decode_of : Env := E_decode_parts_immediate.add 115 s_decode_of
theorem E_decode_of_ok : EnvOk Tryz.prog E_decode_of := E_decode_parts_immediate_ok.add _ _ (by
  intro args n av h hn
  unfold s_decode_of at h
  split at h
  · rename_i c0
    obtain ⟨a0, h0, h⟩ := bind_some h
    exact told_ok (n := 120) (t := t_decode_of a0) (sh := [.g [.i .u32, .i .i64, .i .i64, .i .i64, .i .i64, .i .i64]]) E_decode_parts_immediate_ok hmix Tryz.func115 (xs0 := [.s (.x false (.int .u32 a0))]) (by simp only [List.map_cons, List.map_nil, Dv.val, flat, (cI_ok h0).2]) rfl (is_decode_of a0) (fun xs => by kernel_rfl) h hn
  · cases h)
noncomputable def t_pte_May (a0 : Int) (a1 : Int) (a2 : Bool) (a3 : Bool) (a4 : Bool) : Tr := evF Tryz.prog E_decode_of 120 Tryz.f161 [.s (.x false (.int .i64 a0)), .s (.x false (.int .i64 a1)), .s (.x false (.bool a2)), .s (.x false (.bool a3)), .s (.x false (.bool a4))]
theorem is_pte_May (a0 : Int) (a1 : Int) (a2 : Bool) (a3 : Bool) (a4 : Bool) : (t_pte_May a0 a1 a2 a3 a4).is [.s (.b)] = true := by kernel_rfl
noncomputable def s_pte_May (args : List Dv) : Option (Bool × AV) :=
  match args with
  | [.s c0, .s c1, .s c2, .s c3, .s c4] => (cI .i64 c0).bind fun a0 => (cI .i64 c1).bind fun a1 => (cB c2).bind fun a2 => (cB c3).bind fun a3 => (cB c4).bind fun a4 => told (t_pte_May a0 a1 a2 a3 a4) [.s (.b)]
  | _ => none
noncomputable def E_pte_May : Env := E_decode_of.add 161 s_pte_May
theorem E_pte_May_ok : EnvOk Tryz.prog E_pte_May := E_decode_of_ok.add _ _ (by
  intro args n av h hn
  unfold s_pte_May at h
  split at h
  · rename_i c0 c1 c2 c3 c4
    obtain ⟨a0, h0, h⟩ := bind_some h
    obtain ⟨a1, h1, h⟩ := bind_some h
    obtain ⟨a2, h2, h⟩ := bind_some h
    obtain ⟨a3, h3, h⟩ := bind_some h
    obtain ⟨a4, h4, h⟩ := bind_some h
    exact told_ok (n := 120) (t := t_pte_May a0 a1 a2 a3 a4) (sh := [.s (.b)]) E_decode_of_ok hmix Tryz.func161 (xs0 := [.s (.x false (.int .i64 a0)), .s (.x false (.int .i64 a1)), .s (.x false (.bool a2)), .s (.x false (.bool a3)), .s (.x false (.bool a4))]) (by simp only [List.map_cons, List.map_nil, Dv.val, flat, (cI_ok h0).2, (cI_ok h1).2, (cB_ok h2).2, (cB_ok h3).2, (cB_ok h4).2]) rfl (is_pte_May a0 a1 a2 a3 a4) (fun xs => by kernel_rfl) h hn
  · cases h)
noncomputable def t_two_Allowed (a0 : St) (a1 : Bool) (a2 : Bool) (a3 : Int) (a4 : Int) (a5 : Int) (a6 : Int) (a7 : Int) (a8 : Int) (a9 : Int) (a10 : BitVec 64) (a11 : Int) (a12 : Int) (a13 : Bool) : Tr := evF Tryz.prog E_pte_May 120 Tryz.f107 [.s (.S a0), .g [.x false (.bool a1), .x false (.bool a2), .x false (.int .i64 a3), .x false (.int .i64 a4), .x false (.int .i64 a5), .x false (.int .i64 a6), .x false (.int .i64 a7), .x false (.int .i64 a8), .x false (.int .i64 a9)], .s (.u false a10), .s (.x false (.int .i64 a11)), .s (.x false (.int .i64 a12)), .s (.x false (.bool a13))]
theorem is_two_Allowed (a0 : St) (a1 : Bool) (a2 : Bool) (a3 : Int) (a4 : Int) (a5 : Int) (a6 : Int) (a7 : Int) (a8 : Int) (a9 : Int) (a10 : BitVec 64) (a11 : Int) (a12 : Int) (a13 : Bool) : (t_two_Allowed a0 a1 a2 a3 a4 a5 a6 a7 a8 a9 a10 a11 a12 a13).is [.g [.u, .u, .u, .b], .s (.b)] = true := by kernel_rfl
noncomputable def s_two_Allowed (args : List Dv) : Option (Bool × AV) :=
  match args with
  | [.s c0, .g [c1, c2, c3, c4, c5, c6, c7, c8, c9], .s c10, .s c11, .s c12, .s c13] => (cS c0).bind fun a0 => (cB c1).bind fun a1 => (cB c2).bind fun a2 => (cI .i64 c3).bind fun a3 => (cI .i64 c4).bind fun a4 => (cI .i64 c5).bind fun a5 => (cI .i64 c6).bind fun a6 => (cI .i64 c7).bind fun a7 => (cI .i64 c8).bind fun a8 => (cI .i64 c9).bind fun a9 => (cU c10).bind fun a10 => (cI .i64 c11).bind fun a11 => (cI .i64 c12).bind fun a12 => (cB c13).bind fun a13 => told (t_two_Allowed a0 a1 a2 a3 a4 a5 a6 a7 a8 a9 a10 a11 a12 a13) [.g [.u, .u, .u, .b], .s (.b)]
  | _ => none
noncomputable def E_two_Allowed : Env := E_pte_May.add 107 s_two_Allowed
theorem E_two_Allowed_ok : EnvOk Tryz.prog E_two_Allowed := E_pte_May_ok.add _ _ (by
  intro args n av h hn
  unfold s_two_Allowed at h
  split at h
  · rename_i c0 c1 c2 c3 c4 c5 c6 c7 c8 c9 c10 c11 c12 c13
    obtain ⟨a0, h0, h⟩ := bind_some h
    obtain ⟨a1, h1, h⟩ := bind_some h
    obtain ⟨a2, h2, h⟩ := bind_some h
    obtain ⟨a3, h3, h⟩ := bind_some h
    obtain ⟨a4, h4, h⟩ := bind_some h
    obtain ⟨a5, h5, h⟩ := bind_some h
    obtain ⟨a6, h6, h⟩ := bind_some h
    obtain ⟨a7, h7, h⟩ := bind_some h
    obtain ⟨a8, h8, h⟩ := bind_some h
    obtain ⟨a9, h9, h⟩ := bind_some h
    obtain ⟨a10, h10, h⟩ := bind_some h
    obtain ⟨a11, h11, h⟩ := bind_some h
    obtain ⟨a12, h12, h⟩ := bind_some h
    obtain ⟨a13, h13, h⟩ := bind_some h
    exact told_ok (n := 120) (t := t_two_Allowed a0 a1 a2 a3 a4 a5 a6 a7 a8 a9 a10 a11 a12 a13) (sh := [.g [.u, .u, .u, .b], .s (.b)]) E_pte_May_ok hmix Tryz.func107 (xs0 := [.s (.S a0), .g [.x false (.bool a1), .x false (.bool a2), .x false (.int .i64 a3), .x false (.int .i64 a4), .x false (.int .i64 a5), .x false (.int .i64 a6), .x false (.int .i64 a7), .x false (.int .i64 a8), .x false (.int .i64 a9)], .s (.u false a10), .s (.x false (.int .i64 a11)), .s (.x false (.int .i64 a12)), .s (.x false (.bool a13))]) (by simp only [List.map_cons, List.map_nil, Dv.val, flat, (cS_ok h0).2, (cB_ok h1).1, (cB_ok h2).1, (cI_ok h3).1, (cI_ok h4).1, (cI_ok h5).1, (cI_ok h6).1, (cI_ok h7).1, (cI_ok h8).1, (cI_ok h9).1, (cU_ok h10).2, (cI_ok h11).2, (cI_ok h12).2, (cB_ok h13).2]) rfl (is_two_Allowed a0 a1 a2 a3 a4 a5 a6 a7 a8 a9 a10 a11 a12 a13) (fun xs => by kernel_rfl) h hn
  · cases h)
noncomputable def t_decode_Opcode (a0 : Int) : Tr := evF Tryz.prog E_two_Allowed 120 Tryz.f172 [.s (.x false (.int .u32 a0))]
theorem is_decode_Opcode (a0 : Int) : (t_decode_Opcode a0).is [.s (.i .i64)] = true := by kernel_rfl
noncomputable def s_decode_Opcode (args : List Dv) : Option (Bool × AV) :=
  match args with
  | [.s c0] => (cI .u32 c0).bind fun a0 => told (t_decode_Opcode a0) [.s (.i .i64)]
  | _ => none
noncomputable def E_decode_Opcode : Env := E_two_Allowed.add 172 s_decode_Opcode
theorem E_decode_Opcode_ok : EnvOk Tryz.prog E_decode_Opcode := E_two_Allowed_ok.add _ _ (by
  intro args n av h hn
  unfold s_decode_Opcode at h
  split at h
  · rename_i c0
    obtain ⟨a0, h0, h⟩ := bind_some h
    exact told_ok (n := 120) (t := t_decode_Opcode a0) (sh := [.s (.i .i64)]) E_two_Allowed_ok hmix Tryz.func172 (xs0 := [.s (.x false (.int .u32 a0))]) (by simp only [List.map_cons, List.map_nil, Dv.val, flat, (cI_ok h0).2]) rfl (is_decode_Opcode a0) (fun xs => by kernel_rfl) h hn
  · cases h)
noncomputable def t_decode_parts_guests (a0 : Int) (a1 : Int) (a2 : Int) (a3 : Int) (a4 : Int) (a5 : Int) : Tr := evF Tryz.prog E_decode_Opcode 120 Tryz.f220 [.g [.x false (.int .u32 a0), .x false (.int .i64 a1), .x false (.int .i64 a2), .x false (.int .i64 a3), .x false (.int .i64 a4), .x false (.int .i64 a5)]]
theorem is_decode_parts_guests (a0 : Int) (a1 : Int) (a2 : Int) (a3 : Int) (a4 : Int) (a5 : Int) : (t_decode_parts_guests a0 a1 a2 a3 a4 a5).is [.g [.i .i64, .i .i64, .i .i64, .i .i64, .i .i64, .i .i64], .s (.b)] = true := by kernel_rfl
noncomputable def s_decode_parts_guests (args : List Dv) : Option (Bool × AV) :=
  match args with
  | [.g [c0, c1, c2, c3, c4, c5]] => (cI .u32 c0).bind fun a0 => (cI .i64 c1).bind fun a1 => (cI .i64 c2).bind fun a2 => (cI .i64 c3).bind fun a3 => (cI .i64 c4).bind fun a4 => (cI .i64 c5).bind fun a5 => told (t_decode_parts_guests a0 a1 a2 a3 a4 a5) [.g [.i .i64, .i .i64, .i .i64, .i .i64, .i .i64, .i .i64], .s (.b)]
  | _ => none
noncomputable def E_decode_parts_guests : Env := E_decode_Opcode.add 220 s_decode_parts_guests
theorem E_decode_parts_guests_ok : EnvOk Tryz.prog E_decode_parts_guests := E_decode_Opcode_ok.add _ _ (by
  intro args n av h hn
  unfold s_decode_parts_guests at h
  split at h
  · rename_i c0 c1 c2 c3 c4 c5
    obtain ⟨a0, h0, h⟩ := bind_some h
    obtain ⟨a1, h1, h⟩ := bind_some h
    obtain ⟨a2, h2, h⟩ := bind_some h
    obtain ⟨a3, h3, h⟩ := bind_some h
    obtain ⟨a4, h4, h⟩ := bind_some h
    obtain ⟨a5, h5, h⟩ := bind_some h
    exact told_ok (n := 120) (t := t_decode_parts_guests a0 a1 a2 a3 a4 a5) (sh := [.g [.i .i64, .i .i64, .i .i64, .i .i64, .i .i64, .i .i64], .s (.b)]) E_decode_Opcode_ok hmix Tryz.func220 (xs0 := [.g [.x false (.int .u32 a0), .x false (.int .i64 a1), .x false (.int .i64 a2), .x false (.int .i64 a3), .x false (.int .i64 a4), .x false (.int .i64 a5)]]) (by simp only [List.map_cons, List.map_nil, Dv.val, flat, (cI_ok h0).1, (cI_ok h1).1, (cI_ok h2).1, (cI_ok h3).1, (cI_ok h4).1, (cI_ok h5).1]) rfl (is_decode_parts_guests a0 a1 a2 a3 a4 a5) (fun xs => by kernel_rfl) h hn
  · cases h)
noncomputable def t_decode_parts_registers (a0 : Int) (a1 : Int) (a2 : Int) (a3 : Int) (a4 : Int) (a5 : Int) : Tr := evF Tryz.prog E_decode_parts_guests 120 Tryz.f176 [.g [.x false (.int .u32 a0), .x false (.int .i64 a1), .x false (.int .i64 a2), .x false (.int .i64 a3), .x false (.int .i64 a4), .x false (.int .i64 a5)]]
theorem is_decode_parts_registers (a0 : Int) (a1 : Int) (a2 : Int) (a3 : Int) (a4 : Int) (a5 : Int) : (t_decode_parts_registers a0 a1 a2 a3 a4 a5).is [.g [.i .i64, .i .i64, .i .i64, .i .i64, .i .i64, .i .i64], .s (.b)] = true := by kernel_rfl
noncomputable def s_decode_parts_registers (args : List Dv) : Option (Bool × AV) :=
  match args with
  | [.g [c0, c1, c2, c3, c4, c5]] => (cI .u32 c0).bind fun a0 => (cI .i64 c1).bind fun a1 => (cI .i64 c2).bind fun a2 => (cI .i64 c3).bind fun a3 => (cI .i64 c4).bind fun a4 => (cI .i64 c5).bind fun a5 => told (t_decode_parts_registers a0 a1 a2 a3 a4 a5) [.g [.i .i64, .i .i64, .i .i64, .i .i64, .i .i64, .i .i64], .s (.b)]
  | _ => none
noncomputable def E_decode_parts_registers : Env := E_decode_parts_guests.add 176 s_decode_parts_registers
theorem E_decode_parts_registers_ok : EnvOk Tryz.prog E_decode_parts_registers := E_decode_parts_guests_ok.add _ _ (by
  intro args n av h hn
  unfold s_decode_parts_registers at h
  split at h
  · rename_i c0 c1 c2 c3 c4 c5
    obtain ⟨a0, h0, h⟩ := bind_some h
    obtain ⟨a1, h1, h⟩ := bind_some h
    obtain ⟨a2, h2, h⟩ := bind_some h
    obtain ⟨a3, h3, h⟩ := bind_some h
    obtain ⟨a4, h4, h⟩ := bind_some h
    obtain ⟨a5, h5, h⟩ := bind_some h
    exact told_ok (n := 120) (t := t_decode_parts_registers a0 a1 a2 a3 a4 a5) (sh := [.g [.i .i64, .i .i64, .i .i64, .i .i64, .i .i64, .i .i64], .s (.b)]) E_decode_parts_guests_ok hmix Tryz.func176 (xs0 := [.g [.x false (.int .u32 a0), .x false (.int .i64 a1), .x false (.int .i64 a2), .x false (.int .i64 a3), .x false (.int .i64 a4), .x false (.int .i64 a5)]]) (by simp only [List.map_cons, List.map_nil, Dv.val, flat, (cI_ok h0).1, (cI_ok h1).1, (cI_ok h2).1, (cI_ok h3).1, (cI_ok h4).1, (cI_ok h5).1]) rfl (is_decode_parts_registers a0 a1 a2 a3 a4 a5) (fun xs => by kernel_rfl) h hn
  · cases h)
noncomputable def t_exec_control (a0 : St) (a1 : Int) (a2 : Int) (a3 : Int) (a4 : Int) (a5 : Int) (a6 : Int) : Tr := evF Tryz.prog E_decode_parts_registers 120 Tryz.f149 [.s (.S a0), .g [.x false (.int .i64 a1), .x false (.int .i64 a2), .x false (.int .i64 a3), .x false (.int .i64 a4), .x false (.int .i64 a5), .x false (.int .i64 a6)]]
theorem is_exec_control (a0 : St) (a1 : Int) (a2 : Int) (a3 : Int) (a4 : Int) (a5 : Int) (a6 : Int) : (t_exec_control a0 a1 a2 a3 a4 a5 a6).is [.g [.S, .u, .u, .u, .u, .b, .b]] = true := by kernel_rfl
noncomputable def s_exec_control (args : List Dv) : Option (Bool × AV) :=
  match args with
  | [.s c0, .g [c1, c2, c3, c4, c5, c6]] => (cS c0).bind fun a0 => (cI .i64 c1).bind fun a1 => (cI .i64 c2).bind fun a2 => (cI .i64 c3).bind fun a3 => (cI .i64 c4).bind fun a4 => (cI .i64 c5).bind fun a5 => (cI .i64 c6).bind fun a6 => told (t_exec_control a0 a1 a2 a3 a4 a5 a6) [.g [.S, .u, .u, .u, .u, .b, .b]]
  | _ => none
noncomputable def E_exec_control : Env := E_decode_parts_registers.add 149 s_exec_control
theorem E_exec_control_ok : EnvOk Tryz.prog E_exec_control := E_decode_parts_registers_ok.add _ _ (by
  intro args n av h hn
  unfold s_exec_control at h
  split at h
  · rename_i c0 c1 c2 c3 c4 c5 c6
    obtain ⟨a0, h0, h⟩ := bind_some h
    obtain ⟨a1, h1, h⟩ := bind_some h
    obtain ⟨a2, h2, h⟩ := bind_some h
    obtain ⟨a3, h3, h⟩ := bind_some h
    obtain ⟨a4, h4, h⟩ := bind_some h
    obtain ⟨a5, h5, h⟩ := bind_some h
    obtain ⟨a6, h6, h⟩ := bind_some h
    exact told_ok (n := 120) (t := t_exec_control a0 a1 a2 a3 a4 a5 a6) (sh := [.g [.S, .u, .u, .u, .u, .b, .b]]) E_decode_parts_registers_ok hmix Tryz.func149 (xs0 := [.s (.S a0), .g [.x false (.int .i64 a1), .x false (.int .i64 a2), .x false (.int .i64 a3), .x false (.int .i64 a4), .x false (.int .i64 a5), .x false (.int .i64 a6)]]) (by simp only [List.map_cons, List.map_nil, Dv.val, flat, (cS_ok h0).2, (cI_ok h1).1, (cI_ok h2).1, (cI_ok h3).1, (cI_ok h4).1, (cI_ok h5).1, (cI_ok h6).1]) rfl (is_exec_control a0 a1 a2 a3 a4 a5 a6) (fun xs => by kernel_rfl) h hn
  · cases h)
noncomputable def t_exec_returns (a0 : St) (a1 : Int) (a2 : Int) (a3 : Int) (a4 : Int) (a5 : Int) (a6 : Int) : Tr := evF Tryz.prog E_exec_control 120 Tryz.f150 [.s (.S a0), .g [.x false (.int .i64 a1), .x false (.int .i64 a2), .x false (.int .i64 a3), .x false (.int .i64 a4), .x false (.int .i64 a5), .x false (.int .i64 a6)]]
theorem is_exec_returns (a0 : St) (a1 : Int) (a2 : Int) (a3 : Int) (a4 : Int) (a5 : Int) (a6 : Int) : (t_exec_returns a0 a1 a2 a3 a4 a5 a6).is [.g [.S, .u, .u, .u, .u, .b, .b]] = true := by kernel_rfl
noncomputable def s_exec_returns (args : List Dv) : Option (Bool × AV) :=
  match args with
  | [.s c0, .g [c1, c2, c3, c4, c5, c6]] => (cS c0).bind fun a0 => (cI .i64 c1).bind fun a1 => (cI .i64 c2).bind fun a2 => (cI .i64 c3).bind fun a3 => (cI .i64 c4).bind fun a4 => (cI .i64 c5).bind fun a5 => (cI .i64 c6).bind fun a6 => told (t_exec_returns a0 a1 a2 a3 a4 a5 a6) [.g [.S, .u, .u, .u, .u, .b, .b]]
  | _ => none
noncomputable def E_exec_returns : Env := E_exec_control.add 150 s_exec_returns
theorem E_exec_returns_ok : EnvOk Tryz.prog E_exec_returns := E_exec_control_ok.add _ _ (by
  intro args n av h hn
  unfold s_exec_returns at h
  split at h
  · rename_i c0 c1 c2 c3 c4 c5 c6
    obtain ⟨a0, h0, h⟩ := bind_some h
    obtain ⟨a1, h1, h⟩ := bind_some h
    obtain ⟨a2, h2, h⟩ := bind_some h
    obtain ⟨a3, h3, h⟩ := bind_some h
    obtain ⟨a4, h4, h⟩ := bind_some h
    obtain ⟨a5, h5, h⟩ := bind_some h
    obtain ⟨a6, h6, h⟩ := bind_some h
    exact told_ok (n := 120) (t := t_exec_returns a0 a1 a2 a3 a4 a5 a6) (sh := [.g [.S, .u, .u, .u, .u, .b, .b]]) E_exec_control_ok hmix Tryz.func150 (xs0 := [.s (.S a0), .g [.x false (.int .i64 a1), .x false (.int .i64 a2), .x false (.int .i64 a3), .x false (.int .i64 a4), .x false (.int .i64 a5), .x false (.int .i64 a6)]]) (by simp only [List.map_cons, List.map_nil, Dv.val, flat, (cS_ok h0).2, (cI_ok h1).1, (cI_ok h2).1, (cI_ok h3).1, (cI_ok h4).1, (cI_ok h5).1, (cI_ok h6).1]) rfl (is_exec_returns a0 a1 a2 a3 a4 a5 a6) (fun xs => by kernel_rfl) h hn
  · cases h)
noncomputable def FnNE : Env := E_exec_returns
theorem FnNE_ok : EnvOk Tryz.prog FnNE := E_exec_returns_ok
end Go.Proofs.YtfehilinnalflaaGreat
namespace Go.Proofs.YtfehilinnalflaaGreat
open Go.RowKit Go.BigFrame
set_option linter.unusedSimpArgs false
set_option linter.unusedVariables false
set_option maxRecDepth 100000
theorem entry_yes {p g : Nat} {f : Nat → UInt8} (x k : Nat) (w : World) (hM : IsMem w p g 92 f) (hx : x < 128) (hk : k < 16) :
    Calls Tryz.prog 229 #[.pointer (some ⟨p, 0, none⟩), .int .i64 (x : Int), .int .i64 (k : Int)] w fun e w' => e = .returned (.tuple #[U (readF f (x * 256 + k * 8) 8), .bool true]) ∧ Below w.heap.size w w' := by
  have key := read_yes (BitVec.ofNat 64 (x * 256 + k * 8)) 8 w hM (code_in _ 8 (by omega) (by omega) (by omega))
  rw [U_of _ (by omega), ofNat_toNat _ (by omega), show ((x * 256 + k * 8 : Nat) : Int) = (x : Int) * 256 + (k : Int) * 8 by omega, show ((8 : Nat) : Int) = 8 from rfl] at key
  have e3 : IntKind.u64.wrap ((x : Int) * 256 + (k : Int) * 8) = (x : Int) * 256 + (k : Int) * 8 := IntWalk.u64_in _ ⟨by omega, by omega⟩
  generalize readF f (x * 256 + k * 8) 8 = v at *
  clear hM
  go_enter Tryz.func229, Tryz.ntmps229
  go_wp2_with (go_at_call 170; (with_reducible refine key.mono ?_); rintro e w' ⟨rfl, HB⟩)
  go_ret2
  exact ⟨rfl, HB⟩
theorem entry_no (m : Value) (x k : Int) (w : World) (h : x < 0 ∨ 128 ≤ x ∨ k < 0 ∨ 16 ≤ k) :
    Calls Tryz.prog 229 #[m, .int .i64 x, .int .i64 k] w fun e w' => e = .returned (.tuple #[.int .u64 0, .bool false]) ∧ Below w.heap.size w w' := by
  have HB := Below.refl w.heap.size w
  have h4 : (decide (x < 0) || decide (128 ≤ x) || decide (k < 0) || decide (16 ≤ k)) = true := by simp; omega
  generalize h1 : decide (x < 0) = b1 at *
  generalize h2 : decide (128 ≤ x) = b2 at *
  generalize h3 : decide (k < 0) = b3 at *
  generalize h5 : decide (16 ≤ k) = b5 at *
  clear h
  go_enter Tryz.func229, Tryz.ntmps229
  cases b1 <;> cases b2 <;> cases b3 <;> cases b5 <;> first | (exact absurd h4 (by decide)) | (go_wp2; go_ret2; exact ⟨rfl, HB⟩)
theorem read_in {p g : Nat} {f : Nat → UInt8} (b x k : Nat) (w : World) (hM : IsMem w p g 92 f) (hx : x < 128) (hk : k < 16) (hb : w.cell? ⟨b, 0, none⟩ = some (.pointer (some ⟨p, 0, none⟩))) :
    Calls Tryz.prog 230 #[.int .i64 (x : Int), .int .i64 (k : Int), .pointer (some ⟨b, 0, none⟩)] w fun e w' => e = .returned (.tuple #[U (readF f (x * 256 + k * 8) 8), .int .i64 0]) ∧ Below w.heap.size w w' := by
  have key := entry_yes x k w hM hx hk
  generalize readF f (x * 256 + k * 8) 8 = v at *
  clear hM
  go_enter Tryz.func230, Tryz.ntmps230
  go_wp2_with (go_at_call 229; (with_reducible refine key.mono ?_); rintro e w' ⟨rfl, HB⟩)
  go_ret2
  exact ⟨rfl, HB⟩
theorem read_out (m : Value) (b : Nat) (x k : Int) (w : World) (h : x < 0 ∨ 128 ≤ x) (hb : w.cell? ⟨b, 0, none⟩ = some m) :
    Calls Tryz.prog 230 #[.int .i64 x, .int .i64 k, .pointer (some ⟨b, 0, none⟩)] w fun e w' => e = .returned (.tuple #[.int .u64 0, .int .i64 2]) ∧ Below w.heap.size w w' := by
  have key := entry_no m x k w (by omega)
  clear h
  go_enter Tryz.func230, Tryz.ntmps230
  go_wp2_with (go_at_call 229; (with_reducible refine key.mono ?_); rintro e w' ⟨rfl, HB⟩)
  go_ret2
  exact ⟨rfl, HB⟩
end Go.Proofs.YtfehilinnalflaaGreat
namespace Go.Proofs.YtfehilinnalflaaGreat
open Go.RowKit Go.BigFrame
set_option linter.unusedSimpArgs false
set_option linter.unusedVariables false
set_option maxRecDepth 100000
def Reads (w : World) (fn : FuncId) (b : Nat) (x k : Int) (v : BitVec 64) (c : Int) : Prop :=
  ∀ w', Below w.heap.size w w' → Calls Tryz.prog fn #[.int .i64 x, .int .i64 k, .pointer (some ⟨b, 0, none⟩)] w' fun e w'' => e = .returned (.tuple #[U v, .int .i64 c]) ∧ Below w'.heap.size w' w''
def Through (w : World) (b : Nat) (root : Int) (at_ v : BitVec 64) (c : Int) : Prop :=
  Calls Tryz.prog 211 #[.func (.func 230) #[] #[.pointer (some ⟨b, 0, none⟩)], .int .i64 root, U at_] w fun e w' => e = .returned (.tuple #[U v, .int .i64 c]) ∧ Below w.heap.size w w'
theorem two_ix0 (x y : Value) (w : World) : (Instr.index 330 (.agg #[x, y]) (.int .i64 0)).run Tryz.prog w = .ok x w := by kernel_rfl
theorem two_ix1 (x y : Value) (w : World) : (Instr.index 330 (.agg #[x, y]) (.int .i64 1)).run Tryz.prog w = .ok y w := by kernel_rfl
theorem u_ne (x y : BitVec 64) : ((x.toNat : Int) != (y.toNat : Int)) = !(x == y) := congrArg Bool.not (u_beq x y)
set_option maxHeartbeats 2000000 in
theorem thr_far (w : World) (b : Nat) (root : Int) (at_ : BitVec 64) (h : 65536 ≤ at_.toNat) : Through w b root at_ 0#64 1 := by
  have HB := Below.refl w.heap.size w
  have h2 : decide ((65536 : Int) ≤ (at_.toNat : Int)) = true := decide_eq_true (by omega)
  clear h
  unfold Through
  go_enter Tryz.func211, Tryz.ntmps211
  go_wp2
  go_step3
  go_wp2
  try rw [Exit.noGoto_ret]
  go_ret2
  exact ⟨rfl, HB⟩
set_option maxHeartbeats 2000000 in
theorem thr_code (w : World) (b : Nat) (root : Int) (at_ n0 : BitVec 64) (h : at_.toNat < 65536) (c : Int) (r0 : Reads w 230 b root ((bitsB at_ 12 4).toNat : Int) n0 c) (hc : c ≠ 0) : Through w b root at_ 0#64 c := by
  have HB := Below.refl w.heap.size w
  have h2 : decide ((65536 : Int) ≤ (at_.toNat : Int)) = false := decide_eq_false (by omega)
  have q0 := i64_of_u64 (bitsB at_ 12 4) (by have := bits_lt at_ 12 4 (by omega); omega)
  have q1 := i64_of_u64 (bitsB at_ 8 4) (by have := bits_lt at_ 8 4 (by omega); omega)
  have s0 := bits_b at_ 8 4
  have s1 := bits_b at_ 12 4
  rw [l8, n84] at s0
  rw [l12, n124] at s1
  have t0 : (c != 0) = true := bne_iff_ne.2 hc
  generalize bitsB at_ 12 4 = i0 at *
  generalize bitsB at_ 8 4 = i1 at *
  have ix0 := two_ix0 (U i0) (U i1)
  have ix1 := two_ix1 (U i0) (U i1)
  unfold Reads at *
  unfold Through
  have R0 := Lib.hid r0
  clear h r0 hc
  go_enter Tryz.func211, Tryz.ntmps211
  go_wp2
  go_step3
  go_wp2_with fail
  (with_reducible refine (s0.on HB).mono ?_)
  rintro e w1 ⟨rfl, HB⟩
  go_wp2_with fail
  go_step3
  go_wp2_with fail
  (with_reducible refine (s1.on HB).mono ?_)
  rintro e w2 ⟨rfl, HB⟩
  go_wp2_with fail
  refine wp_loop_rounds 3 ?_
  rw [rounds_succ]
  go_wp2_with (go_at_call 230; (with_reducible refine (R0.out _ HB).mono ?_); rintro e w3 ⟨rfl, hb⟩; replace HB := HBstep HB hb; clear hb)
  try rw [Exit.noGoto_ret]
  go_ret2
  exact ⟨rfl, HB⟩
set_option maxHeartbeats 2000000 in
theorem thr_none (w : World) (b : Nat) (root : Int) (at_ n0 : BitVec 64) (h : at_.toNat < 65536) (r0 : Reads w 230 b root ((bitsB at_ 12 4).toNat : Int) n0 0) (hs0 : isB n0 = false) : Through w b root at_ 0#64 1 := by
  have HB := Below.refl w.heap.size w
  have h2 : decide ((65536 : Int) ≤ (at_.toNat : Int)) = false := decide_eq_false (by omega)
  have q0 := i64_of_u64 (bitsB at_ 12 4) (by have := bits_lt at_ 12 4 (by omega); omega)
  have q1 := i64_of_u64 (bitsB at_ 8 4) (by have := bits_lt at_ 8 4 (by omega); omega)
  have s0 := bits_b at_ 8 4
  have s1 := bits_b at_ 12 4
  rw [l8, n84] at s0
  rw [l12, n124] at s1
  have p0 := pis_b n0
  rw [hs0] at p0
  generalize bitsB at_ 12 4 = i0 at *
  generalize bitsB at_ 8 4 = i1 at *
  have ix0 := two_ix0 (U i0) (U i1)
  have ix1 := two_ix1 (U i0) (U i1)
  unfold Reads at *
  unfold Through
  have R0 := Lib.hid r0
  clear h r0 hs0
  go_enter Tryz.func211, Tryz.ntmps211
  go_wp2
  go_step3
  go_wp2_with fail
  (with_reducible refine (s0.on HB).mono ?_)
  rintro e w1 ⟨rfl, HB⟩
  go_wp2_with fail
  go_step3
  go_wp2_with fail
  (with_reducible refine (s1.on HB).mono ?_)
  rintro e w2 ⟨rfl, HB⟩
  go_wp2_with fail
  refine wp_loop_rounds 3 ?_
  rw [rounds_succ]
  go_wp2_with (go_at_call 230; (with_reducible refine (R0.out _ HB).mono ?_); rintro e w3 ⟨rfl, hb⟩; replace HB := HBstep HB hb; clear hb)
  (with_reducible refine (p0.on HB).mono ?_)
  rintro e w4 ⟨rfl, HB⟩
  go_wp2_with fail
  try rw [Exit.noGoto_ret]
  go_ret2
  exact ⟨rfl, HB⟩
set_option maxHeartbeats 2000000 in
theorem thr_great_no (w : World) (b : Nat) (root : Int) (at_ n0 : BitVec 64) (h : at_.toNat < 65536) (r0 : Reads w 230 b root ((bitsB at_ 12 4).toNat : Int) n0 0) (hs0 : isB n0 = true) (lf0 : leafB n0 = true) (hz : bitsB n0 8 4 ≠ 0#64) : Through w b root at_ 0#64 1 := by
  have HB := Below.refl w.heap.size w
  have h2 : decide ((65536 : Int) ≤ (at_.toNat : Int)) = false := decide_eq_false (by omega)
  have q0 := i64_of_u64 (bitsB at_ 12 4) (by have := bits_lt at_ 12 4 (by omega); omega)
  have q1 := i64_of_u64 (bitsB at_ 8 4) (by have := bits_lt at_ 8 4 (by omega); omega)
  have s0 := bits_b at_ 8 4
  have s1 := bits_b at_ 12 4
  rw [l8, n84] at s0
  rw [l12, n124] at s1
  have p0 := pis_b n0
  rw [hs0] at p0
  have f0 := pleaf_b n0
  rw [lf0] at f0
  have sb := bits_b n0 8 4
  rw [l8, n84] at sb
  have t0 : (((bitsB n0 8 4).toNat : Int) != 0) = true := (u_ne (bitsB n0 8 4) 0#64).trans (by simpa using hz)
  generalize bitsB at_ 12 4 = i0 at *
  generalize bitsB at_ 8 4 = i1 at *
  have ix0 := two_ix0 (U i0) (U i1)
  have ix1 := two_ix1 (U i0) (U i1)
  generalize bitsB n0 8 4 = bb at *
  unfold Reads at *
  unfold Through
  have R0 := Lib.hid r0
  clear h r0 hz hs0 lf0
  go_enter Tryz.func211, Tryz.ntmps211
  go_wp2
  go_step3
  go_wp2_with fail
  (with_reducible refine (s0.on HB).mono ?_)
  rintro e w1 ⟨rfl, HB⟩
  go_wp2_with fail
  go_step3
  go_wp2_with fail
  (with_reducible refine (s1.on HB).mono ?_)
  rintro e w2 ⟨rfl, HB⟩
  go_wp2_with fail
  refine wp_loop_rounds 3 ?_
  rw [rounds_succ]
  go_wp2_with (go_at_call 230; (with_reducible refine (R0.out _ HB).mono ?_); rintro e w3 ⟨rfl, hb⟩; replace HB := HBstep HB hb; clear hb)
  (with_reducible refine (p0.on HB).mono ?_)
  rintro e w4 ⟨rfl, HB⟩
  go_wp2_with fail
  (with_reducible refine (f0.on HB).mono ?_)
  rintro e w5 ⟨rfl, HB⟩
  go_wp2_with fail
  (with_reducible refine (sb.on HB).mono ?_)
  rintro e w6 ⟨rfl, HB⟩
  go_wp2_with fail
  try rw [Exit.noGoto_ret]
  go_ret2
  exact ⟨rfl, HB⟩
set_option maxHeartbeats 2000000 in
theorem thr_great (w : World) (b : Nat) (root : Int) (at_ n0 : BitVec 64) (h : at_.toNat < 65536) (r0 : Reads w 230 b root ((bitsB at_ 12 4).toNat : Int) n0 0) (hs0 : isB n0 = true) (lf0 : leafB n0 = true) (hz : bitsB n0 8 4 = 0#64) : Through w b root at_ (setB n0 8 4 (bitsB at_ 8 4)) 0 := by
  have HB := Below.refl w.heap.size w
  have h2 : decide ((65536 : Int) ≤ (at_.toNat : Int)) = false := decide_eq_false (by omega)
  have q0 := i64_of_u64 (bitsB at_ 12 4) (by have := bits_lt at_ 12 4 (by omega); omega)
  have q1 := i64_of_u64 (bitsB at_ 8 4) (by have := bits_lt at_ 8 4 (by omega); omega)
  have s0 := bits_b at_ 8 4
  have s1 := bits_b at_ 12 4
  rw [l8, n84] at s0
  rw [l12, n124] at s1
  have p0 := pis_b n0
  rw [hs0] at p0
  have f0 := pleaf_b n0
  rw [lf0] at f0
  have sb := bits_b n0 8 4
  rw [l8, n84] at sb
  have ss := set_b n0 8 4 (bitsB at_ 8 4)
  rw [l8, n84] at ss
  have t0 : (((bitsB n0 8 4).toNat : Int) != 0) = false := by rw [hz]; rfl
  generalize bitsB at_ 12 4 = i0 at *
  generalize bitsB at_ 8 4 = i1 at *
  have ix0 := two_ix0 (U i0) (U i1)
  have ix1 := two_ix1 (U i0) (U i1)
  generalize bitsB n0 8 4 = bb at *
  unfold Reads at *
  unfold Through
  have R0 := Lib.hid r0
  clear h r0 hz hs0 lf0
  go_enter Tryz.func211, Tryz.ntmps211
  go_wp2
  go_step3
  go_wp2_with fail
  (with_reducible refine (s0.on HB).mono ?_)
  rintro e w1 ⟨rfl, HB⟩
  go_wp2_with fail
  go_step3
  go_wp2_with fail
  (with_reducible refine (s1.on HB).mono ?_)
  rintro e w2 ⟨rfl, HB⟩
  go_wp2_with fail
  refine wp_loop_rounds 3 ?_
  rw [rounds_succ]
  go_wp2_with (go_at_call 230; (with_reducible refine (R0.out _ HB).mono ?_); rintro e w3 ⟨rfl, hb⟩; replace HB := HBstep HB hb; clear hb)
  (with_reducible refine (p0.on HB).mono ?_)
  rintro e w4 ⟨rfl, HB⟩
  go_wp2_with fail
  (with_reducible refine (f0.on HB).mono ?_)
  rintro e w5 ⟨rfl, HB⟩
  go_wp2_with fail
  (with_reducible refine (sb.on HB).mono ?_)
  rintro e w6 ⟨rfl, HB⟩
  go_wp2_with fail
  (with_reducible refine (ss.on HB).mono ?_)
  rintro e w7 ⟨rfl, HB⟩
  go_wp2_with fail
  try rw [Exit.noGoto_ret]
  go_ret2
  exact ⟨rfl, HB⟩
set_option maxHeartbeats 2000000 in
theorem thr_code2 (w : World) (b : Nat) (root : Int) (at_ n0 : BitVec 64) (h : at_.toNat < 65536) (n1 : BitVec 64) (c : Int) (r0 : Reads w 230 b root ((bitsB at_ 12 4).toNat : Int) n0 0) (hs0 : isB n0 = true) (lf0 : leafB n0 = false) (r1 : Reads w 230 b (frameB n0 : Int) ((bitsB at_ 8 4).toNat : Int) n1 c) (hc : c ≠ 0) : Through w b root at_ 0#64 c := by
  have HB := Below.refl w.heap.size w
  have h2 : decide ((65536 : Int) ≤ (at_.toNat : Int)) = false := decide_eq_false (by omega)
  have q0 := i64_of_u64 (bitsB at_ 12 4) (by have := bits_lt at_ 12 4 (by omega); omega)
  have q1 := i64_of_u64 (bitsB at_ 8 4) (by have := bits_lt at_ 8 4 (by omega); omega)
  have s0 := bits_b at_ 8 4
  have s1 := bits_b at_ 12 4
  rw [l8, n84] at s0
  rw [l12, n124] at s1
  have p0 := pis_b n0
  rw [hs0] at p0
  have f0 := pleaf_b n0
  rw [lf0] at f0
  have fr := pframe_b n0
  have R1 := Lib.hid r1
  have t0 : (c != 0) = true := bne_iff_ne.2 hc
  generalize bitsB at_ 12 4 = i0 at *
  generalize bitsB at_ 8 4 = i1 at *
  have ix0 := two_ix0 (U i0) (U i1)
  have ix1 := two_ix1 (U i0) (U i1)
  generalize frameB n0 = fn0 at *
  unfold Reads at *
  unfold Through
  have R0 := Lib.hid r0
  clear h r0 hc hs0 lf0 r1
  go_enter Tryz.func211, Tryz.ntmps211
  go_wp2
  go_step3
  go_wp2_with fail
  (with_reducible refine (s0.on HB).mono ?_)
  rintro e w1 ⟨rfl, HB⟩
  go_wp2_with fail
  go_step3
  go_wp2_with fail
  (with_reducible refine (s1.on HB).mono ?_)
  rintro e w2 ⟨rfl, HB⟩
  go_wp2_with fail
  refine wp_loop_rounds 3 ?_
  rw [rounds_succ]
  go_wp2_with (go_at_call 230; (with_reducible refine (R0.out _ HB).mono ?_); rintro e w3 ⟨rfl, hb⟩; replace HB := HBstep HB hb; clear hb)
  (with_reducible refine (p0.on HB).mono ?_)
  rintro e w4 ⟨rfl, HB⟩
  go_wp2_with fail
  (with_reducible refine (f0.on HB).mono ?_)
  rintro e w5 ⟨rfl, HB⟩
  go_wp2_with fail
  (with_reducible refine (fr.on HB).mono ?_)
  rintro e w6 ⟨rfl, HB⟩
  go_wp2_with fail
  rw [rounds_succ]
  go_wp2_with (go_at_call 230; (with_reducible refine (R1.out _ HB).mono ?_); rintro e w7 ⟨rfl, hb⟩; replace HB := HBstep HB hb; clear hb)
  try rw [Exit.noGoto_ret]
  go_ret2
  exact ⟨rfl, HB⟩
set_option maxHeartbeats 2000000 in
theorem thr_none2 (w : World) (b : Nat) (root : Int) (at_ n0 : BitVec 64) (h : at_.toNat < 65536) (n1 : BitVec 64) (r0 : Reads w 230 b root ((bitsB at_ 12 4).toNat : Int) n0 0) (hs0 : isB n0 = true) (lf0 : leafB n0 = false) (r1 : Reads w 230 b (frameB n0 : Int) ((bitsB at_ 8 4).toNat : Int) n1 0) (hs1 : isB n1 = false) : Through w b root at_ 0#64 1 := by
  have HB := Below.refl w.heap.size w
  have h2 : decide ((65536 : Int) ≤ (at_.toNat : Int)) = false := decide_eq_false (by omega)
  have q0 := i64_of_u64 (bitsB at_ 12 4) (by have := bits_lt at_ 12 4 (by omega); omega)
  have q1 := i64_of_u64 (bitsB at_ 8 4) (by have := bits_lt at_ 8 4 (by omega); omega)
  have s0 := bits_b at_ 8 4
  have s1 := bits_b at_ 12 4
  rw [l8, n84] at s0
  rw [l12, n124] at s1
  have p0 := pis_b n0
  rw [hs0] at p0
  have f0 := pleaf_b n0
  rw [lf0] at f0
  have fr := pframe_b n0
  have R1 := Lib.hid r1
  have p1 := pis_b n1
  rw [hs1] at p1
  generalize bitsB at_ 12 4 = i0 at *
  generalize bitsB at_ 8 4 = i1 at *
  have ix0 := two_ix0 (U i0) (U i1)
  have ix1 := two_ix1 (U i0) (U i1)
  generalize frameB n0 = fn0 at *
  unfold Reads at *
  unfold Through
  have R0 := Lib.hid r0
  clear h r0 hs0 lf0 r1 hs1
  go_enter Tryz.func211, Tryz.ntmps211
  go_wp2
  go_step3
  go_wp2_with fail
  (with_reducible refine (s0.on HB).mono ?_)
  rintro e w1 ⟨rfl, HB⟩
  go_wp2_with fail
  go_step3
  go_wp2_with fail
  (with_reducible refine (s1.on HB).mono ?_)
  rintro e w2 ⟨rfl, HB⟩
  go_wp2_with fail
  refine wp_loop_rounds 3 ?_
  rw [rounds_succ]
  go_wp2_with (go_at_call 230; (with_reducible refine (R0.out _ HB).mono ?_); rintro e w3 ⟨rfl, hb⟩; replace HB := HBstep HB hb; clear hb)
  (with_reducible refine (p0.on HB).mono ?_)
  rintro e w4 ⟨rfl, HB⟩
  go_wp2_with fail
  (with_reducible refine (f0.on HB).mono ?_)
  rintro e w5 ⟨rfl, HB⟩
  go_wp2_with fail
  (with_reducible refine (fr.on HB).mono ?_)
  rintro e w6 ⟨rfl, HB⟩
  go_wp2_with fail
  rw [rounds_succ]
  go_wp2_with (go_at_call 230; (with_reducible refine (R1.out _ HB).mono ?_); rintro e w7 ⟨rfl, hb⟩; replace HB := HBstep HB hb; clear hb)
  (with_reducible refine (p1.on HB).mono ?_)
  rintro e w8 ⟨rfl, HB⟩
  go_wp2_with fail
  try rw [Exit.noGoto_ret]
  go_ret2
  exact ⟨rfl, HB⟩
set_option maxHeartbeats 2000000 in
theorem thr_ptr2 (w : World) (b : Nat) (root : Int) (at_ n0 : BitVec 64) (h : at_.toNat < 65536) (n1 : BitVec 64) (r0 : Reads w 230 b root ((bitsB at_ 12 4).toNat : Int) n0 0) (hs0 : isB n0 = true) (lf0 : leafB n0 = false) (r1 : Reads w 230 b (frameB n0 : Int) ((bitsB at_ 8 4).toNat : Int) n1 0) (hs1 : isB n1 = true) (lf1 : leafB n1 = false) : Through w b root at_ 0#64 1 := by
  have HB := Below.refl w.heap.size w
  have h2 : decide ((65536 : Int) ≤ (at_.toNat : Int)) = false := decide_eq_false (by omega)
  have q0 := i64_of_u64 (bitsB at_ 12 4) (by have := bits_lt at_ 12 4 (by omega); omega)
  have q1 := i64_of_u64 (bitsB at_ 8 4) (by have := bits_lt at_ 8 4 (by omega); omega)
  have s0 := bits_b at_ 8 4
  have s1 := bits_b at_ 12 4
  rw [l8, n84] at s0
  rw [l12, n124] at s1
  have p0 := pis_b n0
  rw [hs0] at p0
  have f0 := pleaf_b n0
  rw [lf0] at f0
  have fr := pframe_b n0
  have R1 := Lib.hid r1
  have p1 := pis_b n1
  rw [hs1] at p1
  have f1 := pleaf_b n1
  rw [lf1] at f1
  have fr1 := pframe_b n1
  generalize bitsB at_ 12 4 = i0 at *
  generalize bitsB at_ 8 4 = i1 at *
  have ix0 := two_ix0 (U i0) (U i1)
  have ix1 := two_ix1 (U i0) (U i1)
  generalize frameB n0 = fn0 at *
  generalize frameB n1 = fn1 at *
  unfold Reads at *
  unfold Through
  have R0 := Lib.hid r0
  clear h r0 hs0 lf0 r1 hs1 lf1
  go_enter Tryz.func211, Tryz.ntmps211
  go_wp2
  go_step3
  go_wp2_with fail
  (with_reducible refine (s0.on HB).mono ?_)
  rintro e w1 ⟨rfl, HB⟩
  go_wp2_with fail
  go_step3
  go_wp2_with fail
  (with_reducible refine (s1.on HB).mono ?_)
  rintro e w2 ⟨rfl, HB⟩
  go_wp2_with fail
  refine wp_loop_rounds 3 ?_
  rw [rounds_succ]
  go_wp2_with (go_at_call 230; (with_reducible refine (R0.out _ HB).mono ?_); rintro e w3 ⟨rfl, hb⟩; replace HB := HBstep HB hb; clear hb)
  (with_reducible refine (p0.on HB).mono ?_)
  rintro e w4 ⟨rfl, HB⟩
  go_wp2_with fail
  (with_reducible refine (f0.on HB).mono ?_)
  rintro e w5 ⟨rfl, HB⟩
  go_wp2_with fail
  (with_reducible refine (fr.on HB).mono ?_)
  rintro e w6 ⟨rfl, HB⟩
  go_wp2_with fail
  rw [rounds_succ]
  go_wp2_with (go_at_call 230; (with_reducible refine (R1.out _ HB).mono ?_); rintro e w7 ⟨rfl, hb⟩; replace HB := HBstep HB hb; clear hb)
  (with_reducible refine (p1.on HB).mono ?_)
  rintro e w8 ⟨rfl, HB⟩
  go_wp2_with fail
  (with_reducible refine (f1.on HB).mono ?_)
  rintro e w9 ⟨rfl, HB⟩
  go_wp2_with fail
  (with_reducible refine (fr1.on HB).mono ?_)
  rintro e w10 ⟨rfl, HB⟩
  go_wp2_with fail
  rw [rounds_succ]
  go_wp2_with fail
  try rw [Exit.noGoto_ret]
  go_ret2
  exact ⟨rfl, HB⟩
set_option maxHeartbeats 2000000 in
theorem thr_page (w : World) (b : Nat) (root : Int) (at_ n0 : BitVec 64) (h : at_.toNat < 65536) (n1 : BitVec 64) (r0 : Reads w 230 b root ((bitsB at_ 12 4).toNat : Int) n0 0) (hs0 : isB n0 = true) (lf0 : leafB n0 = false) (r1 : Reads w 230 b (frameB n0 : Int) ((bitsB at_ 8 4).toNat : Int) n1 0) (hs1 : isB n1 = true) (lf1 : leafB n1 = true) : Through w b root at_ n1 0 := by
  have HB := Below.refl w.heap.size w
  have h2 : decide ((65536 : Int) ≤ (at_.toNat : Int)) = false := decide_eq_false (by omega)
  have q0 := i64_of_u64 (bitsB at_ 12 4) (by have := bits_lt at_ 12 4 (by omega); omega)
  have q1 := i64_of_u64 (bitsB at_ 8 4) (by have := bits_lt at_ 8 4 (by omega); omega)
  have s0 := bits_b at_ 8 4
  have s1 := bits_b at_ 12 4
  rw [l8, n84] at s0
  rw [l12, n124] at s1
  have p0 := pis_b n0
  rw [hs0] at p0
  have f0 := pleaf_b n0
  rw [lf0] at f0
  have fr := pframe_b n0
  have R1 := Lib.hid r1
  have p1 := pis_b n1
  rw [hs1] at p1
  have f1 := pleaf_b n1
  rw [lf1] at f1
  generalize bitsB at_ 12 4 = i0 at *
  generalize bitsB at_ 8 4 = i1 at *
  have ix0 := two_ix0 (U i0) (U i1)
  have ix1 := two_ix1 (U i0) (U i1)
  generalize frameB n0 = fn0 at *
  unfold Reads at *
  unfold Through
  have R0 := Lib.hid r0
  clear h r0 hs0 lf0 r1 hs1 lf1
  go_enter Tryz.func211, Tryz.ntmps211
  go_wp2
  go_step3
  go_wp2_with fail
  (with_reducible refine (s0.on HB).mono ?_)
  rintro e w1 ⟨rfl, HB⟩
  go_wp2_with fail
  go_step3
  go_wp2_with fail
  (with_reducible refine (s1.on HB).mono ?_)
  rintro e w2 ⟨rfl, HB⟩
  go_wp2_with fail
  refine wp_loop_rounds 3 ?_
  rw [rounds_succ]
  go_wp2_with (go_at_call 230; (with_reducible refine (R0.out _ HB).mono ?_); rintro e w3 ⟨rfl, hb⟩; replace HB := HBstep HB hb; clear hb)
  (with_reducible refine (p0.on HB).mono ?_)
  rintro e w4 ⟨rfl, HB⟩
  go_wp2_with fail
  (with_reducible refine (f0.on HB).mono ?_)
  rintro e w5 ⟨rfl, HB⟩
  go_wp2_with fail
  (with_reducible refine (fr.on HB).mono ?_)
  rintro e w6 ⟨rfl, HB⟩
  go_wp2_with fail
  rw [rounds_succ]
  go_wp2_with (go_at_call 230; (with_reducible refine (R1.out _ HB).mono ?_); rintro e w7 ⟨rfl, hb⟩; replace HB := HBstep HB hb; clear hb)
  (with_reducible refine (p1.on HB).mono ?_)
  rintro e w8 ⟨rfl, HB⟩
  go_wp2_with fail
  (with_reducible refine (f1.on HB).mono ?_)
  rintro e w9 ⟨rfl, HB⟩
  go_wp2_with fail
  try rw [Exit.noGoto_ret]
  go_ret2
  exact ⟨rfl, HB⟩
end Go.Proofs.YtfehilinnalflaaGreat
namespace Go.Proofs.YtfehilinnalflaaGreat
open Go.RowKit Go.BigFrame
set_option linter.unusedSimpArgs false
set_option linter.unusedVariables false
set_option maxRecDepth 100000
theorem walk_box (w : World) (m : Option Addr) (root : Int) (at_ v : BitVec 64) (c : Int) (h : Through (w.alloc (.cells #[.pointer m] 30)) w.heap.size root at_ v c) :
    Calls Tryz.prog 214 #[.pointer m, .int .i64 root, U at_] w fun e w' => e = .returned (.tuple #[U v, .int .i64 c]) ∧ Below w.heap.size w w' := by
  have hmf : ∀ (fn : Fn) (first cap : Array Value) (w : World), (Instr.makeFunc fn first cap).run Tryz.prog w = .ok (.func fn first cap) w := fun _ _ _ _ => rfl
  have hb0 : Below w.heap.size w (w.alloc (.cells #[.pointer m] 30)) := (Below.refl _ _).alloc (Nat.le_refl _) _
  unfold Through at h
  generalize hW : w.alloc (.cells #[.pointer m] 30) = W at *
  have H := Lib.hid h
  have HW := Lib.hid hW
  have HB0 := Lib.hid hb0
  clear h hb0
  go_enter Tryz.func214, Tryz.ntmps214
  go_wp2_with fail
  (with_reducible refine H.out.mono ?_)
  rintro e w1 ⟨rfl, hb⟩
  go_wp2
  go_ret2
  exact ⟨rfl, HB0.out.trans (hb.mono HB0.out.size)⟩
theorem reads_in {W : World} {p g b : Nat} {f : Nat → UInt8} (x k : Nat) (hM : IsMem W p g 92 f) (hc : W.cell? ⟨b, 0, none⟩ = some (.pointer (some ⟨p, 0, none⟩))) (hb : b < W.heap.size) (hx : x < 128) (hk : k < 16) :
    Reads W 230 b (x : Int) (k : Int) (readF f (x * 256 + k * 8) 8) 0 :=
  fun w' h => read_in b x k w' (hM.below h) hx hk (by rw [h.cell hb]; exact hc)
theorem reads_out {W : World} {b : Nat} {m : Value} (x k : Int) (hc : W.cell? ⟨b, 0, none⟩ = some m) (hb : b < W.heap.size) (hx : x < 0 ∨ 128 ≤ x) :
    Reads W 230 b x k 0#64 2 :=
  fun w' h => read_out m b x k w' hx (by rw [h.cell hb]; exact hc)
def walkV (f : Nat → UInt8) (root : Int) (at_ : BitVec 64) : BitVec 64 × Int :=
  if 65536 ≤ at_.toNat then (0#64, 1) else if root < 0 ∨ 128 ≤ root then (0#64, 2) else
  let n0 := readF f (root.toNat * 256 + (bitsB at_ 12 4).toNat * 8) 8
  if isB n0 = false then (0#64, 1) else if leafB n0 = true then (if bitsB n0 8 4 = 0#64 then (setB n0 8 4 (bitsB at_ 8 4), 0) else (0#64, 1)) else
  if 128 ≤ frameB n0 then (0#64, 2) else
  let n1 := readF f (frameB n0 * 256 + (bitsB at_ 8 4).toNat * 8) 8
  if leafB n1 = true then (n1, 0) else (0#64, 1)
theorem leaf_is {e : BitVec 64} (h : leafB e = true) : isB e = true := by unfold leafB at h; simp at h; exact h.1
theorem walk_all {p g : Nat} {f : Nat → UInt8} (root : Int) (at_ : BitVec 64) (w : World) (hM : IsMem w p g 92 f) :
    Calls Tryz.prog 214 #[.pointer (some ⟨p, 0, none⟩), .int .i64 root, U at_] w fun e w' => e = .returned (.tuple #[U (walkV f root at_).1, .int .i64 (walkV f root at_).2]) ∧ Below w.heap.size w w' := by
  refine walk_box w _ root at_ _ _ ?_
  have hb0 : Below w.heap.size w (w.alloc (.cells #[.pointer (some ⟨p, 0, none⟩)] 30)) := (Below.refl _ _).alloc (Nat.le_refl _) _
  have hM' := hM.below hb0
  have hc : (w.alloc (.cells #[.pointer (some ⟨p, 0, none⟩)] 30)).cell? ⟨w.heap.size, 0, none⟩ = some (.pointer (some ⟨p, 0, none⟩)) := by rw [World.cell?_alloc_at _ _ _ _ rfl]; rfl
  have hs : w.heap.size < (w.alloc (.cells #[.pointer (some ⟨p, 0, none⟩)] 30)).heap.size := by simp
  generalize w.alloc (.cells #[.pointer (some ⟨p, 0, none⟩)] 30) = W at *
  generalize w.heap.size = b at *
  unfold walkV
  have k0 := bits_lt at_ 12 4 (by omega)
  have k1 := bits_lt at_ 8 4 (by omega)
  by_cases h1 : 65536 ≤ at_.toNat
  · rw [if_pos h1]; exact thr_far W b root at_ h1
  rw [if_neg h1]
  by_cases h2 : root < 0 ∨ 128 ≤ root
  · rw [if_pos h2]; exact thr_code W b root at_ _ (by omega) 2 (reads_out root _ hc hs h2) (by omega)
  rw [if_neg h2]
  obtain ⟨x, rfl⟩ : ∃ x : Nat, root = (x : Int) := ⟨root.toNat, by omega⟩
  have r0 := reads_in x (bitsB at_ 12 4).toNat hM' hc hs (by omega) (by omega)
  simp only [Int.toNat_natCast]
  generalize readF f (x * 256 + (bitsB at_ 12 4).toNat * 8) 8 = n0 at *
  by_cases h3 : isB n0 = false
  · rw [if_pos h3]; exact thr_none W b _ at_ n0 (by omega) r0 h3
  rw [if_neg h3]
  have h3' : isB n0 = true := by simpa using h3
  by_cases h4 : leafB n0 = true
  · rw [if_pos h4]
    by_cases h5 : bitsB n0 8 4 = 0#64
    · rw [if_pos h5]; exact thr_great W b _ at_ n0 (by omega) r0 h3' h4 h5
    · rw [if_neg h5]; exact thr_great_no W b _ at_ n0 (by omega) r0 h3' h4 h5
  rw [if_neg h4]
  have h4' : leafB n0 = false := by simpa using h4
  by_cases h6 : 128 ≤ frameB n0
  · rw [if_pos h6]; exact thr_code2 W b _ at_ n0 (by omega) 0#64 2 r0 h3' h4' (reads_out _ _ hc hs (by omega)) (by omega)
  rw [if_neg h6]
  have r1 := reads_in (frameB n0) (bitsB at_ 8 4).toNat hM' hc hs (by omega) (by omega)
  generalize readF f (frameB n0 * 256 + (bitsB at_ 8 4).toNat * 8) 8 = n1 at *
  by_cases h7 : leafB n1 = true
  · rw [if_pos h7]; exact thr_page W b _ at_ n0 (by omega) n1 r0 h3' h4' r1 (leaf_is h7) h7
  rw [if_neg h7]
  by_cases h8 : isB n1 = true
  · exact thr_ptr2 W b _ at_ n0 (by omega) n1 r0 h3' h4' r1 h8 (by simpa using h7)
  · exact thr_none2 W b _ at_ n0 (by omega) n1 r0 h3' h4' r1 (by simpa using h8)
end Go.Proofs.YtfehilinnalflaaGreat
namespace Go.Proofs.YtfehilinnalflaaGreat
open Go.RowKit Go.BigFrame
set_option linter.unusedSimpArgs false
set_option linter.unusedVariables false
set_option maxRecDepth 100000
def Env.addZ (E : Env) (T : TypeId) (cs : List Ch) : Env := { zt := fun t => if t = T then some cs else E.zt t, spec := E.spec, specL := E.specL, specR := E.specR, specX := E.specX, specM := E.specM, fx := E.fx }
theorem EnvOk.addZ {P : Program} {E : Env} (h : EnvOk P E) (T : TypeId) (cs : List Ch) (h1 : (P.info? T).map (fun it => it.zero.map (·.cells)) = some (some (flat cs).toArray)) (h2 : okChs cs = true) : EnvOk P (E.addZ T cs) :=
  ⟨fun t c hc => by
    have hc' : (if t = T then some cs else E.zt t) = some c := hc
    split at hc'
    · rename_i e; cases hc'; subst e
      cases hi : P.info? t with
      | none => rw [hi] at h1; cases h1
      | some it =>
        rw [hi] at h1
        cases hz : it.zero with
        | none => simp [hz] at h1
        | some z => exact ⟨⟨it, z, rfl, hz, by simpa [hz] using h1⟩, h2⟩
    · exact h.zt t c hc', h.spec, h.specL, h.specR, h.specX, h.specM⟩
noncomputable def E_zr : Env := FnNE.addZ 314 ((ztA Tryz.prog 6 314).getD [])
theorem E_zr_ok : EnvOk Tryz.prog E_zr := FnNE_ok.addZ _ _ (by kernel_rfl) (by kernel_rfl)
def s_walk (avs : List AV) (H : Hp) : Option (Bool × AV) :=
  match avs, H.m with
  | [.d (.s (.x _ (.pointer (some ⟨p, 0, none⟩)))), .d (.s (.x _ (.int .i64 root))), .d (.s (.u _ a))], some S => some (decide (p = S.p), .t [.s (.u false (walkV S.bus.f root a).1), .s (.x false (.int .i64 (walkV S.bus.f root a).2))])
  | _, _ => none
noncomputable def MwE : Env := E_zr.addR 214 s_walk
theorem MwE_ok : EnvOk Tryz.prog MwE := E_zr_ok.addR _ _ (fun xs => by kernel_rfl) (by
  intro avs H n av h hn X w0 σ w args F M
  unfold s_walk at h
  split at h
  · rename_i s1 p s3 m s2 a S hS
    cases h
    obtain ⟨v1, l1, rfl, e1, F⟩ := F.uncons
    obtain ⟨v2, l2, rfl, e2, F⟩ := F.uncons
    obtain ⟨v3, l3, rfl, e3, F⟩ := F.uncons
    obtain rfl := F.nil_
    have hp : p = S.p := of_decide_eq_true hn
    have e1' : v1 = .pointer (some ⟨p, 0, none⟩) := e1
    have e2' : v2 = .int .i64 m := e2
    have e3' : v3 = U a := e3
    refine ⟨_, rfl, fun w1 hb => ?_⟩
    obtain ⟨G, hM⟩ := M.mach_at hS hb
    obtain ⟨g, ks, vs, hI, _⟩ := hM.bus
    rw [e1', e2', e3', hp]
    exact walk_all m a w1 hI.mem
  · cases h)
end Go.Proofs.YtfehilinnalflaaGreat
namespace Go.Proofs.YtfehilinnalflaaGreat
open Go.RowKit Go.BigFrame
set_option linter.unusedSimpArgs false
set_option linter.unusedVariables false
set_option maxRecDepth 100000
noncomputable def t_walk_Entry (S : HS) (a0 : Nat) (a1 : Int) (a2 : Int) : Tr := evFX Tryz.prog MwE 120 Tryz.f229 [.d (.s (.x false (.pointer (some ⟨a0, 0, none⟩)))), .d (.s (.x false (.int .i64 a1))), .d (.s (.x false (.int .i64 a2)))] ⟨[], some S, false, 0⟩
theorem is_walk_Entry (S : HS) (a0 : Nat) (a1 : Int) (a2 : Int) : (t_walk_Entry S a0 a1 a2).is ([.s (.u), .s (.b)]) = true := by kernel_rfl
noncomputable def s_walk_Entry (avs : List AV) (H : Hp) : Option (Bool × AV) :=
  match avs, H.m with
  | [.d (.s c0), .d (.s c1), .d (.s c2)], some S => (cP c0).bind fun a0 => (cI .i64 c1).bind fun a1 => (cI .i64 c2).bind fun a2 => told (t_walk_Entry S a0 a1 a2) [.s (.u), .s (.b)]
  | _, _ => none
noncomputable def E_walk_Entry : Env := MwE.addR 229 s_walk_Entry
theorem E_walk_Entry_ok : EnvOk Tryz.prog E_walk_Entry := MwE_ok.addR _ _ (fun xs => by kernel_rfl) (by
  intro avs H n av h hn
  unfold s_walk_Entry at h
  split at h
  · rename_i c0 c1 c2 S hS
    obtain ⟨a0, h0, h⟩ := bind_some h
    obtain ⟨a1, h1, h⟩ := bind_some h
    obtain ⟨a2, h2, h⟩ := bind_some h
    exact read_ok (n := 120) (avs := [.d (.s c0), .d (.s c1), .d (.s c2)]) (args := [.d (.s (.x false (.pointer (some ⟨a0, 0, none⟩)))), .d (.s (.x false (.int .i64 a1))), .d (.s (.x false (.int .i64 a2)))]) (t := (t_walk_Entry S a0 a1 a2)) (sh := [.s (.u), .s (.b)]) MwE_ok hmix Tryz.func229 (Sub.none H false _ (fun T h => hS.trans h)) rfl rfl ⟨(by show Dv.val _ = Dv.val _; simp only [Dv.val, flat, (cP_ok h0).2]), (by show Dv.val _ = Dv.val _; simp only [Dv.val, flat, (cI_ok h1).2]), (by show Dv.val _ = Dv.val _; simp only [Dv.val, flat, (cI_ok h2).2]), trivial⟩ rfl (is_walk_Entry S a0 a1 a2) h hn
  · cases h)
noncomputable def t_two_second (S : HS) (a0 : Nat) (a1 : Bool) (a2 : Bool) (a3 : Bool) (a4 : Bool) (a5 : Int) (a6 : Int) (a7 : Int) (a8 : Int) (a9 : BitVec 64) (a10 : Int) : Tr := evFX Tryz.prog E_walk_Entry 120 Tryz.f166 [.d (.s (.x false (.pointer (some ⟨a0, 0, none⟩)))), .d (.g [.x false (.bool a1), .x false (.bool a2), .x false (.bool a3), .x false (.bool a4), .x false (.int .i64 a5), .x false (.int .i64 a6), .x false (.int .i64 a7), .x false (.int .i64 a8)]), .d (.s (.u false a9)), .d (.s (.x false (.int .i64 a10)))] ⟨[], some S, false, 0⟩
theorem is_two_second (S : HS) (a0 : Nat) (a1 : Bool) (a2 : Bool) (a3 : Bool) (a4 : Bool) (a5 : Int) (a6 : Int) (a7 : Int) (a8 : Int) (a9 : BitVec 64) (a10 : Int) : (t_two_second S a0 a1 a2 a3 a4 a5 a6 a7 a8 a9 a10).is ([.s (.u), .s (.i .i64), .s (.i .i64)]) = true := by kernel_rfl
noncomputable def s_two_second (avs : List AV) (H : Hp) : Option (Bool × AV) :=
  match avs, H.m with
  | [.d (.s c0), .d (.g [c1, c2, c3, c4, c5, c6, c7, c8]), .d (.s c9), .d (.s c10)], some S => (cP c0).bind fun a0 => (cB c1).bind fun a1 => (cB c2).bind fun a2 => (cB c3).bind fun a3 => (cB c4).bind fun a4 => (cI .i64 c5).bind fun a5 => (cI .i64 c6).bind fun a6 => (cI .i64 c7).bind fun a7 => (cI .i64 c8).bind fun a8 => (cU c9).bind fun a9 => (cI .i64 c10).bind fun a10 => told (t_two_second S a0 a1 a2 a3 a4 a5 a6 a7 a8 a9 a10) [.s (.u), .s (.i .i64), .s (.i .i64)]
  | _, _ => none
noncomputable def E_two_second : Env := E_walk_Entry.addR 166 s_two_second
theorem E_two_second_ok : EnvOk Tryz.prog E_two_second := E_walk_Entry_ok.addR _ _ (fun xs => by kernel_rfl) (by
  intro avs H n av h hn
  unfold s_two_second at h
  split at h
  · rename_i c0 c1 c2 c3 c4 c5 c6 c7 c8 c9 c10 S hS
    obtain ⟨a0, h0, h⟩ := bind_some h
    obtain ⟨a1, h1, h⟩ := bind_some h
    obtain ⟨a2, h2, h⟩ := bind_some h
    obtain ⟨a3, h3, h⟩ := bind_some h
    obtain ⟨a4, h4, h⟩ := bind_some h
    obtain ⟨a5, h5, h⟩ := bind_some h
    obtain ⟨a6, h6, h⟩ := bind_some h
    obtain ⟨a7, h7, h⟩ := bind_some h
    obtain ⟨a8, h8, h⟩ := bind_some h
    obtain ⟨a9, h9, h⟩ := bind_some h
    obtain ⟨a10, h10, h⟩ := bind_some h
    exact read_ok (n := 120) (avs := [.d (.s c0), .d (.g [c1, c2, c3, c4, c5, c6, c7, c8]), .d (.s c9), .d (.s c10)]) (args := [.d (.s (.x false (.pointer (some ⟨a0, 0, none⟩)))), .d (.g [.x false (.bool a1), .x false (.bool a2), .x false (.bool a3), .x false (.bool a4), .x false (.int .i64 a5), .x false (.int .i64 a6), .x false (.int .i64 a7), .x false (.int .i64 a8)]), .d (.s (.u false a9)), .d (.s (.x false (.int .i64 a10)))]) (t := (t_two_second S a0 a1 a2 a3 a4 a5 a6 a7 a8 a9 a10)) (sh := [.s (.u), .s (.i .i64), .s (.i .i64)]) E_walk_Entry_ok hmix Tryz.func166 (Sub.none H false _ (fun T h => hS.trans h)) rfl rfl ⟨(by show Dv.val _ = Dv.val _; simp only [Dv.val, flat, (cP_ok h0).2]), (by show Dv.val _ = Dv.val _; simp only [Dv.val, flat, (cB_ok h1).1, (cB_ok h2).1, (cB_ok h3).1, (cB_ok h4).1, (cI_ok h5).1, (cI_ok h6).1, (cI_ok h7).1, (cI_ok h8).1]), (by show Dv.val _ = Dv.val _; simp only [Dv.val, flat, (cU_ok h9).2]), (by show Dv.val _ = Dv.val _; simp only [Dv.val, flat, (cI_ok h10).2]), trivial⟩ rfl (is_two_second S a0 a1 a2 a3 a4 a5 a6 a7 a8 a9 a10) h hn
  · cases h)
noncomputable def t__two_reader_entry (S : HS) (b0 : Nat) (b1 : Bool) (b2 : Bool) (b3 : Bool) (b4 : Bool) (b5 : Int) (b6 : Int) (b7 : Int) (b8 : Int) (b9 : BitVec 64) (a10 : Int) (a11 : Int) : Tr := evFX Tryz.prog E_two_second 120 Tryz.f212 [.p 0 0, .d (.s (.x false (.int .i64 a10))), .d (.s (.x false (.int .i64 a11)))] ⟨[⟨314, [.x false (.pointer (some ⟨b0, 0, none⟩)), .x false (.bool b1), .x false (.bool b2), .x false (.bool b3), .x false (.bool b4), .x false (.int .i64 b5), .x false (.int .i64 b6), .x false (.int .i64 b7), .x false (.int .i64 b8), .u false b9]⟩], some S, false, 0⟩
theorem is__two_reader_entry (S : HS) (b0 : Nat) (b1 : Bool) (b2 : Bool) (b3 : Bool) (b4 : Bool) (b5 : Int) (b6 : Int) (b7 : Int) (b8 : Int) (b9 : BitVec 64) (a10 : Int) (a11 : Int) : (t__two_reader_entry S b0 b1 b2 b3 b4 b5 b6 b7 b8 b9 a10 a11).is ([.s (.u), .s (.i .i64)] ++ bsh [(314, [.v, .b, .b, .b, .b, .i .i64, .i .i64, .i .i64, .i .i64, .u])]) = true := by kernel_rfl
theorem v0__two_reader_entry (S : HS) (b0 : Nat) (b1 : Bool) (b2 : Bool) (b3 : Bool) (b4 : Bool) (b5 : Int) (b6 : Int) (b7 : Int) (b8 : Int) (b9 : BitVec 64) (a10 : Int) (a11 : Int) : (t__two_reader_entry S b0 b1 b2 b3 b4 b5 b6 b7 b8 b9 a10 a11).setV 2 0 b0 = t__two_reader_entry S b0 b1 b2 b3 b4 b5 b6 b7 b8 b9 a10 a11 := by kernel_rfl
noncomputable def s__two_reader_entry (avs : List AV) (H : Hp) : Option (Bool × AV × Hp) :=
  match avs, H.m with
  | [.p k0 0, .d (.s c10), .d (.s c11)], some S => match H.bs[k0]? with
    | some ⟨T0, [d0, d1, d2, d3, d4, d5, d6, d7, d8, d9]⟩ => if T0 = 314 ∧ H.ro ≤ k0 then (cP d0).bind fun b0 => (cB d1).bind fun b1 => (cB d2).bind fun b2 => (cB d3).bind fun b3 => (cB d4).bind fun b4 => (cI .i64 d5).bind fun b5 => (cI .i64 d6).bind fun b6 => (cI .i64 d7).bind fun b7 => (cI .i64 d8).bind fun b8 => (cU d9).bind fun b9 => (cI .i64 c10).bind fun a10 => (cI .i64 c11).bind fun a11 => (told (t__two_reader_entry S b0 b1 b2 b3 b4 b5 b6 b7 b8 b9 a10 a11) [.s (.u), .s (.i .i64)]).map fun r => (r.1, r.2, ⟨putAll [k0] (blks (t__two_reader_entry S b0 b1 b2 b3 b4 b5 b6 b7 b8 b9 a10 a11) 2 [(314, [.k b0, .b, .b, .b, .b, .i .i64, .i .i64, .i .i64, .i .i64, .u])]) H.bs, H.m, H.rw, H.ro⟩) else none
    | _ => none
  | _, _ => none
noncomputable def E__two_reader_entry : Env := E_two_second.addX 212 s__two_reader_entry
theorem E__two_reader_entry_ok : EnvOk Tryz.prog E__two_reader_entry := E_two_second_ok.addX _ _ (fun xs => by kernel_rfl) (by
  intro avs H n av H' h hn
  unfold s__two_reader_entry at h
  split at h
  · rename_i k0 c10 c11 S hS
    split at h
    · rename_i T0 d0 d1 d2 d3 d4 d5 d6 d7 d8 d9 hbk
      split at h
      · rename_i hT0
        obtain ⟨b0, g0, h⟩ := bind_some h
        obtain ⟨b1, g1, h⟩ := bind_some h
        obtain ⟨b2, g2, h⟩ := bind_some h
        obtain ⟨b3, g3, h⟩ := bind_some h
        obtain ⟨b4, g4, h⟩ := bind_some h
        obtain ⟨b5, g5, h⟩ := bind_some h
        obtain ⟨b6, g6, h⟩ := bind_some h
        obtain ⟨b7, g7, h⟩ := bind_some h
        obtain ⟨b8, g8, h⟩ := bind_some h
        obtain ⟨b9, g9, h⟩ := bind_some h
        obtain ⟨a10, h10, h⟩ := bind_some h
        obtain ⟨a11, h11, h⟩ := bind_some h
        obtain ⟨⟨n0, av0⟩, hq, he⟩ := Option.map_eq_some_iff.1 h
        clear h
        cases he
        exact turn0_ok (n := 120) (avs := [.p k0 0, .d (.s c10), .d (.s c11)]) (args := [.p 0 0, .d (.s (.x false (.int .i64 a10))), .d (.s (.x false (.int .i64 a11)))]) (t := (t__two_reader_entry S b0 b1 b2 b3 b4 b5 b6 b7 b8 b9 a10 a11)) (sh := [.s (.u), .s (.i .i64)]) E_two_second_ok hmix Tryz.func212 (Sub.one hbk hT0.1 (by simp only [flat, (cP_ok g0).1, (cB_ok g1).1, (cB_ok g2).1, (cB_ok g3).1, (cB_ok g4).1, (cI_ok g5).1, (cI_ok g6).1, (cI_ok g7).1, (cI_ok g8).1, (cU_ok g9).1]) _ (fun T h => hS.trans h) false 0) rfl (Shp.one _ _ _ _ _) (wr_one hT0.2) ⟨⟨rfl, rfl⟩, (by show Dv.val _ = Dv.val _; simp only [Dv.val, flat, (cI_ok h10).2]), (by show Dv.val _ = Dv.val _; simp only [Dv.val, flat, (cI_ok h11).2]), trivial⟩ rfl (is__two_reader_entry S b0 b1 b2 b3 b4 b5 b6 b7 b8 b9 a10 a11) (l' := [(314, [.k b0, .b, .b, .b, .b, .i .i64, .i .i64, .i .i64, .i .i64, .u])]) ⟨⟨rfl, ⟨.inr ⟨rfl, _, rfl, v0__two_reader_entry S b0 b1 b2 b3 b4 b5 b6 b7 b8 b9 a10 a11⟩, ⟨.inl rfl, ⟨.inl rfl, ⟨.inl rfl, ⟨.inl rfl, ⟨.inl rfl, ⟨.inl rfl, ⟨.inl rfl, ⟨.inl rfl, ⟨.inl rfl, trivial⟩⟩⟩⟩⟩⟩⟩⟩⟩⟩⟩, trivial⟩ hq hn
      · cases h
    · cases h
  · cases h)
noncomputable def t_walk_Through (S : HS) (b0 : Nat) (b1 : Bool) (b2 : Bool) (b3 : Bool) (b4 : Bool) (b5 : Int) (b6 : Int) (b7 : Int) (b8 : Int) (b9 : BitVec 64) (a10 : Int) (a11 : BitVec 64) : Tr := evFX Tryz.prog E__two_reader_entry 120 Tryz.f211 [.c 212 [(0, 0)] [], .d (.s (.x false (.int .i64 a10))), .d (.s (.u false a11))] ⟨[⟨314, [.x false (.pointer (some ⟨b0, 0, none⟩)), .x false (.bool b1), .x false (.bool b2), .x false (.bool b3), .x false (.bool b4), .x false (.int .i64 b5), .x false (.int .i64 b6), .x false (.int .i64 b7), .x false (.int .i64 b8), .u false b9]⟩], some S, false, 0⟩
theorem is_walk_Through (S : HS) (b0 : Nat) (b1 : Bool) (b2 : Bool) (b3 : Bool) (b4 : Bool) (b5 : Int) (b6 : Int) (b7 : Int) (b8 : Int) (b9 : BitVec 64) (a10 : Int) (a11 : BitVec 64) : (t_walk_Through S b0 b1 b2 b3 b4 b5 b6 b7 b8 b9 a10 a11).is ([.s (.u), .s (.i .i64)] ++ bsh [(314, [.v, .b, .b, .b, .b, .i .i64, .i .i64, .i .i64, .i .i64, .u])]) = true := by kernel_rfl
theorem v0_walk_Through (S : HS) (b0 : Nat) (b1 : Bool) (b2 : Bool) (b3 : Bool) (b4 : Bool) (b5 : Int) (b6 : Int) (b7 : Int) (b8 : Int) (b9 : BitVec 64) (a10 : Int) (a11 : BitVec 64) : (t_walk_Through S b0 b1 b2 b3 b4 b5 b6 b7 b8 b9 a10 a11).setV 2 0 b0 = t_walk_Through S b0 b1 b2 b3 b4 b5 b6 b7 b8 b9 a10 a11 := by kernel_rfl
noncomputable def s_walk_Through (avs : List AV) (H : Hp) : Option (Bool × AV × Hp) :=
  match avs, H.m with
  | [.c CF [(k0, 0)] [], .d (.s c10), .d (.s c11)], some S => match H.bs[k0]? with
    | some ⟨T0, [d0, d1, d2, d3, d4, d5, d6, d7, d8, d9]⟩ => if T0 = 314 ∧ H.ro ≤ k0 ∧ CF = 212 then (cP d0).bind fun b0 => (cB d1).bind fun b1 => (cB d2).bind fun b2 => (cB d3).bind fun b3 => (cB d4).bind fun b4 => (cI .i64 d5).bind fun b5 => (cI .i64 d6).bind fun b6 => (cI .i64 d7).bind fun b7 => (cI .i64 d8).bind fun b8 => (cU d9).bind fun b9 => (cI .i64 c10).bind fun a10 => (cU c11).bind fun a11 => (told (t_walk_Through S b0 b1 b2 b3 b4 b5 b6 b7 b8 b9 a10 a11) [.s (.u), .s (.i .i64)]).map fun r => (r.1, r.2, ⟨putAll [k0] (blks (t_walk_Through S b0 b1 b2 b3 b4 b5 b6 b7 b8 b9 a10 a11) 2 [(314, [.k b0, .b, .b, .b, .b, .i .i64, .i .i64, .i .i64, .i .i64, .u])]) H.bs, H.m, H.rw, H.ro⟩) else none
    | _ => none
  | _, _ => none
noncomputable def E_walk_Through : Env := E__two_reader_entry.addX 211 s_walk_Through
theorem E_walk_Through_ok : EnvOk Tryz.prog E_walk_Through := E__two_reader_entry_ok.addX _ _ (fun xs => by kernel_rfl) (by
  intro avs H n av H' h hn
  unfold s_walk_Through at h
  split at h
  · rename_i CF k0 c10 c11 S hS
    split at h
    · rename_i T0 d0 d1 d2 d3 d4 d5 d6 d7 d8 d9 hbk
      split at h
      · rename_i hT0
        obtain ⟨hT0, hro, hCF⟩ := hT0
        replace hT0 := And.intro hT0 hro
        obtain ⟨b0, g0, h⟩ := bind_some h
        obtain ⟨b1, g1, h⟩ := bind_some h
        obtain ⟨b2, g2, h⟩ := bind_some h
        obtain ⟨b3, g3, h⟩ := bind_some h
        obtain ⟨b4, g4, h⟩ := bind_some h
        obtain ⟨b5, g5, h⟩ := bind_some h
        obtain ⟨b6, g6, h⟩ := bind_some h
        obtain ⟨b7, g7, h⟩ := bind_some h
        obtain ⟨b8, g8, h⟩ := bind_some h
        obtain ⟨b9, g9, h⟩ := bind_some h
        obtain ⟨a10, h10, h⟩ := bind_some h
        obtain ⟨a11, h11, h⟩ := bind_some h
        obtain ⟨⟨n0, av0⟩, hq, he⟩ := Option.map_eq_some_iff.1 h
        clear h
        cases he
        exact turn0_ok (n := 120) (avs := [.c CF [(k0, 0)] [], .d (.s c10), .d (.s c11)]) (args := [.c 212 [(0, 0)] [], .d (.s (.x false (.int .i64 a10))), .d (.s (.u false a11))]) (t := (t_walk_Through S b0 b1 b2 b3 b4 b5 b6 b7 b8 b9 a10 a11)) (sh := [.s (.u), .s (.i .i64)]) E__two_reader_entry_ok hmix Tryz.func211 (Sub.one hbk hT0.1 (by simp only [flat, (cP_ok g0).1, (cB_ok g1).1, (cB_ok g2).1, (cB_ok g3).1, (cB_ok g4).1, (cI_ok g5).1, (cI_ok g6).1, (cI_ok g7).1, (cI_ok g8).1, (cU_ok g9).1]) _ (fun T h => hS.trans h) false 0) rfl (Shp.one _ _ _ _ _) (wr_one hT0.2) ⟨⟨hCF, ⟨⟨rfl, rfl⟩, trivial⟩, trivial⟩, (by show Dv.val _ = Dv.val _; simp only [Dv.val, flat, (cI_ok h10).2]), (by show Dv.val _ = Dv.val _; simp only [Dv.val, flat, (cU_ok h11).2]), trivial⟩ rfl (is_walk_Through S b0 b1 b2 b3 b4 b5 b6 b7 b8 b9 a10 a11) (l' := [(314, [.k b0, .b, .b, .b, .b, .i .i64, .i .i64, .i .i64, .i .i64, .u])]) ⟨⟨rfl, ⟨.inr ⟨rfl, _, rfl, v0_walk_Through S b0 b1 b2 b3 b4 b5 b6 b7 b8 b9 a10 a11⟩, ⟨.inl rfl, ⟨.inl rfl, ⟨.inl rfl, ⟨.inl rfl, ⟨.inl rfl, ⟨.inl rfl, ⟨.inl rfl, ⟨.inl rfl, ⟨.inl rfl, trivial⟩⟩⟩⟩⟩⟩⟩⟩⟩⟩⟩, trivial⟩ hq hn
      · cases h
    · cases h
  · cases h)
noncomputable def t_two_first (S : HS) (a0 : Nat) (a1 : Bool) (a2 : Bool) (a3 : Bool) (a4 : Bool) (a5 : Int) (a6 : Int) (a7 : Int) (a8 : Int) (a9 : BitVec 64) (a10 : Int) (a11 : Bool) (a12 : Bool) : Tr := evFX Tryz.prog E_walk_Through 120 Tryz.f165 [.d (.s (.x false (.pointer (some ⟨a0, 0, none⟩)))), .d (.g [.x false (.bool a1), .x false (.bool a2), .x false (.bool a3), .x false (.bool a4), .x false (.int .i64 a5), .x false (.int .i64 a6), .x false (.int .i64 a7), .x false (.int .i64 a8)]), .d (.g [.u false a9, .x false (.int .i64 a10), .x false (.bool a11)]), .d (.s (.x false (.bool a12)))] ⟨[], some S, false, 0⟩
theorem is_two_first (S : HS) (a0 : Nat) (a1 : Bool) (a2 : Bool) (a3 : Bool) (a4 : Bool) (a5 : Int) (a6 : Int) (a7 : Int) (a8 : Int) (a9 : BitVec 64) (a10 : Int) (a11 : Bool) (a12 : Bool) : (t_two_first S a0 a1 a2 a3 a4 a5 a6 a7 a8 a9 a10 a11 a12).is ([.s (.u), .s (.i .i64), .g [.u, .u, .u, .b], .s (.b)]) = true := by kernel_rfl
noncomputable def s_two_first (avs : List AV) (H : Hp) : Option (Bool × AV) :=
  match avs, H.m with
  | [.d (.s c0), .d (.g [c1, c2, c3, c4, c5, c6, c7, c8]), .d (.g [c9, c10, c11]), .d (.s c12)], some S => (cP c0).bind fun a0 => (cB c1).bind fun a1 => (cB c2).bind fun a2 => (cB c3).bind fun a3 => (cB c4).bind fun a4 => (cI .i64 c5).bind fun a5 => (cI .i64 c6).bind fun a6 => (cI .i64 c7).bind fun a7 => (cI .i64 c8).bind fun a8 => (cU c9).bind fun a9 => (cI .i64 c10).bind fun a10 => (cB c11).bind fun a11 => (cB c12).bind fun a12 => told (t_two_first S a0 a1 a2 a3 a4 a5 a6 a7 a8 a9 a10 a11 a12) [.s (.u), .s (.i .i64), .g [.u, .u, .u, .b], .s (.b)]
  | _, _ => none
noncomputable def E_two_first : Env := E_walk_Through.addR 165 s_two_first
theorem E_two_first_ok : EnvOk Tryz.prog E_two_first := E_walk_Through_ok.addR _ _ (fun xs => by kernel_rfl) (by
  intro avs H n av h hn
  unfold s_two_first at h
  split at h
  · rename_i c0 c1 c2 c3 c4 c5 c6 c7 c8 c9 c10 c11 c12 S hS
    obtain ⟨a0, h0, h⟩ := bind_some h
    obtain ⟨a1, h1, h⟩ := bind_some h
    obtain ⟨a2, h2, h⟩ := bind_some h
    obtain ⟨a3, h3, h⟩ := bind_some h
    obtain ⟨a4, h4, h⟩ := bind_some h
    obtain ⟨a5, h5, h⟩ := bind_some h
    obtain ⟨a6, h6, h⟩ := bind_some h
    obtain ⟨a7, h7, h⟩ := bind_some h
    obtain ⟨a8, h8, h⟩ := bind_some h
    obtain ⟨a9, h9, h⟩ := bind_some h
    obtain ⟨a10, h10, h⟩ := bind_some h
    obtain ⟨a11, h11, h⟩ := bind_some h
    obtain ⟨a12, h12, h⟩ := bind_some h
    exact read_ok (n := 120) (avs := [.d (.s c0), .d (.g [c1, c2, c3, c4, c5, c6, c7, c8]), .d (.g [c9, c10, c11]), .d (.s c12)]) (args := [.d (.s (.x false (.pointer (some ⟨a0, 0, none⟩)))), .d (.g [.x false (.bool a1), .x false (.bool a2), .x false (.bool a3), .x false (.bool a4), .x false (.int .i64 a5), .x false (.int .i64 a6), .x false (.int .i64 a7), .x false (.int .i64 a8)]), .d (.g [.u false a9, .x false (.int .i64 a10), .x false (.bool a11)]), .d (.s (.x false (.bool a12)))]) (t := (t_two_first S a0 a1 a2 a3 a4 a5 a6 a7 a8 a9 a10 a11 a12)) (sh := [.s (.u), .s (.i .i64), .g [.u, .u, .u, .b], .s (.b)]) E_walk_Through_ok hmix Tryz.func165 (Sub.none H false _ (fun T h => hS.trans h)) rfl rfl ⟨(by show Dv.val _ = Dv.val _; simp only [Dv.val, flat, (cP_ok h0).2]), (by show Dv.val _ = Dv.val _; simp only [Dv.val, flat, (cB_ok h1).1, (cB_ok h2).1, (cB_ok h3).1, (cB_ok h4).1, (cI_ok h5).1, (cI_ok h6).1, (cI_ok h7).1, (cI_ok h8).1]), (by show Dv.val _ = Dv.val _; simp only [Dv.val, flat, (cU_ok h9).1, (cI_ok h10).1, (cB_ok h11).1]), (by show Dv.val _ = Dv.val _; simp only [Dv.val, flat, (cB_ok h12).2]), trivial⟩ rfl (is_two_first S a0 a1 a2 a3 a4 a5 a6 a7 a8 a9 a10 a11 a12) h hn
  · cases h)
noncomputable def t_two_Translate (S : HS) (a0 : Nat) (a1 : St) (a2 : BitVec 64) (a3 : Int) (a4 : Int) (a5 : Bool) : Tr := evFX Tryz.prog E_two_first 120 Tryz.f108 [.d (.s (.x false (.pointer (some ⟨a0, 0, none⟩)))), .d (.s (.S a1)), .d (.s (.u false a2)), .d (.s (.x false (.int .i64 a3))), .d (.s (.x false (.int .i64 a4))), .d (.s (.x false (.bool a5)))] ⟨[], some S, false, 0⟩
theorem is_two_Translate (S : HS) (a0 : Nat) (a1 : St) (a2 : BitVec 64) (a3 : Int) (a4 : Int) (a5 : Bool) : (t_two_Translate S a0 a1 a2 a3 a4 a5).is ([.s (.u), .g [.b, .b, .i .i64, .i .i64, .i .i64, .i .i64, .i .i64, .i .i64, .i .i64], .g [.u, .u, .u, .b], .s (.b)]) = true := by kernel_rfl
noncomputable def s_two_Translate (avs : List AV) (H : Hp) : Option (Bool × AV) :=
  match avs, H.m with
  | [.d (.s c0), .d (.s c1), .d (.s c2), .d (.s c3), .d (.s c4), .d (.s c5)], some S => (cP c0).bind fun a0 => (cS c1).bind fun a1 => (cU c2).bind fun a2 => (cI .i64 c3).bind fun a3 => (cI .i64 c4).bind fun a4 => (cB c5).bind fun a5 => told (t_two_Translate S a0 a1 a2 a3 a4 a5) [.s (.u), .g [.b, .b, .i .i64, .i .i64, .i .i64, .i .i64, .i .i64, .i .i64, .i .i64], .g [.u, .u, .u, .b], .s (.b)]
  | _, _ => none
noncomputable def E_two_Translate : Env := E_two_first.addR 108 s_two_Translate
theorem E_two_Translate_ok : EnvOk Tryz.prog E_two_Translate := E_two_first_ok.addR _ _ (fun xs => by kernel_rfl) (by
  intro avs H n av h hn
  unfold s_two_Translate at h
  split at h
  · rename_i c0 c1 c2 c3 c4 c5 S hS
    obtain ⟨a0, h0, h⟩ := bind_some h
    obtain ⟨a1, h1, h⟩ := bind_some h
    obtain ⟨a2, h2, h⟩ := bind_some h
    obtain ⟨a3, h3, h⟩ := bind_some h
    obtain ⟨a4, h4, h⟩ := bind_some h
    obtain ⟨a5, h5, h⟩ := bind_some h
    exact read_ok (n := 120) (avs := [.d (.s c0), .d (.s c1), .d (.s c2), .d (.s c3), .d (.s c4), .d (.s c5)]) (args := [.d (.s (.x false (.pointer (some ⟨a0, 0, none⟩)))), .d (.s (.S a1)), .d (.s (.u false a2)), .d (.s (.x false (.int .i64 a3))), .d (.s (.x false (.int .i64 a4))), .d (.s (.x false (.bool a5)))]) (t := (t_two_Translate S a0 a1 a2 a3 a4 a5)) (sh := [.s (.u), .g [.b, .b, .i .i64, .i .i64, .i .i64, .i .i64, .i .i64, .i .i64, .i .i64], .g [.u, .u, .u, .b], .s (.b)]) E_two_first_ok hmix Tryz.func108 (Sub.none H false _ (fun T h => hS.trans h)) rfl rfl ⟨(by show Dv.val _ = Dv.val _; simp only [Dv.val, flat, (cP_ok h0).2]), (by show Dv.val _ = Dv.val _; simp only [Dv.val, flat, (cS_ok h1).2]), (by show Dv.val _ = Dv.val _; simp only [Dv.val, flat, (cU_ok h2).2]), (by show Dv.val _ = Dv.val _; simp only [Dv.val, flat, (cI_ok h3).2]), (by show Dv.val _ = Dv.val _; simp only [Dv.val, flat, (cI_ok h4).2]), (by show Dv.val _ = Dv.val _; simp only [Dv.val, flat, (cB_ok h5).2]), trivial⟩ rfl (is_two_Translate S a0 a1 a2 a3 a4 a5) h hn
  · cases h)
noncomputable def FnOE : Env := E_two_Translate
theorem FnOE_ok : EnvOk Tryz.prog FnOE := E_two_Translate_ok
end Go.Proofs.YtfehilinnalflaaGreat
namespace Go.Proofs.YtfehilinnalflaaGreat
open Go.RowKit Go.BigFrame
set_option linter.unusedSimpArgs false
set_option linter.unusedVariables false
set_option maxRecDepth 100000
noncomputable def t_access_At (S : HS) (a0 : Nat) (a1 : BitVec 64) (a2 : BitVec 64) (a3 : Int) (a4 : Int) (a5 : BitVec 64) (a6 : Bool) : Tr := evFX Tryz.prog FnOE 120 Tryz.f75 [.d (.s (.x false (.pointer (some ⟨a0, 0, none⟩)))), .d (.s (.u false a1)), .d (.s (.u false a2)), .d (.s (.x false (.int .i64 a3))), .d (.s (.x false (.int .i64 a4))), .d (.s (.u false a5)), .d (.s (.x false (.bool a6)))] ⟨[], some S, true, 0⟩
theorem is_access_At (S : HS) (a0 : Nat) (a1 : BitVec 64) (a2 : BitVec 64) (a3 : Int) (a4 : Int) (a5 : BitVec 64) (a6 : Bool) : (t_access_At S a0 a1 a2 a3 a4 a5 a6).is ([.s (.u), .g [.u, .u, .u, .b], .s (.b)] ++ bsh []) = true := by kernel_rfl
theorem m_access_At (S : HS) (a0 : Nat) (a1 : BitVec 64) (a2 : BitVec 64) (a3 : Int) (a4 : Int) (a5 : BitVec 64) (a6 : Bool) : (t_access_At S a0 a1 a2 a3 a4 a5 a6).setM S = t_access_At S a0 a1 a2 a3 a4 a5 a6 := by kernel_rfl
noncomputable def s_access_At (avs : List AV) (H : Hp) : Option (Bool × AV × HS) :=
  match avs, H.m, H.rw with
  | [.d (.s c0), .d (.s c1), .d (.s c2), .d (.s c3), .d (.s c4), .d (.s c5), .d (.s c6)], some S, true => (cP c0).bind fun a0 => (cU c1).bind fun a1 => (cU c2).bind fun a2 => (cI .i64 c3).bind fun a3 => (cI .i64 c4).bind fun a4 => (cU c5).bind fun a5 => (cB c6).bind fun a6 => (told (t_access_At S a0 a1 a2 a3 a4 a5 a6) [.s (.u), .g [.u, .u, .u, .b], .s (.b)]).map fun r => (r.1, r.2, Tr.theM (t_access_At S a0 a1 a2 a3 a4 a5 a6) S)
  | _, _, _ => none
noncomputable def E_access_At : Env := FnOE.addM 75 s_access_At
theorem E_access_At_ok : EnvOk Tryz.prog E_access_At := FnOE_ok.addM _ _ (fun xs => by kernel_rfl) (by
  intro avs H n av H' h hn
  unfold s_access_At at h
  split at h
  · rename_i c0 c1 c2 c3 c4 c5 c6 S hS hrw
    obtain ⟨a0, h0, h⟩ := bind_some h
    obtain ⟨a1, h1, h⟩ := bind_some h
    obtain ⟨a2, h2, h⟩ := bind_some h
    obtain ⟨a3, h3, h⟩ := bind_some h
    obtain ⟨a4, h4, h⟩ := bind_some h
    obtain ⟨a5, h5, h⟩ := bind_some h
    obtain ⟨a6, h6, h⟩ := bind_some h
    obtain ⟨⟨n0, av0⟩, hq, he⟩ := Option.map_eq_some_iff.1 h
    clear h
    cases he
    exact turn_ok (n := 120) (avs := [.d (.s c0), .d (.s c1), .d (.s c2), .d (.s c3), .d (.s c4), .d (.s c5), .d (.s c6)]) (args := [.d (.s (.x false (.pointer (some ⟨a0, 0, none⟩)))), .d (.s (.u false a1)), .d (.s (.u false a2)), .d (.s (.x false (.int .i64 a3))), .d (.s (.x false (.int .i64 a4))), .d (.s (.u false a5)), .d (.s (.x false (.bool a6)))]) (t := (t_access_At S a0 a1 a2 a3 a4 a5 a6)) (sh := [.s (.u), .g [.u, .u, .u, .b], .s (.b)]) FnOE_ok hmix Tryz.func75 (Sub.none H true _ (fun T h => hS.trans h)) rfl hrw hS (Shp.none _ _) (fun i j h => by cases h) ⟨(by show Dv.val _ = Dv.val _; simp only [Dv.val, flat, (cP_ok h0).2]), (by show Dv.val _ = Dv.val _; simp only [Dv.val, flat, (cU_ok h1).2]), (by show Dv.val _ = Dv.val _; simp only [Dv.val, flat, (cU_ok h2).2]), (by show Dv.val _ = Dv.val _; simp only [Dv.val, flat, (cI_ok h3).2]), (by show Dv.val _ = Dv.val _; simp only [Dv.val, flat, (cI_ok h4).2]), (by show Dv.val _ = Dv.val _; simp only [Dv.val, flat, (cU_ok h5).2]), (by show Dv.val _ = Dv.val _; simp only [Dv.val, flat, (cB_ok h6).2]), trivial⟩ rfl (is_access_At S a0 a1 a2 a3 a4 a5 a6) (l' := []) trivial (m_access_At S a0 a1 a2 a3 a4 a5 a6) hq hn
  · cases h)
noncomputable def t_access_Do (S : HS) (a0 : Nat) (a1 : St) (a2 : BitVec 64) (a3 : Int) (a4 : Int) (a5 : BitVec 64) (a6 : Int) (a7 : Bool) : Tr := evFX Tryz.prog E_access_At 120 Tryz.f195 [.d (.s (.x false (.pointer (some ⟨a0, 0, none⟩)))), .d (.s (.S a1)), .d (.s (.u false a2)), .d (.s (.x false (.int .i64 a3))), .d (.s (.x false (.int .i64 a4))), .d (.s (.u false a5)), .d (.s (.x false (.int .i64 a6))), .d (.s (.x false (.bool a7)))] ⟨[], some S, true, 0⟩
theorem is_access_Do (S : HS) (a0 : Nat) (a1 : St) (a2 : BitVec 64) (a3 : Int) (a4 : Int) (a5 : BitVec 64) (a6 : Int) (a7 : Bool) : (t_access_Do S a0 a1 a2 a3 a4 a5 a6 a7).is ([.s (.u), .g [.u, .u, .u, .b], .s (.b)] ++ bsh []) = true := by kernel_rfl
theorem m_access_Do (S : HS) (a0 : Nat) (a1 : St) (a2 : BitVec 64) (a3 : Int) (a4 : Int) (a5 : BitVec 64) (a6 : Int) (a7 : Bool) : (t_access_Do S a0 a1 a2 a3 a4 a5 a6 a7).setM S = t_access_Do S a0 a1 a2 a3 a4 a5 a6 a7 := by kernel_rfl
noncomputable def s_access_Do (avs : List AV) (H : Hp) : Option (Bool × AV × HS) :=
  match avs, H.m, H.rw with
  | [.d (.s c0), .d (.s c1), .d (.s c2), .d (.s c3), .d (.s c4), .d (.s c5), .d (.s c6), .d (.s c7)], some S, true => (cP c0).bind fun a0 => (cS c1).bind fun a1 => (cU c2).bind fun a2 => (cI .i64 c3).bind fun a3 => (cI .i64 c4).bind fun a4 => (cU c5).bind fun a5 => (cI .i64 c6).bind fun a6 => (cB c7).bind fun a7 => (told (t_access_Do S a0 a1 a2 a3 a4 a5 a6 a7) [.s (.u), .g [.u, .u, .u, .b], .s (.b)]).map fun r => (r.1, r.2, Tr.theM (t_access_Do S a0 a1 a2 a3 a4 a5 a6 a7) S)
  | _, _, _ => none
noncomputable def E_access_Do : Env := E_access_At.addM 195 s_access_Do
theorem E_access_Do_ok : EnvOk Tryz.prog E_access_Do := E_access_At_ok.addM _ _ (fun xs => by kernel_rfl) (by
  intro avs H n av H' h hn
  unfold s_access_Do at h
  split at h
  · rename_i c0 c1 c2 c3 c4 c5 c6 c7 S hS hrw
    obtain ⟨a0, h0, h⟩ := bind_some h
    obtain ⟨a1, h1, h⟩ := bind_some h
    obtain ⟨a2, h2, h⟩ := bind_some h
    obtain ⟨a3, h3, h⟩ := bind_some h
    obtain ⟨a4, h4, h⟩ := bind_some h
    obtain ⟨a5, h5, h⟩ := bind_some h
    obtain ⟨a6, h6, h⟩ := bind_some h
    obtain ⟨a7, h7, h⟩ := bind_some h
    obtain ⟨⟨n0, av0⟩, hq, he⟩ := Option.map_eq_some_iff.1 h
    clear h
    cases he
    exact turn_ok (n := 120) (avs := [.d (.s c0), .d (.s c1), .d (.s c2), .d (.s c3), .d (.s c4), .d (.s c5), .d (.s c6), .d (.s c7)]) (args := [.d (.s (.x false (.pointer (some ⟨a0, 0, none⟩)))), .d (.s (.S a1)), .d (.s (.u false a2)), .d (.s (.x false (.int .i64 a3))), .d (.s (.x false (.int .i64 a4))), .d (.s (.u false a5)), .d (.s (.x false (.int .i64 a6))), .d (.s (.x false (.bool a7)))]) (t := (t_access_Do S a0 a1 a2 a3 a4 a5 a6 a7)) (sh := [.s (.u), .g [.u, .u, .u, .b], .s (.b)]) E_access_At_ok hmix Tryz.func195 (Sub.none H true _ (fun T h => hS.trans h)) rfl hrw hS (Shp.none _ _) (fun i j h => by cases h) ⟨(by show Dv.val _ = Dv.val _; simp only [Dv.val, flat, (cP_ok h0).2]), (by show Dv.val _ = Dv.val _; simp only [Dv.val, flat, (cS_ok h1).2]), (by show Dv.val _ = Dv.val _; simp only [Dv.val, flat, (cU_ok h2).2]), (by show Dv.val _ = Dv.val _; simp only [Dv.val, flat, (cI_ok h3).2]), (by show Dv.val _ = Dv.val _; simp only [Dv.val, flat, (cI_ok h4).2]), (by show Dv.val _ = Dv.val _; simp only [Dv.val, flat, (cU_ok h5).2]), (by show Dv.val _ = Dv.val _; simp only [Dv.val, flat, (cI_ok h6).2]), (by show Dv.val _ = Dv.val _; simp only [Dv.val, flat, (cB_ok h7).2]), trivial⟩ rfl (is_access_Do S a0 a1 a2 a3 a4 a5 a6 a7) (l' := []) trivial (m_access_Do S a0 a1 a2 a3 a4 a5 a6 a7) hq hn
  · cases h)
noncomputable def t_access_runnable (S : HS) (a0 : Nat) (a1 : St) (a2 : BitVec 64) (a3 : Int) : Tr := evFX Tryz.prog E_access_Do 120 Tryz.f194 [.d (.s (.x false (.pointer (some ⟨a0, 0, none⟩)))), .d (.s (.S a1)), .d (.s (.u false a2)), .d (.s (.x false (.int .i64 a3)))] ⟨[], some S, true, 0⟩
theorem is_access_runnable (S : HS) (a0 : Nat) (a1 : St) (a2 : BitVec 64) (a3 : Int) : (t_access_runnable S a0 a1 a2 a3).is ([.s (.u), .g [.u, .u, .u, .b], .s (.b)] ++ bsh []) = true := by kernel_rfl
theorem m_access_runnable (S : HS) (a0 : Nat) (a1 : St) (a2 : BitVec 64) (a3 : Int) : (t_access_runnable S a0 a1 a2 a3).setM S = t_access_runnable S a0 a1 a2 a3 := by kernel_rfl
noncomputable def s_access_runnable (avs : List AV) (H : Hp) : Option (Bool × AV × HS) :=
  match avs, H.m, H.rw with
  | [.d (.s c0), .d (.s c1), .d (.s c2), .d (.s c3)], some S, true => (cP c0).bind fun a0 => (cS c1).bind fun a1 => (cU c2).bind fun a2 => (cI .i64 c3).bind fun a3 => (told (t_access_runnable S a0 a1 a2 a3) [.s (.u), .g [.u, .u, .u, .b], .s (.b)]).map fun r => (r.1, r.2, Tr.theM (t_access_runnable S a0 a1 a2 a3) S)
  | _, _, _ => none
noncomputable def E_access_runnable : Env := E_access_Do.addM 194 s_access_runnable
theorem E_access_runnable_ok : EnvOk Tryz.prog E_access_runnable := E_access_Do_ok.addM _ _ (fun xs => by kernel_rfl) (by
  intro avs H n av H' h hn
  unfold s_access_runnable at h
  split at h
  · rename_i c0 c1 c2 c3 S hS hrw
    obtain ⟨a0, h0, h⟩ := bind_some h
    obtain ⟨a1, h1, h⟩ := bind_some h
    obtain ⟨a2, h2, h⟩ := bind_some h
    obtain ⟨a3, h3, h⟩ := bind_some h
    obtain ⟨⟨n0, av0⟩, hq, he⟩ := Option.map_eq_some_iff.1 h
    clear h
    cases he
    exact turn_ok (n := 120) (avs := [.d (.s c0), .d (.s c1), .d (.s c2), .d (.s c3)]) (args := [.d (.s (.x false (.pointer (some ⟨a0, 0, none⟩)))), .d (.s (.S a1)), .d (.s (.u false a2)), .d (.s (.x false (.int .i64 a3)))]) (t := (t_access_runnable S a0 a1 a2 a3)) (sh := [.s (.u), .g [.u, .u, .u, .b], .s (.b)]) E_access_Do_ok hmix Tryz.func194 (Sub.none H true _ (fun T h => hS.trans h)) rfl hrw hS (Shp.none _ _) (fun i j h => by cases h) ⟨(by show Dv.val _ = Dv.val _; simp only [Dv.val, flat, (cP_ok h0).2]), (by show Dv.val _ = Dv.val _; simp only [Dv.val, flat, (cS_ok h1).2]), (by show Dv.val _ = Dv.val _; simp only [Dv.val, flat, (cU_ok h2).2]), (by show Dv.val _ = Dv.val _; simp only [Dv.val, flat, (cI_ok h3).2]), trivial⟩ rfl (is_access_runnable S a0 a1 a2 a3) (l' := []) trivial (m_access_runnable S a0 a1 a2 a3) hq hn
  · cases h)
noncomputable def FnPE : Env := E_access_runnable
theorem FnPE_ok : EnvOk Tryz.prog FnPE := E_access_runnable_ok
end Go.Proofs.YtfehilinnalflaaGreat
namespace Go.Proofs.YtfehilinnalflaaGreat
open Go.RowKit Go.BigFrame
set_option linter.unusedSimpArgs false
set_option linter.unusedVariables false
set_option maxRecDepth 100000
noncomputable def t_access_Insn (S : HS) (a0 : Nat) (a1 : St) (a2 : Int) (a3 : Int) (a4 : Int) (a5 : Int) (a6 : Int) (a7 : Int) : Tr := evFX Tryz.prog FnPE 120 Tryz.f144 [.d (.s (.x false (.pointer (some ⟨a0, 0, none⟩)))), .d (.s (.S a1)), .d (.g [.x false (.int .i64 a2), .x false (.int .i64 a3), .x false (.int .i64 a4), .x false (.int .i64 a5), .x false (.int .i64 a6), .x false (.int .i64 a7)])] ⟨[], some S, true, 0⟩
set_option maxHeartbeats 4000000 in
theorem is_access_Insn (S : HS) (a0 : Nat) (a1 : St) (a2 : Int) (a3 : Int) (a4 : Int) (a5 : Int) (a6 : Int) (a7 : Int) : (t_access_Insn S a0 a1 a2 a3 a4 a5 a6 a7).is ([.s (.u), .g [.u, .u, .u, .b], .s (.b)] ++ bsh []) = true := by kernel_rfl
set_option maxHeartbeats 4000000 in
theorem m_access_Insn (S : HS) (a0 : Nat) (a1 : St) (a2 : Int) (a3 : Int) (a4 : Int) (a5 : Int) (a6 : Int) (a7 : Int) : (t_access_Insn S a0 a1 a2 a3 a4 a5 a6 a7).setM S = t_access_Insn S a0 a1 a2 a3 a4 a5 a6 a7 := by kernel_rfl
noncomputable def s_access_Insn (avs : List AV) (H : Hp) : Option (Bool × AV × HS) :=
  match avs, H.m, H.rw with
  | [.d (.s c0), .d (.s c1), .d (.g [c2, c3, c4, c5, c6, c7])], some S, true => (cP c0).bind fun a0 => (cS c1).bind fun a1 => (cI .i64 c2).bind fun a2 => (cI .i64 c3).bind fun a3 => (cI .i64 c4).bind fun a4 => (cI .i64 c5).bind fun a5 => (cI .i64 c6).bind fun a6 => (cI .i64 c7).bind fun a7 => (told (t_access_Insn S a0 a1 a2 a3 a4 a5 a6 a7) [.s (.u), .g [.u, .u, .u, .b], .s (.b)]).map fun r => (r.1, r.2, Tr.theM (t_access_Insn S a0 a1 a2 a3 a4 a5 a6 a7) S)
  | _, _, _ => none
noncomputable def E_access_Insn : Env := FnPE.addM 144 s_access_Insn
set_option maxHeartbeats 4000000 in
theorem E_access_Insn_ok : EnvOk Tryz.prog E_access_Insn := FnPE_ok.addM _ _ (fun xs => by kernel_rfl) (by
  intro avs H n av H' h hn
  unfold s_access_Insn at h
  split at h
  · rename_i c0 c1 c2 c3 c4 c5 c6 c7 S hS hrw
    obtain ⟨a0, h0, h⟩ := bind_some h
    obtain ⟨a1, h1, h⟩ := bind_some h
    obtain ⟨a2, h2, h⟩ := bind_some h
    obtain ⟨a3, h3, h⟩ := bind_some h
    obtain ⟨a4, h4, h⟩ := bind_some h
    obtain ⟨a5, h5, h⟩ := bind_some h
    obtain ⟨a6, h6, h⟩ := bind_some h
    obtain ⟨a7, h7, h⟩ := bind_some h
    obtain ⟨⟨n0, av0⟩, hq, he⟩ := Option.map_eq_some_iff.1 h
    clear h
    cases he
    exact turn_ok (n := 120) (avs := [.d (.s c0), .d (.s c1), .d (.g [c2, c3, c4, c5, c6, c7])]) (args := [.d (.s (.x false (.pointer (some ⟨a0, 0, none⟩)))), .d (.s (.S a1)), .d (.g [.x false (.int .i64 a2), .x false (.int .i64 a3), .x false (.int .i64 a4), .x false (.int .i64 a5), .x false (.int .i64 a6), .x false (.int .i64 a7)])]) (t := (t_access_Insn S a0 a1 a2 a3 a4 a5 a6 a7)) (sh := [.s (.u), .g [.u, .u, .u, .b], .s (.b)]) FnPE_ok hmix Tryz.func144 (Sub.none H true _ (fun T h => hS.trans h)) rfl hrw hS (Shp.none _ _) (fun i j h => by cases h) ⟨(by show Dv.val _ = Dv.val _; simp only [Dv.val, flat, (cP_ok h0).2]), (by show Dv.val _ = Dv.val _; simp only [Dv.val, flat, (cS_ok h1).2]), (by show Dv.val _ = Dv.val _; simp only [Dv.val, flat, (cI_ok h2).1, (cI_ok h3).1, (cI_ok h4).1, (cI_ok h5).1, (cI_ok h6).1, (cI_ok h7).1]), trivial⟩ rfl (is_access_Insn S a0 a1 a2 a3 a4 a5 a6 a7) (l' := []) trivial (m_access_Insn S a0 a1 a2 a3 a4 a5 a6 a7) hq hn
  · cases h)
noncomputable def FnQE : Env := E_access_Insn
theorem FnQE_ok : EnvOk Tryz.prog FnQE := E_access_Insn_ok
end Go.Proofs.YtfehilinnalflaaGreat
namespace Go.Proofs.YtfehilinnalflaaGreat
open Go.RowKit Go.BigFrame
set_option linter.unusedSimpArgs false
set_option linter.unusedVariables false
set_option maxRecDepth 100000
noncomputable def t_exec_does (S : HS) (a0 : Nat) (a1 : St) (a2 : Int) (a3 : Int) (a4 : Int) (a5 : Int) (a6 : Int) (a7 : Int) : Tr := evFX Tryz.prog FnQE 120 Tryz.f94 [.d (.s (.x false (.pointer (some ⟨a0, 0, none⟩)))), .d (.s (.S a1)), .d (.g [.x false (.int .i64 a2), .x false (.int .i64 a3), .x false (.int .i64 a4), .x false (.int .i64 a5), .x false (.int .i64 a6), .x false (.int .i64 a7)])] ⟨[], some S, true, 0⟩
set_option maxHeartbeats 4000000 in
theorem is_exec_does (S : HS) (a0 : Nat) (a1 : St) (a2 : Int) (a3 : Int) (a4 : Int) (a5 : Int) (a6 : Int) (a7 : Int) : (t_exec_does S a0 a1 a2 a3 a4 a5 a6 a7).is ([.g [.S, .u, .u, .u, .u, .b, .b]] ++ bsh []) = true := by kernel_rfl
set_option maxHeartbeats 4000000 in
theorem m_exec_does (S : HS) (a0 : Nat) (a1 : St) (a2 : Int) (a3 : Int) (a4 : Int) (a5 : Int) (a6 : Int) (a7 : Int) : (t_exec_does S a0 a1 a2 a3 a4 a5 a6 a7).setM S = t_exec_does S a0 a1 a2 a3 a4 a5 a6 a7 := by kernel_rfl
noncomputable def s_exec_does (avs : List AV) (H : Hp) : Option (Bool × AV × HS) :=
  match avs, H.m, H.rw with
  | [.d (.s c0), .d (.s c1), .d (.g [c2, c3, c4, c5, c6, c7])], some S, true => (cP c0).bind fun a0 => (cS c1).bind fun a1 => (cI .i64 c2).bind fun a2 => (cI .i64 c3).bind fun a3 => (cI .i64 c4).bind fun a4 => (cI .i64 c5).bind fun a5 => (cI .i64 c6).bind fun a6 => (cI .i64 c7).bind fun a7 => (told (t_exec_does S a0 a1 a2 a3 a4 a5 a6 a7) [.g [.S, .u, .u, .u, .u, .b, .b]]).map fun r => (r.1, r.2, Tr.theM (t_exec_does S a0 a1 a2 a3 a4 a5 a6 a7) S)
  | _, _, _ => none
noncomputable def E_exec_does : Env := FnQE.addM 94 s_exec_does
set_option maxHeartbeats 4000000 in
theorem E_exec_does_ok : EnvOk Tryz.prog E_exec_does := FnQE_ok.addM _ _ (fun xs => by kernel_rfl) (by
  intro avs H n av H' h hn
  unfold s_exec_does at h
  split at h
  · rename_i c0 c1 c2 c3 c4 c5 c6 c7 S hS hrw
    obtain ⟨a0, h0, h⟩ := bind_some h
    obtain ⟨a1, h1, h⟩ := bind_some h
    obtain ⟨a2, h2, h⟩ := bind_some h
    obtain ⟨a3, h3, h⟩ := bind_some h
    obtain ⟨a4, h4, h⟩ := bind_some h
    obtain ⟨a5, h5, h⟩ := bind_some h
    obtain ⟨a6, h6, h⟩ := bind_some h
    obtain ⟨a7, h7, h⟩ := bind_some h
    obtain ⟨⟨n0, av0⟩, hq, he⟩ := Option.map_eq_some_iff.1 h
    clear h
    cases he
    exact turn_ok (n := 120) (avs := [.d (.s c0), .d (.s c1), .d (.g [c2, c3, c4, c5, c6, c7])]) (args := [.d (.s (.x false (.pointer (some ⟨a0, 0, none⟩)))), .d (.s (.S a1)), .d (.g [.x false (.int .i64 a2), .x false (.int .i64 a3), .x false (.int .i64 a4), .x false (.int .i64 a5), .x false (.int .i64 a6), .x false (.int .i64 a7)])]) (t := (t_exec_does S a0 a1 a2 a3 a4 a5 a6 a7)) (sh := [.g [.S, .u, .u, .u, .u, .b, .b]]) FnQE_ok hmix Tryz.func94 (Sub.none H true _ (fun T h => hS.trans h)) rfl hrw hS (Shp.none _ _) (fun i j h => by cases h) ⟨(by show Dv.val _ = Dv.val _; simp only [Dv.val, flat, (cP_ok h0).2]), (by show Dv.val _ = Dv.val _; simp only [Dv.val, flat, (cS_ok h1).2]), (by show Dv.val _ = Dv.val _; simp only [Dv.val, flat, (cI_ok h2).1, (cI_ok h3).1, (cI_ok h4).1, (cI_ok h5).1, (cI_ok h6).1, (cI_ok h7).1]), trivial⟩ rfl (is_exec_does S a0 a1 a2 a3 a4 a5 a6 a7) (l' := []) trivial (m_exec_does S a0 a1 a2 a3 a4 a5 a6 a7) hq hn
  · cases h)
noncomputable def FnRE : Env := E_exec_does
theorem FnRE_ok : EnvOk Tryz.prog FnRE := E_exec_does_ok
end Go.Proofs.YtfehilinnalflaaGreat
