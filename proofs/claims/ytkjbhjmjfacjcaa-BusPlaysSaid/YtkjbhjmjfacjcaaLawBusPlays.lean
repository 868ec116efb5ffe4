/- The statement BusPlaysSaid is proved: of every input the law returns true and leaves its arguments as they were; no condition. -/
import Derived.Test.YtkjbhjmjfacjcaaRows
import Derived.WalkKit
import Derived.ProofKit
import Derived.OpenShut
import Derived.Carry
import Derived.Test.YtkjbhjmjfacjcaaPost
import Derived.Test.YtkjbhjmjfacjcaaBusP
import Derived.Test.YtkjbhjmjfacjcaaOpens
namespace Go.Proofs.Ytkjbhjmjfacjcaa.busPlays
open Go.ChangeShapes Go.WideShapes Go.ChangeAt Go.RowKit
open Go.ChangeMaps (open_string shut_string)
set_option linter.unusedVariables false
set_option maxRecDepth 100000

theorem cStr : Try.prog.cellsOf 9 = 1 := by kernel_rfl
theorem cInt : Try.prog.cellsOf 3 = 1 := by kernel_rfl
theorem cU64 : Try.prog.cellsOf 23 = 1 := by kernel_rfl
theorem cStep : Try.prog.cellsOf 71 = 5 := by kernel_rfl
theorem steps_of {H : Type} {enc : TypeId × Value → H} {w : World} {base : Nat} {spare : Nat → Bool} {held : Bool} {a : Option Addr} {n c : Nat} {d : DataW H} {p : List MemPlace}
    (h : DataW.Trod enc Try.prog w base spare held 66 (.slice a n c) d p) : Steps7 w a n := by
  intro hn
  obtain ⟨b, o, ha, hb, hx⟩ := slice_structs Try.underlying66 Try.underlying71 (by rw [cStep]; omega) h hn
  rw [cStep] at hx
  have each : ∀ i, i < n → ∃ q : Int × Int × BitVec 64 × BitVec 64 × ByteArray, w.cell? ⟨b, o + i * 5, none⟩ = some (.int .i64 q.1) ∧ w.cell? ⟨b, o + i * 5 + 1, none⟩ = some (.int .i64 q.2.1) ∧ w.cell? ⟨b, o + i * 5 + 2, none⟩ = some (U q.2.2.1) ∧ w.cell? ⟨b, o + i * 5 + 3, none⟩ = some (U q.2.2.2.1) ∧
      w.cell? ⟨b, o + i * 5 + 4, none⟩ = some (.string q.2.2.2.2) ∧ q.2.2.2.2.size ≤ maxLen ∧ q.2.1 < 9223372036854775808 := by
    intro i hi
    obtain ⟨cs, hc, hf⟩ := hx i hi
    obtain ⟨x0, e0, _⟩ := field_int (o := 0) Try.underlying3 cInt (hf 0 _ rfl)
    obtain ⟨x1, e1, w1⟩ := field_int (o := 1) Try.underlying3 cInt (hf 1 _ rfl)
    obtain ⟨x2, e2, w2⟩ := field_int (o := 2) Try.underlying23 cU64 (hf 2 _ rfl)
    obtain ⟨x3, e3, w3⟩ := field_int (o := 3) Try.underlying23 cU64 (hf 3 _ rfl)
    obtain ⟨x4, e4, w4⟩ := field_string (o := 4) Try.underlying9 cStr (hf 4 _ rfl)
    obtain ⟨y2, rfl⟩ := u64_open w2
    obtain ⟨y3, rfl⟩ := u64_open w3
    exact ⟨(x0, x1, y2, y3, x4), hc 0 _ e0, hc 1 _ e1, hc 2 _ e2, hc 3 _ e3, hc 4 _ e4, w4, by simp [Lit.wf, IntKind.min, IntKind.max, IntKind.signed, IntKind.bits] at w1; show x1 < 9223372036854775808; omega⟩
  obtain ⟨q, hq⟩ := Go.Deep.choose_lt each
  exact ⟨b, o, fun i => (q i).1, fun i => (q i).2.1, fun i => (q i).2.2.1, fun i => (q i).2.2.2.1, fun i => (q i).2.2.2.2, ha, hb, hq⟩

theorem own : ownKnob Try.prog.godebug = none := by kernel_rfl
theorem laidOut : laidOutB Try.prog = true := by kernel_rfl
set_option maxRecDepth 100000 in
theorem lifted (os : Os) (started : os.Started) (H : Type) (enc : TypeId × Value → H) :
    ReturnsInHanded {} Try.checked os 12 .any (Rows.busPlaysSpec.pre6 enc Try.prog Try.f12 Rows.busPlaysRow.domain false) (Rows.busPlaysSpec.post enc Try.prog Try.f12 false true false false) := by
  refine returnsInHanded_of_change (C := Try.checked) own started (by kernel_rfl) Try.func12
    (ChangeSpec.witness6 (enc := enc) (C := Try.checked) false ⟨#[], #[.slice none 0 0], []⟩ 8 (by kernel_rfl) (by kernel_rfl) (by kernel_rfl) (by kernel_rfl)) ?_
  intro W base args ds gs before hval0 hW hcnd _
  have hval : ∀ (j : Nat) t v, Try.f12.params[j]? = some t → args[j]? = some v → Value.okWide Try.prog W .any base t v := hval0
  have hW' := hW
  obtain ⟨p, q, hA0, hV, rfl, hfz, hnd⟩ := hW
  have hA : DataW.TrodAll enc Try.prog W 0 (fun _ => true) true Try.f12.params.toList args.toList ds p := hA0
  rw [Try.params12] at hA hval
  obtain ⟨v0, vs0, d0, ds0, p0, q0, hargs, rfl, rfl, h0, r0⟩ := trodAll_cons hA
  obtain ⟨rfl, rfl, rfl⟩ := trodAll_nil r0
  obtain rfl : args = #[v0] := by cases args; simp_all
  obtain ⟨rfl, rfl⟩ := trodVars_none hV
  obtain ⟨a0, n0, c0, rfl⟩ := okWide_slice Try.underlying66 (hval 0 66 v0 rfl rfl)
  clear hA0 hval0
  simp only [List.append_nil] at hW' ⊢
  have hlt : ∀ x ∈ p0, x.block < W.heap.size := fun x hx => by simpa using hW'.lt x hx
  refine (walkBusPlays a0 n0 c0 W (steps_of h0)).mono fun e W' ⟨he, hg⟩ => ?_
  subst he
  refine ⟨_, rfl, post_of_below (pa := p0) (pv := []) hW' (fun _ _ _ => (trodAll_cons_mk (shut_bool Try.underlying4 _) trodAll_mk0)) (fun sp hsp => ?_) (fun _ _ => rfl) (by simp)
    hg (ok_one (by kernel_rfl) rfl (okWide_bool_mk Try.underlying4 _))⟩
  have carry : DataW.Trod enc Try.prog W' 0 sp true 66 _ d0 p0 :=
    WideElems.Trod_stays laidOut (by kernel_rfl) (of_decide_eq_true (by kernel_rfl)) h0 (fun x hx => hg.same (hlt x hx)) (fun x hx => hsp x hx)
  have := trodAll_cons_mk carry trodAll_mk0
  simp only [List.append_nil] at this
  exact this
theorem over : Rows.busPlaysRow.holds Try.pinned (OpenSpec.ofChange Rows.busPlaysSpec) :=
  OpenClaim.holds_of_wide 12 Try.f12 rfl rfl rfl rfl rfl rfl rfl ⟨rfl, rfl, rfl, rfl, rfl⟩ rfl rfl rfl rfl rfl (by kernel_rfl) Try.func12 (by kernel_rfl)
    (of_decide_eq_true (by kernel_rfl)) (by unfold Func.isWrapper; first | (rw [if_pos (by decide +kernel)]; kernel_rfl) | (rw [if_neg (by decide +kernel)]; exact ⟨rfl, rfl⟩))
    (fun os started H enc _ => lifted os started H enc)
/-- The statement. -/
theorem proved : Rows.BusPlaysSaid :=
  over
#print axioms proved
end Go.Proofs.Ytkjbhjmjfacjcaa.busPlays
