/- The statement WalkTellsSaid is proved: of every input the law returns true and leaves its arguments as they were; no condition. -/
import Derived.Test.YtkjbhjmjfacjcaaRows
import Derived.WalkKit
import Derived.ProofKit
import Derived.OpenShut
import Derived.Carry
import Derived.Test.YtkjbhjmjfacjcaaPost
import Derived.Test.YtkjbhjmjfacjcaaWalks11d
import Derived.Test.YtkjbhjmjfacjcaaOpens
namespace Go.Proofs.Ytkjbhjmjfacjcaa.walkTells
open Go.ChangeShapes Go.WideShapes Go.ChangeAt Go.RowKit
open Go.ChangeMaps (open_string shut_string)
set_option linter.unusedVariables false
set_option maxRecDepth 100000

theorem cBool : Try.prog.cellsOf 4 = 1 := by kernel_rfl
theorem cInt : Try.prog.cellsOf 3 = 1 := by kernel_rfl
theorem cU64 : Try.prog.cellsOf 23 = 1 := by kernel_rfl
theorem cStep : Try.prog.cellsOf 78 = 6 := by kernel_rfl
theorem steps_of {H : Type} {enc : TypeId × Value → H} {w : World} {base : Nat} {spare : Nat → Bool} {held : Bool} {a : Option Addr} {n c : Nat} {d : DataW H} {p : List MemPlace}
    (h : DataW.Trod enc Try.prog w base spare held 22 (.slice a n c) d p) : Steps11 w a n := by
  intro hn
  obtain ⟨b, o, ha, hb, hx⟩ := slice_structs Try.underlying22 Try.underlying78 (by rw [cStep]; omega) h hn
  rw [cStep] at hx
  have each : ∀ i, i < n → ∃ q : Bool × Int × Int × Int × BitVec 64 × BitVec 64, w.cell? ⟨b, o + i * 6, none⟩ = some (.bool q.1) ∧ w.cell? ⟨b, o + i * 6 + 1, none⟩ = some (.int .i64 q.2.1) ∧ w.cell? ⟨b, o + i * 6 + 2, none⟩ = some (.int .i64 q.2.2.1) ∧ w.cell? ⟨b, o + i * 6 + 3, none⟩ = some (.int .i64 q.2.2.2.1) ∧
      w.cell? ⟨b, o + i * 6 + 4, none⟩ = some (U q.2.2.2.2.1) ∧ w.cell? ⟨b, o + i * 6 + 5, none⟩ = some (U q.2.2.2.2.2) := by
    intro i hi
    obtain ⟨cs, hc, hf⟩ := hx i hi
    obtain ⟨x0, e0⟩ := field_bool (o := 0) Try.underlying4 cBool (hf 0 _ rfl)
    obtain ⟨x1, e1, _⟩ := field_int (o := 1) Try.underlying3 cInt (hf 1 _ rfl)
    obtain ⟨x2, e2, _⟩ := field_int (o := 2) Try.underlying3 cInt (hf 2 _ rfl)
    obtain ⟨x3, e3, _⟩ := field_int (o := 3) Try.underlying3 cInt (hf 3 _ rfl)
    obtain ⟨x4, e4, w4⟩ := field_int (o := 4) Try.underlying23 cU64 (hf 4 _ rfl)
    obtain ⟨x5, e5, w5⟩ := field_int (o := 5) Try.underlying23 cU64 (hf 5 _ rfl)
    obtain ⟨y4, rfl⟩ := u64_open w4
    obtain ⟨y5, rfl⟩ := u64_open w5
    exact ⟨(x0, x1, x2, x3, y4, y5), hc 0 _ e0, hc 1 _ e1, hc 2 _ e2, hc 3 _ e3, hc 4 _ e4, hc 5 _ e5⟩
  obtain ⟨q, hq⟩ := Go.Deep.choose_lt each
  exact ⟨b, o, fun i => (q i).1, fun i => (q i).2.1, fun i => (q i).2.2.1, fun i => (q i).2.2.2.1, fun i => (q i).2.2.2.2.1, fun i => (q i).2.2.2.2.2, ha, hb, hq⟩

theorem own : ownKnob Try.prog.godebug = none := by kernel_rfl
theorem laidOut : laidOutB Try.prog = true := by kernel_rfl
set_option maxRecDepth 100000 in
theorem lifted (os : Os) (started : os.Started) (H : Type) (enc : TypeId × Value → H) :
    ReturnsInHanded {} Try.checked os 3 .any (Rows.walkTellsSpec.pre6 enc Try.prog Try.f3 Rows.walkTellsRow.domain false) (Rows.walkTellsSpec.post enc Try.prog Try.f3 false true false false) := by
  refine returnsInHanded_of_change (C := Try.checked) own started (by kernel_rfl) Try.func3
    (ChangeSpec.witness6 (enc := enc) (C := Try.checked) false ⟨#[], #[.slice none 0 0, .int .i64 0, .int .u64 0, .int .i64 0, .int .i64 0], []⟩ 8 (by kernel_rfl) (by kernel_rfl) (by kernel_rfl) (by kernel_rfl)) ?_
  intro W base args ds gs before hval0 hW hcnd _
  have hval : ∀ (j : Nat) t v, Try.f3.params[j]? = some t → args[j]? = some v → Value.okWide Try.prog W .any base t v := hval0
  have hW' := hW
  obtain ⟨p, q, hA0, hV, rfl, hfz, hnd⟩ := hW
  have hA : DataW.TrodAll enc Try.prog W 0 (fun _ => true) true Try.f3.params.toList args.toList ds p := hA0
  rw [Try.params3] at hA hval
  obtain ⟨v0, vs0, d0, ds0, p0, q0, hargs, rfl, rfl, h0, r0⟩ := trodAll_cons hA
  obtain ⟨v1, vs1, d1, ds1, p1, q1, rfl, rfl, rfl, h1, r1⟩ := trodAll_cons r0
  obtain ⟨v2, vs2, d2, ds2, p2, q2, rfl, rfl, rfl, h2, r2⟩ := trodAll_cons r1
  obtain ⟨v3, vs3, d3, ds3, p3, q3, rfl, rfl, rfl, h3, r3⟩ := trodAll_cons r2
  obtain ⟨v4, vs4, d4, ds4, p4, q4, rfl, rfl, rfl, h4, r4⟩ := trodAll_cons r3
  obtain ⟨rfl, rfl, rfl⟩ := trodAll_nil r4
  obtain rfl : args = #[v0, v1, v2, v3, v4] := by cases args; simp_all
  obtain ⟨rfl, rfl⟩ := trodVars_none hV
  obtain ⟨a0, n0, c0, rfl⟩ := okWide_slice Try.underlying22 (hval 0 22 v0 rfl rfl)
  obtain ⟨a1, rfl, rfl, rfl, w1⟩ := open_int Try.underlying3 (hval 1 3 v1 rfl rfl) h1
  obtain ⟨a2, rfl, rfl, rfl, w2⟩ := open_int Try.underlying23 (hval 2 23 v2 rfl rfl) h2
  obtain ⟨a3, rfl, rfl, rfl, w3⟩ := open_int Try.underlying3 (hval 3 3 v3 rfl rfl) h3
  obtain ⟨a4, rfl, rfl, rfl, w4⟩ := open_int Try.underlying3 (hval 4 3 v4 rfl rfl) h4
  clear hA0 hval0
  simp only [List.append_nil] at hW' ⊢
  have hlt : ∀ x ∈ p0, x.block < W.heap.size := fun x hx => by simpa using hW'.lt x hx
  refine (walkWalkTells a0 n0 c0 a1 a2 a3 a4 w1 w2 W (steps_of h0)).mono fun e W' ⟨he, hg⟩ => ?_
  subst he
  refine ⟨_, rfl, post_of_below (pa := p0) (pv := []) hW' (fun _ _ _ => (trodAll_cons_mk (shut_bool Try.underlying4 _) trodAll_mk0)) (fun sp hsp => ?_) (fun _ _ => rfl) (by simp)
    hg (ok_one (by kernel_rfl) rfl (okWide_bool_mk Try.underlying4 _))⟩
  have carry : DataW.Trod enc Try.prog W' 0 sp true 22 _ d0 p0 :=
    WideElems.Trod_stays laidOut (by kernel_rfl) (of_decide_eq_true (by kernel_rfl)) h0 (fun x hx => hg.same (hlt x hx)) (fun x hx => hsp x hx)
  have := trodAll_cons_mk carry (trodAll_cons_mk (shut_int Try.underlying3 w1) (trodAll_cons_mk (shut_int Try.underlying23 w2) (trodAll_cons_mk (shut_int Try.underlying3 w3) (trodAll_cons_mk (shut_int Try.underlying3 w4) trodAll_mk0))))
  simp only [List.append_nil] at this
  exact this
theorem over : Rows.walkTellsRow.holds Try.pinned (OpenSpec.ofChange Rows.walkTellsSpec) :=
  OpenClaim.holds_of_wide 3 Try.f3 rfl rfl rfl rfl rfl rfl rfl ⟨rfl, rfl, rfl, rfl, rfl⟩ rfl rfl rfl rfl rfl (by kernel_rfl) Try.func3 (by kernel_rfl)
    (of_decide_eq_true (by kernel_rfl)) (by unfold Func.isWrapper; first | (rw [if_pos (by decide +kernel)]; kernel_rfl) | (rw [if_neg (by decide +kernel)]; exact ⟨rfl, rfl⟩))
    (fun os started H enc _ => lifted os started H enc)
/-- The statement. -/
theorem proved : Rows.WalkTellsSaid :=
  over
#print axioms proved
end Go.Proofs.Ytkjbhjmjfacjcaa.walkTells
