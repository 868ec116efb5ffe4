/- The statement WholeFencedSaid is proved: of every input the law returns true and leaves its arguments as they were; no condition. -/
import Derived.Test.YtfehilinnalflaaGreatRows
import Derived.WalkKit
import Derived.ProofKit
import Derived.OpenShut
import Derived.Test.YtfehilinnalflaaGreatF01
import Derived.Test.YtfehilinnalflaaGreatF02
import Derived.Test.YtfehilinnalflaaGreatF03
import Derived.Test.YtfehilinnalflaaGreatQ01
import Derived.Test.YtfehilinnalflaaGreatQ02
import Derived.Test.YtfehilinnalflaaGreatQ03
import Derived.Test.YtfehilinnalflaaGreatQ04
import Derived.Test.YtfehilinnalflaaGreatQ05
import Derived.Test.YtfehilinnalflaaGreatQ06
import Derived.Test.YtfehilinnalflaaGreatQ07
import Derived.Test.YtfehilinnalflaaGreatQ08
import Derived.Test.YtfehilinnalflaaGreatQ09
import Derived.Test.YtfehilinnalflaaGreatQ10
import Derived.Test.YtfehilinnalflaaGreatQ11
import Derived.Test.YtfehilinnalflaaGreatQ12
import Derived.Test.YtfehilinnalflaaGreatQ13
import Derived.Test.YtfehilinnalflaaGreatQ14
import Derived.Test.YtfehilinnalflaaGreatQ15
import Derived.Test.YtfehilinnalflaaGreatQ16
import Derived.Test.YtfehilinnalflaaGreatQ17
import Derived.Test.YtfehilinnalflaaGreatQ18
import Derived.Test.YtfehilinnalflaaGreatQ19
import Derived.Test.YtfehilinnalflaaGreatQ20
namespace Go.Proofs.YtfehilinnalflaaGreat.wholeFenced
open Go.ChangeShapes Go.WideShapes Go.ChangeAt Go.RowKit
open Go.ChangeMaps (open_string shut_string)
set_option linter.unusedVariables false
set_option maxRecDepth 100000
theorem own : ownKnob Tryz.prog.godebug = none := by kernel_rfl
set_option maxRecDepth 100000 in
theorem lifted (os : Os) (started : os.Started) (H : Type) (enc : TypeId × Value → H) :
    ReturnsInHanded {} Tryz.checked os 3 .any (Rows.wholeFencedSpec.pre6 enc Tryz.prog Tryz.f3 Rows.wholeFencedRow.domain false) (Rows.wholeFencedSpec.post enc Tryz.prog Tryz.f3 false true false false) := by
  refine returnsInHanded_of_change (C := Tryz.checked) own started (by kernel_rfl) Tryz.func3
    (ChangeSpec.witness6 (enc := enc) (C := Tryz.checked) false ⟨#[], #[.int .i16 0, .int .u8 0], []⟩ 8 (by kernel_rfl) (by kernel_rfl) (by kernel_rfl) (by kernel_rfl)) ?_
  intro W base args ds gs before hval0 hW hcnd _
  have hval : ∀ (j : Nat) t v, Tryz.f3.params[j]? = some t → args[j]? = some v → Value.okWide Tryz.prog W .any base t v := hval0
  have hW' := hW
  obtain ⟨p, q, hA0, hV, rfl, hfz, hnd⟩ := hW
  have hA : DataW.TrodAll enc Tryz.prog W 0 (fun _ => true) true Tryz.f3.params.toList args.toList ds p := hA0
  rw [Tryz.params3] at hA hval
  obtain ⟨v0, vs0, d0, ds0, p0, q0, hargs, rfl, rfl, h0, r0⟩ := trodAll_cons hA
  obtain ⟨v1, vs1, d1, ds1, p1, q1, rfl, rfl, rfl, h1, r1⟩ := trodAll_cons r0
  obtain ⟨rfl, rfl, rfl⟩ := trodAll_nil r1
  obtain rfl : args = #[v0, v1] := by cases args; simp_all
  obtain ⟨rfl, rfl⟩ := trodVars_none hV
  obtain ⟨a0, rfl, rfl, rfl, w0⟩ := open_int Tryz.underlying22 (hval 0 22 v0 rfl rfl) h0
  obtain ⟨a1, rfl, rfl, rfl, w1⟩ := open_int Tryz.underlying5 (hval 1 5 v1 rfl rfl) h1
  clear hA0 hval0
  simp only [List.append_nil] at hW'
  refine (walkWholeFenced a0 a1 w0 w1 W).mono fun e W' ⟨he, hg⟩ => ?_
  subst he
  exact ⟨_, rfl, post_of_below (pa := []) (pv := []) hW' (fun _ _ _ => (trodAll_cons_mk (shut_bool Tryz.underlying4 _) trodAll_mk0)) (fun sp _ => (trodAll_cons_mk (shut_int Tryz.underlying22 w0) (trodAll_cons_mk (shut_int Tryz.underlying5 w1) trodAll_mk0))) (fun _ _ => rfl) rfl
    hg (ok_one (by kernel_rfl) rfl (okWide_bool_mk Tryz.underlying4 _))⟩
theorem over : Rows.wholeFencedRow.holds Tryz.pinned (OpenSpec.ofChange Rows.wholeFencedSpec) :=
  OpenClaim.holds_of_wide 3 Tryz.f3 rfl rfl rfl rfl rfl rfl rfl ⟨rfl, rfl, rfl, rfl, rfl⟩ rfl rfl rfl rfl rfl (by kernel_rfl) Tryz.func3 (by kernel_rfl)
    (of_decide_eq_true (by kernel_rfl)) (by unfold Func.isWrapper; first | (rw [if_pos (by decide +kernel)]; kernel_rfl) | (rw [if_neg (by decide +kernel)]; exact ⟨rfl, rfl⟩))
    (fun os started H enc _ => lifted os started H enc)
/-- The statement. -/
theorem proved : Rows.WholeFencedSaid :=
  over
#print axioms proved
end Go.Proofs.YtfehilinnalflaaGreat.wholeFenced
