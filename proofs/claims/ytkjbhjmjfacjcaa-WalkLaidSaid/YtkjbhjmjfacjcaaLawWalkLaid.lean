/- The statement WalkLaidSaid is proved: of every input the law returns true and leaves its arguments as they were; no condition. -/
import Derived.Test.YtkjbhjmjfacjcaaRows
import Derived.WalkKit
import Derived.ProofKit
import Derived.OpenShut
import Derived.Carry
import Derived.Test.YtkjbhjmjfacjcaaPost
import Derived.Test.YtkjbhjmjfacjcaaWalks11c
namespace Go.Proofs.Ytkjbhjmjfacjcaa.walkLaid
open Go.ChangeShapes Go.WideShapes Go.ChangeAt Go.RowKit
open Go.ChangeMaps (open_string shut_string)
set_option linter.unusedVariables false
set_option maxRecDepth 100000

/-- What a slice of bytes holds. -/
def Bytes8 (w : World) (a : Option Addr) (n : Nat) : Prop := 0 < n → ∃ (b o : Nat) (P : Nat → Nat), a = some ⟨b, o, none⟩ ∧ b < w.heap.size ∧ (∀ j, j < n → P j < 256) ∧ ∀ j, j < n → w.cell? ⟨b, o + j, none⟩ = some (.int .u8 (P j : Int))
theorem bytes8_of {H : Type} {enc : TypeId × Value → H} {P : Program} {w : World} {base : Nat} {spare : Nat → Bool} {held : Bool} {t e : TypeId} {a : Option Addr} {n c : Nat} {d : DataW H} {p : List MemPlace} (ht : P.underlying t = some (.slice e)) (he : P.underlying e = some (.int .u8)) (hc : P.cellsOf e = 1)
    (h : DataW.Trod enc P w base spare held t (.slice a n c) d p) : Bytes8 w a n := by
  intro hn
  obtain ⟨fuel, hf⟩ := h
  rcases open_ints ht he hc hf with ⟨hcs, _⟩ | ⟨a', len, cap, zs, hcs, _, hl, hm, hz, _, hcell, hwz⟩
  · simp [Value.cells] at hcs
    omega
  · simp [Value.cells] at hcs
    obtain ⟨rfl, rfl, rfl⟩ := hcs
    have hnz : n ≤ zs.length := by rw [hz]; split <;> omega
    obtain ⟨b, o, rfl, hb⟩ := ints_at hcell (by omega)
    have rg := range_u8 hwz
    refine ⟨b, o, fun j => (zs.getD j 0).toNat, rfl, World.block_lt_of_cell? _ _ (hb 0 (by omega)), fun j hj => ?_, fun j hj => ?_⟩
    · have := rg j
      simp only [List.getD]
      omega
    · rw [hb j (by omega)]
      have := rg j
      simp only [List.getD]
      rw [Int.toNat_of_nonneg (by omega)]
theorem walkWalkLaid (a0 a1 : Option Addr) (n0 c0 n1 c1 : Nat) (w : World) (h0 : Bytes8 w a0 n0) (h1 : Bytes8 w a1 n1) :
    Calls Try.prog 4 #[.slice a0 n0 c0, .slice a1 n1 c1] w fun e w' => e = .returned (.bool true) ∧ Below w.heap.size w w' := by
  by_cases g : 20 < n0 ∨ n0 ≤ 20 ∧ n1 < n0
  · exact laid_short .nilIface .nilIface _ _ _ _ _ _ w g
  by_cases z : n0 = 0
  · subst z
    exact laid0 a0 a1 n1 c0 c1 w
  obtain ⟨b0, o0, P, rfl, hb0, hP, q0⟩ := h0 (by omega)
  obtain ⟨b1, o1, F, rfl, hb1, hF, q1⟩ := h1 (by omega)
  exact laid1 b0 o0 b1 o1 n0 n1 c0 c1 P F w (by omega) (by omega) hP (fun j hj => hF j (by omega)) hb0 hb1 q0 (fun j hj => q1 j (by omega))

theorem own : ownKnob Try.prog.godebug = none := by kernel_rfl
theorem laidOut : laidOutB Try.prog = true := by kernel_rfl
theorem cells8 : Try.prog.cellsOf 5 = 1 := by kernel_rfl
set_option maxRecDepth 100000 in
theorem lifted (os : Os) (started : os.Started) (H : Type) (enc : TypeId × Value → H) :
    ReturnsInHanded {} Try.checked os 4 .any (Rows.walkLaidSpec.pre6 enc Try.prog Try.f4 Rows.walkLaidRow.domain false) (Rows.walkLaidSpec.post enc Try.prog Try.f4 false true false false) := by
  refine returnsInHanded_of_change (C := Try.checked) own started (by kernel_rfl) Try.func4
    (ChangeSpec.witness6 (enc := enc) (C := Try.checked) false ⟨#[], #[.slice none 0 0, .slice none 0 0], []⟩ 8 (by kernel_rfl) (by kernel_rfl) (by kernel_rfl) (by kernel_rfl)) ?_
  intro W base args ds gs before hval0 hW hcnd _
  have hval : ∀ (j : Nat) t v, Try.f4.params[j]? = some t → args[j]? = some v → Value.okWide Try.prog W .any base t v := hval0
  have hW' := hW
  obtain ⟨p, q, hA0, hV, rfl, hfz, hnd⟩ := hW
  have hA : DataW.TrodAll enc Try.prog W 0 (fun _ => true) true Try.f4.params.toList args.toList ds p := hA0
  rw [Try.params4] at hA hval
  obtain ⟨v0, vs0, d0, ds0, p0, q0, hargs, rfl, rfl, h0, r0⟩ := trodAll_cons hA
  obtain ⟨v1, vs1, d1, ds1, p1, q1, rfl, rfl, rfl, h1, r1⟩ := trodAll_cons r0
  obtain ⟨rfl, rfl, rfl⟩ := trodAll_nil r1
  obtain rfl : args = #[v0, v1] := by cases args; simp_all
  obtain ⟨rfl, rfl⟩ := trodVars_none hV
  obtain ⟨a0, n0, c0, rfl⟩ := okWide_slice Try.underlying40 (hval 0 40 v0 rfl rfl)
  obtain ⟨a1, n1, c1, rfl⟩ := okWide_slice Try.underlying40 (hval 1 40 v1 rfl rfl)
  clear hA0 hval0
  simp only [List.append_nil] at hW' ⊢
  have hlt : ∀ x ∈ p0 ++ p1, x.block < W.heap.size := fun x hx => by simpa using hW'.lt x hx
  refine (walkWalkLaid a0 a1 n0 c0 n1 c1 W (bytes8_of Try.underlying40 Try.underlying5 cells8 h0) (bytes8_of Try.underlying40 Try.underlying5 cells8 h1)).mono fun e W' ⟨he, hg⟩ => ?_
  subst he
  refine ⟨_, rfl, post_of_below (pa := p0 ++ p1) (pv := []) hW' (fun _ _ _ => (trodAll_cons_mk (shut_bool Try.underlying4 _) trodAll_mk0)) (fun sp hsp => ?_) (fun _ _ => rfl) (by simp)
    hg (ok_one (by kernel_rfl) rfl (okWide_bool_mk Try.underlying4 _))⟩
  have carry : ∀ {v d ps}, DataW.Trod enc Try.prog W 0 (fun _ => true) true 40 v d ps → (∀ x ∈ ps, x ∈ p0 ++ p1) → DataW.Trod enc Try.prog W' 0 sp true 40 v d ps := fun h hm =>
    WideElems.Trod_stays laidOut (by kernel_rfl) (of_decide_eq_true (by kernel_rfl)) h (fun x hx => hg.same (hlt x (hm x hx))) (fun x hx => hsp x (by simpa using hm x hx))
  have := trodAll_cons_mk (carry h0 (fun x hx => List.mem_append_left _ hx)) (trodAll_cons_mk (carry h1 (fun x hx => List.mem_append_right _ hx)) trodAll_mk0)
  simp only [List.append_nil] at this
  exact this
theorem over : Rows.walkLaidRow.holds Try.pinned (OpenSpec.ofChange Rows.walkLaidSpec) :=
  OpenClaim.holds_of_wide 4 Try.f4 rfl rfl rfl rfl rfl rfl rfl ⟨rfl, rfl, rfl, rfl, rfl⟩ rfl rfl rfl rfl rfl (by kernel_rfl) Try.func4 (by kernel_rfl)
    (of_decide_eq_true (by kernel_rfl)) (by unfold Func.isWrapper; first | (rw [if_pos (by decide +kernel)]; kernel_rfl) | (rw [if_neg (by decide +kernel)]; exact ⟨rfl, rfl⟩))
    (fun os started H enc _ => lifted os started H enc)
/-- The statement. -/
theorem proved : Rows.WalkLaidSaid :=
  over
#print axioms proved
end Go.Proofs.Ytkjbhjmjfacjcaa.walkLaid
