/- The document's Type; no condition but the state. -/
import Derived.Test.YtkjbhjmjfacjcaaRefBusC
namespace Go.Proofs.Ytkjbhjmjfacjcaa
open Go.RowKit Go.BigFrame
set_option linter.unusedSimpArgs false
set_option linter.unusedVariables false
set_option maxRecDepth 100000

theorem rtype_no {q h : Nat} {R : RbV} (b : Nat) (p : Int) (s : ByteArray) (w : World) (H : IsRb w b q h R) (hp : p < 0 ∨ 4 ≤ p) :
    Calls Try.prog 40 #[.pointer (some ⟨b, 0, none⟩), .int .i64 p, .string s] w fun e w' => e = .returned (.tuple #[]) ∧ w = w' := by
  rcases hp with hp | hp
  · have d1 : decide (p < 0) = true := decide_eq_true hp
    clear H hp
    go_enter Try.func40, Try.ntmps40
    go_wp2

    refine bodyPost_ret (results_none rfl _ _ _) rfl ?_
    exact ⟨rfl, rfl⟩
  · have d1 : decide (p < 0) = false := decide_eq_false (by omega)
    have d2 : decide (4 ≤ p) = true := decide_eq_true hp
    clear H hp
    go_enter Try.func40, Try.ntmps40
    go_wp2

    refine bodyPost_ret (results_none rfl _ _ _) rfl ?_
    exact ⟨rfl, rfl⟩

/-- What is typed of a string when so much was typed before. -/
def typD (n : Int) (s : ByteArray) : Nat := min s.size (64 - n.toNat)
set_option maxHeartbeats 2000000 in
theorem rtype {q h : Nat} {R : RbV} (b k : Nat) (s : ByteArray) (w : World) (H : IsRb w b q h R) (hk : k < 4) (hn : 0 ≤ R.ns k ∧ R.ns k ≤ 64) (hl : (R.ins k).size ≤ 64) (hs : s.size ≤ 1000) :
    Calls Try.prog 40 #[.pointer (some ⟨b, 0, none⟩), .int .i64 (k : Int), .string s] w fun e w' => e = .returned (.tuple #[]) ∧ Upd w w' b ∧
      IsRb w' b q h { R with ins := updN R.ins k (R.ins k ++ s.extract 0 (typD (R.ns k) s)), ns := updN R.ns k (R.ns k + (typD (R.ns k) s : Nat)) } := by
  have ci := H.cin k hk
  have cn := H.cns k hk
  have fz := H.free
  have HH := Lib.hid H
  obtain ⟨n, hn'⟩ : ∃ n, n = R.ns k := ⟨_, rfl⟩
  obtain ⟨o, ho⟩ : ∃ o, o = R.ins k := ⟨_, rfl⟩
  rw [← hn'] at hn cn ⊢
  rw [← ho] at ci hl ⊢
  obtain ⟨d, hd⟩ : ∃ d, d = typD n s := ⟨_, rfl⟩
  rw [← hd]
  have hd1 : d ≤ s.size := by unfold typD at hd; omega
  have hd2 : (d : Int) + n ≤ 64 := by unfold typD at hd; omega
  have hd3 : (d : Int) = min (s.size : Int) (64 - n) := by unfold typD at hd; omega
  obtain ⟨s', hs'⟩ : ∃ s', s' = s.extract 0 d := ⟨_, rfl⟩
  rw [← hs']
  have mn := fun W => min_run (P := Try.prog) #[3, 3] 3 .i64 (s.size : Int) (64 - n) (d : Int) (by split <;> omega) W
  have hss : ∀ W, (Instr.slice 9 (.string s) none (some (.int .i64 (d : Int))) none).run Try.prog W = .ok (.string s') W := fun W => by
    rw [hs']; exact run_slice_string_h (P := Try.prog) W 9 s Try.underlying9 .i64 (d : Int) (by omega) (by omega)
  have w1 : IntKind.i64.wrap (64 - n) = 64 - n := IntWalk.i64_in _ ⟨by omega, by omega⟩
  have w2 : IntKind.i64.wrap (n + (d : Int)) = n + (d : Int) := IntWalk.i64_in _ ⟨by omega, by omega⟩
  have d1 : decide ((k : Int) < 0) = false := decide_eq_false (by omega)
  have d2 : decide (4 ≤ (k : Int)) = false := decide_eq_false (by omega)
  have FIN := Lib.hid (show Upd w ((w.setCell ⟨b, 3 + k, none⟩ (.string (o ++ s'))).drew.setCell ⟨b, 7 + k, none⟩ (.int .i64 (n + (d : Int)))) b ∧ IsRb ((w.setCell ⟨b, 3 + k, none⟩ (.string (o ++ s'))).drew.setCell ⟨b, 7 + k, none⟩ (.int .i64 (n + (d : Int)))) b q h { R with ins := updN R.ins k (o ++ s'), ns := updN R.ns k (n + (d : Int)) } from by
    have I1 := H.set (R' := { R with ins := updN R.ins k (o ++ s') }) (3 + k) (.string (o ++ s')) (by omega) rfl (rb_in q R k hk _)
    have U1 : Below (w.setCell ⟨b, 3 + k, none⟩ (.string (o ++ s'))).heap.size (w.setCell ⟨b, 3 + k, none⟩ (.string (o ++ s'))) (w.setCell ⟨b, 3 + k, none⟩ (.string (o ++ s'))).drew := (Below.refl _ _).drew
    have I2 := (I1.below U1).set (R' := { R with ins := updN R.ins k (o ++ s'), ns := updN R.ns k (n + (d : Int)) }) (7 + k) (.int .i64 (n + (d : Int))) (by omega) rfl (rb_ns q _ k hk _)
    exact ⟨((set_upd w b _ _).trans (Upd.of_below U1 b)).trans (set_upd _ b _ _), I2⟩)
  have cn2 : (w.setCell ⟨b, 3 + k, none⟩ (.string (o ++ s'))).cell? ⟨b, 7 + k, none⟩ = some (.int .i64 n) := by
    have I1 := H.set (R' := { R with ins := updN R.ins k (o ++ s') }) (3 + k) (.string (o ++ s')) (by omega) rfl (rb_in q R k hk _)
    have := I1.cns k hk
    rw [hn']; exact this
  have fz2 : (w.setCell ⟨b, 3 + k, none⟩ (.string (o ++ s'))).frozen? ⟨b, 7 + k, none⟩ = false := by
    have I1 := H.set (R' := { R with ins := updN R.ins k (o ++ s') }) (3 + k) (.string (o ++ s')) (by omega) rfl (rb_in q R k hk _)
    exact I1.free _
  have hk4 : (k : Int) < 4 := by omega
  have dw : IntKind.i64.wrap (d : Int) = (d : Int) := IntWalk.i64_in _ ⟨by omega, by omega⟩
  clear H hd hn' ho HH
  go_enter Try.func40, Try.ntmps40
  go_wp2_with fail
  all_goals go_region
  simp only [← hd3, Int.toNat_natCast, ← hs']
  generalize ho2 : o ++ s' = o2 at *
  have ho3 := Lib.hid ho2
  clear ho2
  clear hd3 hs' w1
  go_wp2_with fail
  go_region
  go_end0
  refine ⟨rfl, ?_⟩
  rw [ho3.out]
  have U1 : Below ((w.setCell ⟨b, 3 + k, none⟩ (.string o2)).drew.setCell ⟨b, 7 + k, none⟩ (.int .i64 (n + (d : Int)))).heap.size ((w.setCell ⟨b, 3 + k, none⟩ (.string o2)).drew.setCell ⟨b, 7 + k, none⟩ (.int .i64 (n + (d : Int)))) ((w.setCell ⟨b, 3 + k, none⟩ (.string o2)).drew.setCell ⟨b, 7 + k, none⟩ (.int .i64 (n + (d : Int)))).drew := (Below.refl _ _).drew
  exact ⟨FIN.out.1.trans (Upd.of_below U1 b), FIN.out.2.below U1⟩
end Go.Proofs.Ytkjbhjmjfacjcaa
