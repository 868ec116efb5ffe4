/- The bus's consoles: Type, whatever was typed before; no condition but the state. -/
import Derived.Test.YtkjbhjmjfacjcaaBusH
import Derived.Test.YtkjbhjmjfacjcaaRefBusD
import Derived.Deep.RegionLaw
namespace Go.Proofs.Ytkjbhjmjfacjcaa
open Go.RowKit Go.BigFrame
set_option linter.unusedSimpArgs false
set_option linter.unusedVariables false
set_option maxRecDepth 100000

def typS (S : BusV) (k : Nat) (s : ByteArray) : BusV :=
  { S with ls := updN S.ls (2 * k) (S.ls (2 * k) ++ (s.extract 0 (typD (S.ns k) s)).data.toList), nil := updN S.nil (2 * k) false, ns := updN S.ns k (S.ns k + (typD (S.ns k) s : Nat)) }
/-- The row cloned and appended to, and how much was typed. -/
theorem type_fin {w : World} {b B p g k : Nat} {ks : Nat → Option Nat} {vs : Nat → Value} {S : BusV} {s' : ByteArray} {d : Nat} {av : Option Addr} {lv cv : Nat} (h : IsBus w B b p g ks vs S) (hk : k < 4) (hB : B ≤ w.heap.size) (hl : (S.ls (2 * k)).length ≤ 64) (hs : s'.size ≤ 1000)
    (hv : vs (2 * k) = .slice av lv cv) :
    ∀ W w4, Below w.heap.size w W → ∀ a n c k4, RowAt w4 W.heap.size k4 (.slice a n c) (S.ls (2 * k)) → Below W.heap.size W w4 →
      ∃ v1 w1, (Builtin.append_ #[40, 9] 40 #[.slice a n c, .string s']).run Try.prog w4 = .ok v1 w1 ∧ (∃ a1 n1 c1, v1 = .slice a1 n1 c1) ∧
      w1.cell? ⟨b, 3 + 3 * k, none⟩ = some (.slice av lv cv) ∧ w1.frozen? ⟨b, 3 + 3 * k, none⟩ = false ∧
      (w1.setCell ⟨b, 3 + 3 * k, none⟩ v1).cell? ⟨b, 3 + 3 * k + 2, none⟩ = some (.int .i64 (S.ns k)) ∧ (w1.setCell ⟨b, 3 + 3 * k, none⟩ v1).frozen? ⟨b, 3 + 3 * k + 2, none⟩ = false ∧
      Turned w ((w1.setCell ⟨b, 3 + 3 * k, none⟩ v1).setCell ⟨b, 3 + 3 * k + 2, none⟩ (.int .i64 (S.ns k + (d : Int)))) B b p g ks { S with ls := updN S.ls (2 * k) (S.ls (2 * k) ++ s'.data.toList), nil := updN S.nil (2 * k) false, ns := updN S.ns k (S.ns k + (d : Int)) } := by
  intro W w4 hW a n c k4 hr hb4
  have co : cellOf (2 * k) = 3 + 3 * k := by unfold cellOf; omega
  have hbl := blk_lt h.blk
  have z4 := hb4.size
  have zW := hW.size
  obtain ⟨v1, k1, w1, hap, hr1, hu1, hk1⟩ := append_row (hr.weak (B' := B) (by omega)) (by omega) 9 (.string s') s'.data.toList
    (Src.ofString (P := Try.prog) w4 Try.underlying9 s') (by show (S.ls (2 * k)).length + s'.size ≤ _; omega)
  have z1 := hu1.size
  have hk4 : ∀ q, k4 = some q → W.heap.size ≤ q := fun q hq => by rcases hr.new_key with e | ⟨q', e, hq'⟩ <;> rw [e] at hq <;> cases hq; exact hq'
  have same : ∀ j, j < w.heap.size → w1.heap[j]? = w.heap[j]? := fun j hj => by
    rw [hu1.block j (by omega) (fun e => by have := hk4 j e; omega), hb4.block j (by omega), hW.block j hj]
  have U : UpdK w w1 (ks (2 * k)) := ⟨hu1.os.trans (hb4.os.trans hW.os), hu1.tape.trans (hb4.tape.trans hW.tape), hu1.output.trans (hb4.output.trans hW.output), by omega, fun j hj _ => same j hj⟩
  have cw1 : w1.cell? ⟨b, 3 + 3 * k, none⟩ = some (.slice av lv cv) := (World.cell?_of_block (a := ⟨b, 3 + 3 * k, none⟩) (same b hbl)).trans (by rw [← hv, ← co]; exact h.crow (2 * k) (by omega))
  have fw1 : w1.frozen? ⟨b, 3 + 3 * k, none⟩ = false := (World.frozen?_of_block (a := ⟨b, 3 + 3 * k, none⟩) (same b hbl)).trans (h.free _)
  have hnk : k1 = none ∨ ∃ q, k1 = some q ∧ w.heap.size ≤ q := by
    rcases hk1 with e | e
    · rcases hr.new_key with e2 | ⟨q, e2, hq⟩
      · exact .inl (e.trans e2)
      · exact .inr ⟨q, e.trans e2, by omega⟩
    · exact .inr ⟨_, e, by omega⟩
  have T1 := h.turn_row (2 * k) (by omega) k1 v1 _ U hr1 (.inr hnk)
  rw [co] at T1
  have ct1 := T1.ctyped k hk
  have ft1 := T1.free (3 + 3 * k + 2)
  have T2 := T1.turn (set_upd _ b (3 + 3 * k + 2) (.int .i64 (S.ns k + (d : Int)))) S.t S.al (updN S.ns k (S.ns k + (d : Int))) (by
    have := set_block (v := .int .i64 (S.ns k + (d : Int))) T1.blk (show 3 + 3 * k + 2 < 15 by omega)
    rw [bus_typed _ _ _ _ _ k hk] at this
    exact this)
  have z5 : (w1.setCell ⟨b, 3 + 3 * k, none⟩ v1).heap.size = w1.heap.size := by show (w1.heap.modify b _).size = _; simp
  have z6 : ((w1.setCell ⟨b, 3 + 3 * k, none⟩ v1).setCell ⟨b, 3 + 3 * k + 2, none⟩ (.int .i64 (S.ns k + (d : Int)))).heap.size = (w1.setCell ⟨b, 3 + 3 * k, none⟩ v1).heap.size := by show ((w1.setCell _ _).heap.modify b _).size = _; simp
  refine ⟨v1, w1, hap, ⟨_, _, _, (hr1.shape).choose_spec.choose_spec⟩, cw1, fw1, ct1, ft1, ⟨⟨_, _, T2, ?_⟩, U.os, U.tape, U.output, by omega, ?_⟩⟩
  · intro i hi
    by_cases c : i = 2 * k
    · subst c; rw [updN_same]; exact .inr hnk
    · rw [updN_other _ _ _ _ c]; exact .inl rfl
  · intro j hj n1 n2 n3
    rw [set_other _ _ _ _ _ n1, set_other _ _ _ _ _ n1]
    exact same j hj
set_option maxHeartbeats 2000000 in
theorem ttype (b B p g k : Nat) (ks : Nat → Option Nat) (vs : Nat → Value) (S : BusV) (s : ByteArray) (w : World) (h : IsBus w B b p g ks vs S) (hk : k < 4) (hn : 0 ≤ S.ns k ∧ S.ns k ≤ 64) (hl : (S.ls (2 * k)).length ≤ 64) (hB : B ≤ w.heap.size) (hs : s.size ≤ 1000) :
    Calls Try.prog 26 #[.pointer (some ⟨b, 0, none⟩), .int .i64 (k : Int), .string s] w fun e w' => e = .returned (.tuple #[]) ∧ Turned w w' B b p g ks (typS S k s) := by
  unfold typS
  have co : cellOf (2 * k) = 3 + 3 * k := by unfold cellOf; omega
  have hrow := h.row (2 * k) (by omega)
  have ci := h.crow (2 * k) (by omega)
  obtain ⟨av, lv, cv, hv0⟩ : ∃ av lv cv, vs (2 * k) = .slice av lv cv := by obtain ⟨x1, x2, x3⟩ := hrow.shape; exact ⟨_, _, _, x3⟩
  rw [co, hv0] at ci
  rw [hv0] at hrow
  have ct := h.ctyped k hk
  obtain ⟨d, hd⟩ : ∃ d, d = typD (S.ns k) s := ⟨_, rfl⟩
  rw [← hd]
  have hd1 : d ≤ s.size := by unfold typD at hd; omega
  have hd2 : (d : Int) + S.ns k ≤ 64 := by unfold typD at hd; omega
  have hd3 : (d : Int) = min (s.size : Int) (64 - S.ns k) := by unfold typD at hd; omega
  obtain ⟨s', hs'⟩ : ∃ s', s' = s.extract 0 d := ⟨_, rfl⟩
  rw [← hs']
  have hss : ∀ W, (Instr.slice 9 (.string s) none (some (.int .i64 (d : Int))) none).run Try.prog W = .ok (.string s') W := fun W => by
    rw [hs']; exact run_slice_string_h (P := Try.prog) W 9 s Try.underlying9 .i64 (d : Int) (by omega) (by omega)
  have hs'l : s'.size ≤ 1000 := by rw [hs', ByteArray.size_extract]; omega
  have KEY := Lib.hid (type_fin (d := d) h hk hB hl hs'l hv0)
  have R0 : RowAt w.drew B (ks (2 * k)) (.slice av lv cv) (S.ls (2 * k)) := hrow.same fun _ _ _ => rfl
  have R1 := Lib.hid R0
  have L1 := Lib.hid (show (S.ls (2 * k)).length ≤ 1000000 by omega)
  have kw : IntKind.u64.wrap (k : Int) = (k : Int) := IntWalk.u64_in _ ⟨by omega, by omega⟩
  have kp := bport b k w hk
  obtain ⟨n, hn'⟩ : ∃ n, n = S.ns k := ⟨_, rfl⟩
  rw [← hn'] at hn hd2 hd3 KEY ct ⊢
  have mn := fun W => min_run (P := Try.prog) #[3, 3] 3 .i64 (s.size : Int) (64 - n) (d : Int) (by split <;> omega) W
  have w1 : IntKind.i64.wrap (64 - n) = 64 - n := IntWalk.i64_in _ ⟨by omega, by omega⟩
  have w2 : IntKind.i64.wrap (n + (d : Int)) = n + (d : Int) := IntWalk.i64_in _ ⟨by omega, by omega⟩
  generalize hS' : ({ S with ls := updN S.ls (2 * k) (S.ls (2 * k) ++ s'.data.toList), nil := updN S.nil (2 * k) false, ns := updN S.ns k (n + (d : Int)) } : BusV) = S' at *
  have d1 : decide ((k : Int) < 0) = false := decide_eq_false (by omega)
  have bw := Lib.hid (show Below w.heap.size w w.drew from (Below.refl _ _).drew)
  generalize hO : 3 + 3 * k = o at *
  clear h hk hB co hrow hd hs' hs hl hs'l hS' hO hv0 hn' R0 hd3 hd1 hd2
  go_enter Try.func26, Try.ntmps26
  go_wp2_with fail
  (with_reducible refine kp.mono ?_)
  rintro e w4 ⟨rfl, rfl⟩
  go_wp2_with fail
  go_region_law (first
    | (refine step_append_run rfl _ _ _ _ rfl _ _ rfl rfl _ _ hap ?_)
    | (go_simp; go_at_call 57; (with_reducible refine (clone_row R1.out L1.out).mono ?_); rintro e w9 ⟨a1, n1, c1, k1, rfl, hr1, hb1⟩; obtain ⟨v1, w8, hap, ⟨a2, n2, c2, hv2⟩, cw1, fw1, ct1, ft1, FIN⟩ := KEY.out _ _ bw.out _ _ _ _ hr1 hb1; subst hv2; replace FIN := Lib.hid FIN))
  all_goals (try go_wp2)
  all_goals go_end0
  all_goals exact ⟨rfl, FIN.out⟩
end Go.Proofs.Ytkjbhjmjfacjcaa
