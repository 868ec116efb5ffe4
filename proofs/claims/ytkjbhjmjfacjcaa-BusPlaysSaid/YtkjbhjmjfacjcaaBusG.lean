/- The bus's consoles: Type where nothing was typed yet; no condition but the state. -/
import Derived.Test.YtkjbhjmjfacjcaaBusF
import Derived.Deep.RegionLaw
namespace Go.Proofs.Ytkjbhjmjfacjcaa
open Go.RowKit Go.BigFrame
set_option linter.unusedSimpArgs false
set_option linter.unusedVariables false
set_option maxRecDepth 100000

/-- append whose run is known, as one step of a region that draws. -/
theorem step_append_run {P : Program} {ops : Array Oper} {o : Oper} {a : Act} {w : World} {K : Act → World → Prop} {Q : Exit → Act → World → Prop} {E : Prop}
    (hg : o.guard = none) (s x : Operand) (t tx : TypeId) (hop : o.op = Op.call { callee := Callee.builtin Builtin.append, args := #[s, x], argTypes := #[t, tx] })
    (sv xv : Value) (hs : a.eval s = sv) (hx : a.eval x = xv) (v : Value) (w' : World) (hrun : (Builtin.append_ #[t, tx] o.type #[sv, xv]).run P w = .ok v w')
    (hK : K (a.put o.dst v) w') : if Region.wanted o (yielded ops a.tmps) = true then Oper.wp P o a w K Q else E := by
  have hw : Region.wanted o (yielded ops a.tmps) = true := by simp [Region.wanted, hg]
  rw [if_pos hw]
  unfold Oper.wp
  simp [execOp, hop, resolve, invoke, builtin, hs, hx, hrun, Result.andThen]
  exact hK
theorem clone_nil (w : World) : Calls Try.prog 57 #[.slice none 0 0] w fun e w' => e = .returned (.slice none 0 0) ∧ w = w' := by
  have hnil := fun W => Lib.run_eql_slice_nil (P := Try.prog) W 40 5 none 0 0 0 0 Try.underlying40
  go_enter Try.func57, Try.ntmps57
  go_wp2
  go_ret
  exact ⟨rfl, rfl⟩
set_option maxHeartbeats 2000000 in
theorem btype_nil (b B k : Nat) (S : BusV) (s : ByteArray) (w : World) (h : Bus w B b S) (hk : k < 4) (hn : S.nil (2 * k) = true) (ht : S.ns k = 0) (hB : B ≤ w.heap.size) (hs : s.size ≤ 1000) :
    Calls Try.prog 26 #[.pointer (some ⟨b, 0, none⟩), .int .i64 (k : Int), .string s] w fun e w' => e = .returned (.tuple #[]) ∧ Below B w w' ∧ w.heap.size ≤ w'.heap.size ∧
      Bus w' B b { S with ls := updN S.ls (2 * k) (s.extract 0 (min s.size 64)).data.toList, nil := updN S.nil (2 * k) false, ns := updN S.ns k ((min s.size 64 : Nat) : Int) } := by
  obtain ⟨p, g, ks, vs, h⟩ := h
  have co : cellOf (2 * k) = 3 + 3 * k := by unfold cellOf; omega
  have hbl := blk_lt h.blk
  have hkn := h.nl (2 * k) (by omega) hn
  have hrow := h.row (2 * k) (by omega)
  rw [hkn] at hrow
  obtain ⟨hv0, hl0⟩ := hrow
  have ci := h.crow (2 * k) (by omega)
  rw [co, hv0] at ci
  have ct := h.ctyped k hk
  rw [ht] at ct
  have ci2 : ∀ s : Beyond w, s.to.cell? ⟨b, 3 + 3 * k, none⟩ = some (.slice none 0 0) := fun s => by rw [s.ok.cell hbl]; exact ci
  obtain ⟨d, hd⟩ : ∃ d, d = min s.size 64 := ⟨_, rfl⟩
  rw [← hd]
  have hd1 : d ≤ s.size := by omega
  obtain ⟨s', hs'⟩ : ∃ s', s' = s.extract 0 d := ⟨_, rfl⟩
  rw [← hs']
  have mn := fun W => min_run (P := Try.prog) #[3, 3] 3 .i64 (s.size : Int) 64 (d : Int) (by split <;> omega) W
  have hss : ∀ W, (Instr.slice 9 (.string s) none (some (.int .i64 (d : Int))) none).run Try.prog W = .ok (.string s') W := fun W => by
    rw [hs']; exact run_slice_string_h (P := Try.prog) W 9 s Try.underlying9 .i64 (d : Int) (by omega) (by omega)
  have hs'l : s'.size ≤ 1000 := by rw [hs', ByteArray.size_extract]; omega
  have key : ∀ s1 : Beyond w, ∃ v1 w1, (Builtin.append_ #[40, 9] 40 #[.slice none 0 0, .string s']).run Try.prog s1.to = .ok v1 w1 ∧ (∃ a1 n1 c1, v1 = .slice a1 n1 c1) ∧
      w1.cell? ⟨b, 3 + 3 * k, none⟩ = some (.slice none 0 0) ∧ w1.frozen? ⟨b, 3 + 3 * k, none⟩ = false ∧
      (w1.setCell ⟨b, 3 + 3 * k, none⟩ v1).cell? ⟨b, 3 + 3 * k + 2, none⟩ = some (.int .i64 0) ∧ (w1.setCell ⟨b, 3 + 3 * k, none⟩ v1).frozen? ⟨b, 3 + 3 * k + 2, none⟩ = false ∧
      Below B w ((w1.setCell ⟨b, 3 + 3 * k, none⟩ v1).setCell ⟨b, 3 + 3 * k + 2, none⟩ (.int .i64 (d : Int))) ∧ w.heap.size ≤ ((w1.setCell ⟨b, 3 + 3 * k, none⟩ v1).setCell ⟨b, 3 + 3 * k + 2, none⟩ (.int .i64 (d : Int))).heap.size ∧
      Bus ((w1.setCell ⟨b, 3 + 3 * k, none⟩ v1).setCell ⟨b, 3 + 3 * k + 2, none⟩ (.int .i64 (d : Int))) B b { S with ls := updN S.ls (2 * k) s'.data.toList, nil := updN S.nil (2 * k) false, ns := updN S.ns k (d : Int) } := by
    intro s1
    have hI := h.below s1.ok
    have hsz := s1.ok.size
    obtain ⟨v1, k1, w1, hap, hr1, hu1, hk1⟩ := append_row (w := s1.to) (B := B) (k := none) (v := .slice none 0 0) (l := []) ⟨rfl, rfl⟩ (by omega) 9 (.string s') s'.data.toList
      (Src.ofString (P := Try.prog) s1.to Try.underlying9 s') (by show 0 + s'.size ≤ _; omega)
    have hb1 : b < s1.to.heap.size := by omega
    have cw1 : w1.cell? ⟨b, 3 + 3 * k, none⟩ = some (.slice none 0 0) := (World.cell?_of_block (a := ⟨b, 3 + 3 * k, none⟩) (hu1.block b hb1 (by simp))).trans (ci2 s1)
    have fw1 : w1.frozen? ⟨b, 3 + 3 * k, none⟩ = false := (World.frozen?_of_block (a := ⟨b, 3 + 3 * k, none⟩) (hu1.block b hb1 (by simp))).trans (hI.free _)
    have T1 := hI.turn_row (2 * k) (by omega) k1 v1 _ (by rw [hkn]; exact hu1) hr1 (hk1.elim (fun e => .inr (.inl e)) fun e => .inr (.inr ⟨_, e, Nat.le_refl _⟩))
    rw [co, List.nil_append] at T1
    have ct1 := T1.ctyped k hk
    have ft1 := T1.free (3 + 3 * k + 2)
    have T2 := T1.turn (set_upd _ b (3 + 3 * k + 2) (.int .i64 (d : Int))) S.t S.al (updN S.ns k (d : Int)) (by
      have := set_block (v := .int .i64 (d : Int)) T1.blk (show 3 + 3 * k + 2 < 15 by omega)
      rw [bus_typed _ _ _ _ _ k hk] at this
      exact this)
    have b1 : Below B w (w1.setCell ⟨b, 3 + 3 * k, none⟩ v1) := (s1.ok.mono hB).trans (hu1.trans_set h.lb (by intro q hq; cases hq) (by omega))
    have z1 : (w1.setCell ⟨b, 3 + 3 * k, none⟩ v1).heap.size = w1.heap.size := by show (w1.heap.modify b _).size = _; simp
    have z2 : ((w1.setCell ⟨b, 3 + 3 * k, none⟩ v1).setCell ⟨b, 3 + 3 * k + 2, none⟩ (.int .i64 (d : Int))).heap.size = (w1.setCell ⟨b, 3 + 3 * k, none⟩ v1).heap.size := by show ((w1.setCell _ _).heap.modify b _).size = _; simp
    have z3 := hu1.size
    exact ⟨v1, w1, hap, ⟨_, _, _, (hr1.shape).choose_spec.choose_spec⟩, cw1, fw1, ct1.trans (by rw [show ({ S with ls := updN S.ls (2 * k) s'.data.toList, nil := updN S.nil (2 * k) false } : BusV).ns k = 0 from ht]), ft1,
      Upd.below b1 (set_upd _ _ _ _) (by omega) h.lb, by omega, p, g, _, _, T2⟩
  have KEY := Lib.hid key
  have kw : IntKind.u64.wrap (k : Int) = (k : Int) := IntWalk.u64_in _ ⟨by omega, by omega⟩
  have kp := bport b k w hk
  have dw : IntKind.i64.wrap (d : Int) = (d : Int) := IntWalk.i64_in _ ⟨by omega, by omega⟩
  have hcn := clone_nil
  generalize hS' : ({ S with ls := updN S.ls (2 * k) s'.data.toList, nil := updN S.nil (2 * k) false, ns := updN S.ns k (d : Int) } : BusV) = S' at *
  generalize hO : 3 + 3 * k = o at *
  clear h hk hn ht hB hs co hbl hkn hv0 hl0 key hd hd1 hs' hs'l hS' hO
  go_enter Try.func26, Try.ntmps26
  go_wp2_with fail
  (with_reducible refine kp.mono ?_)
  rintro e w4 ⟨rfl, rfl⟩
  obtain ⟨v1, w1, hap, ⟨a1, n1, c1, rfl⟩, cw1, fw1, ct1, ft1, FIN⟩ := KEY.out ⟨w.drew, (Below.refl _ _).drew⟩
  have FIN := Lib.hid FIN
  go_wp2_with fail
  go_region_law (first
    | (refine step_append_run rfl _ _ _ _ rfl _ _ rfl rfl _ _ hap ?_)
    | (go_simp; go_at_call 57; (with_reducible refine (hcn _).mono ?_); rintro e w9 ⟨rfl, rfl⟩))
  all_goals (try go_wp2)
  all_goals go_end0
  all_goals exact ⟨rfl, FIN.out⟩
end Go.Proofs.Ytkjbhjmjfacjcaa
