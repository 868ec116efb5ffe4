/- (*Bus).Copy of any bus, walked; no condition but the state. -/
import Derived.Test.YtkjbhjmjfacjcaaBusCopyA
namespace Go.Proofs.Ytkjbhjmjfacjcaa
open Go.RowKit Go.BigFrame
set_option linter.unusedSimpArgs false
set_option linter.unusedVariables false
set_option maxRecDepth 100000

theorem ports_ix (A : Nat → Option Addr) (N C : Nat → Nat) (ns : Nat → Int) (m : Nat) (hm : m < 4) (W : World) : (Instr.index 98 (.agg #[.slice (A 0) (N 0) (C 0), .slice (A 1) (N 1) (C 1), .int .i64 (ns 0), .slice (A 2) (N 2) (C 2), .slice (A 3) (N 3) (C 3), .int .i64 (ns 1), .slice (A 4) (N 4) (C 4), .slice (A 5) (N 5) (C 5), .int .i64 (ns 2), .slice (A 6) (N 6) (C 6), .slice (A 7) (N 7) (C 7), .int .i64 (ns 3)]) (.int .i64 (m : Int))).run Try.prog W = .ok (.agg #[.slice (A (2 * m)) (N (2 * m)) (C (2 * m)), .slice (A (2 * m + 1)) (N (2 * m + 1)) (C (2 * m + 1)), .int .i64 (ns m)]) W := by
  have g : ∀ (x0 x1 x2 x3 x4 x5 x6 x7 x8 x9 x10 x11 : Value) W, (Instr.index 98 (.agg #[x0, x1, x2, x3, x4, x5, x6, x7, x8, x9, x10, x11]) (.int .i64 0)).run Try.prog W = .ok (.agg #[x0, x1, x2]) W ∧ (Instr.index 98 (.agg #[x0, x1, x2, x3, x4, x5, x6, x7, x8, x9, x10, x11]) (.int .i64 1)).run Try.prog W = .ok (.agg #[x3, x4, x5]) W ∧
    (Instr.index 98 (.agg #[x0, x1, x2, x3, x4, x5, x6, x7, x8, x9, x10, x11]) (.int .i64 2)).run Try.prog W = .ok (.agg #[x6, x7, x8]) W ∧ (Instr.index 98 (.agg #[x0, x1, x2, x3, x4, x5, x6, x7, x8, x9, x10, x11]) (.int .i64 3)).run Try.prog W = .ok (.agg #[x9, x10, x11]) W :=
    fun _ _ _ _ _ _ _ _ _ _ _ _ _ => ⟨by kernel_rfl, by kernel_rfl, by kernel_rfl, by kernel_rfl⟩
  match m, hm with
  | 0, _ => exact (g _ _ _ _ _ _ _ _ _ _ _ _ W).1
  | 1, _ => exact (g _ _ _ _ _ _ _ _ _ _ _ _ W).2.1
  | 2, _ => exact (g _ _ _ _ _ _ _ _ _ _ _ _ W).2.2.1
  | 3, _ => exact (g _ _ _ _ _ _ _ _ _ _ _ _ W).2.2.2
theorem busV0_cp (S : BusV) : ({ busV0 S.f with t := S.t, al := S.al, ns := fun _ => 0 } : BusV) = cpS S 0 := by
  unfold cpS busV0
  congr 1
set_option maxHeartbeats 8000000 in
theorem bcopy2 (b B p g : Nat) (ks : Nat → Option Nat) (A : Nat → Option Addr) (N C : Nat → Nat) (S : BusV) (w : World) (h : IsBus w B b p g ks (fun i => .slice (A i) (N i) (C i)) S) (hlen : ∀ i, i < 8 → (S.ls i).length ≤ 1000000) :
    Calls Try.prog 33 #[.pointer (some ⟨b, 0, none⟩)] w fun e w' =>
      ∃ c, e = .returned (.pointer (some ⟨c, 0, none⟩)) ∧ w.heap.size ≤ c ∧ Bus w' w.heap.size c (cpS S 4) ∧ IsBus w' B b p g ks (fun i => .slice (A i) (N i) (C i)) S ∧ Below w.heap.size w w' := by
  have c0 := h.c0
  have H := Lib.hid h
  have hcp := copy_any w h.mem
  clear h
  go_enter Try.func33, Try.ntmps33
  go_wp2_with fail
  refine hcp.mono ?_
  rintro e w1 ⟨p', g', rfl, hp, hg, M, hb⟩
  go_wp2_with fail
  have hps := M.p_lt
  have hgs := M.g_lt
  have key := bnew_mem (B := w.heap.size) w1 M hb.size hp hg
  refine key.mono ?_
  rintro e w2 ⟨c, rfl, hc, ⟨ks2, vs2, H20⟩, hb2⟩
  have H2 := H20.nils fun i hi => H20.nil_val i hi rfl
  clear H20
  have I1 := (H.out.below hb).below hb2
  have hlt := H.out.lt
  have hcs : w.heap.size ≤ c := Nat.le_trans hb.size hc
  have u3 := set_upd w2 c 2 (U S.al)
  have J1 := I1.keep u3 (by omega) (by omega) (by omega) (fun i hi e => by have := hlt.2.2.2 i hi c e; omega)
  have J2 := H2.turn u3 0#64 S.al (fun _ => 0) (set_block H2.blk (show 2 < 15 by decide))
  have e2 := H2.c2
  have ef2 := H2.free 2
  have d2 := I1.c2
  have B3 : Below w.heap.size w (w2.setCell ⟨c, 2, none⟩ (U S.al)) := Upd.below (hb.trans (hb2.mono hb.size)) u3 (Nat.le_trans hb.size hb2.size) hcs
  go_wp2_with fail
  clear e2 ef2 d2
  have u3 := Lib.hid u3
  obtain ⟨w3, hw3⟩ : ∃ w3, w3 = w2.setCell ⟨c, 2, none⟩ (U S.al) := ⟨_, rfl⟩
  change Code.wp _ _ _ _ (w2.setCell ⟨c, 2, none⟩ (U S.al))
  rw [← hw3] at J1 J2 B3 ⊢
  clear hw3 u3
  have K1 := J1.lt
  have K2 := J2.lt
  have ld := load_beyond b 1 S.t w3 K1.1 J1.c1
  refine wp_region_quiet_tail (C := fun w' => ∃ s : Beyond w3, w' = s.to) 7 (by kernel_rfl) (by kernel_rfl) ⟨⟨_, (Below.refl _ _).drew⟩, rfl⟩ ?_
  simp only [List.take_succ_cons, List.take_zero, List.drop_succ_cons, List.drop_zero]
  repeat (go_big_quiet_step ((go_at_call 58; with_reducible exact (ld _))))
  refine wpQuiet_nil ?_
  rintro w4 ⟨s1, rfl⟩
  have J3 := J1.below s1.ok
  have J4 := J2.below s1.ok
  go_wp2_with fail
  have key := astore c 1 0#64 S.t s1.to J4.c1 (J4.free 1)
  (with_reducible refine key.mono ?_)
  clear key
  rintro e w5 ⟨rfl, hw5⟩
  have u5 := set_upd s1.to c 1 (U S.t)
  rw [← hw5] at u5
  have J5 := J3.keep u5 (by omega) (by omega) (by omega) (fun i hi e => by have := hlt.2.2.2 i hi c e; omega)
  have J6 := J4.turn u5 S.t S.al (fun _ => 0) (by rw [hw5]; exact set_block J4.blk (show 1 < 15 by decide))
  have B5 : Below w.heap.size w w5 := Upd.below (B3.trans (s1.ok.mono B3.size)) u5 (Nat.le_trans B3.size s1.ok.size) hcs
  clear hw5 u5 J3 J4 ld J1 J2 B3
  obtain ⟨ns, hns⟩ : ∃ ns, ns = S.ns := ⟨_, rfl⟩
  have cc : ∀ i, i < 8 → w5.cell? ⟨b, cellOf i, none⟩ = some (.slice (A i) (N i) (C i)) := fun i hi => J5.crow i hi
  have ct : ∀ i, i < 4 → w5.cell? ⟨b, 3 + 3 * i + 2, none⟩ = some (.int .i64 (ns i)) := fun i hi => by rw [hns]; exact J5.ctyped i hi
  have c3 : w5.cell? ⟨b, 3, none⟩ = some (.slice (A 0) (N 0) (C 0)) := cc 0 (by omega)
  have c4 : w5.cell? ⟨b, 4, none⟩ = some (.slice (A 1) (N 1) (C 1)) := cc 1 (by omega)
  have c5 : w5.cell? ⟨b, 5, none⟩ = some (.int .i64 (ns 0)) := ct 0 (by omega)
  have c6 : w5.cell? ⟨b, 6, none⟩ = some (.slice (A 2) (N 2) (C 2)) := cc 2 (by omega)
  have c7 : w5.cell? ⟨b, 7, none⟩ = some (.slice (A 3) (N 3) (C 3)) := cc 3 (by omega)
  have c8 : w5.cell? ⟨b, 8, none⟩ = some (.int .i64 (ns 1)) := ct 1 (by omega)
  have c9 : w5.cell? ⟨b, 9, none⟩ = some (.slice (A 4) (N 4) (C 4)) := cc 4 (by omega)
  have c10 : w5.cell? ⟨b, 10, none⟩ = some (.slice (A 5) (N 5) (C 5)) := cc 5 (by omega)
  have c11 : w5.cell? ⟨b, 11, none⟩ = some (.int .i64 (ns 2)) := ct 2 (by omega)
  have c12 : w5.cell? ⟨b, 12, none⟩ = some (.slice (A 6) (N 6) (C 6)) := cc 6 (by omega)
  have c13 : w5.cell? ⟨b, 13, none⟩ = some (.slice (A 7) (N 7) (C 7)) := cc 7 (by omega)
  have c14 : w5.cell? ⟨b, 14, none⟩ = some (.int .i64 (ns 3)) := ct 3 (by omega)
  clear cc ct
  have IX := Lib.hid (ports_ix A N C ns)
  have HN := Lib.hid hns
  have HL := Lib.hid hlen
  have HT := Lib.hid hlt
  have HC := Lib.hid hcs
  have J6 : IsBus w5 w.heap.size c p' g' ks2 (fun _ => .slice none 0 0) (cpS S 0) := by rw [← busV0_cp S]; exact J6
  have RB := Lib.hid (show ∃ ks3 vs3, IsBus w5 w.heap.size c p' g' ks3 vs3 (cpS S 0) from ⟨_, _, J6⟩)
  have J5 := Lib.hid J5
  have B5 := Lib.hid B5
  clear hns hlt hcs J6 hlen K1 K2
  go_wp2_with fail
  go_loopw [31] (fun i wr => ∃ m : Nat, m ≤ 4 ∧ i = .int .i64 m ∧ IsBus wr B b p g ks (fun i => .slice (A i) (N i) (C i)) S ∧ (∃ ks3 vs3, IsBus wr w.heap.size c p' g' ks3 vs3 (cpS S m)) ∧ Below w.heap.size w wr) (fun i _ => 4 - (intOf i).toNat)
  case atStart => exact ⟨0, by omega, rfl, J5.out, RB.out, B5.out⟩
  case round =>
    clear J5 B5 RB c0
    obtain ⟨m, hm, rfl, J5, RB, B5⟩ := hrel
    have J5 := Lib.hid J5
    have RB := Lib.hid RB
    have B5 := Lib.hid B5
    by_cases hm4 : m < 4
    · have ix := IX.out m hm4
      go_wp2_with fail
      obtain ⟨ks3, vs3, J6⟩ := RB.out
      obtain ⟨q, hq⟩ : ∃ q, q = wr.heap.size := ⟨_, rfl⟩
      obtain ⟨W0, hW0⟩ : ∃ W0, W0 = wr.alloc (.cells #[.slice (A (2 * m)) (N (2 * m)) (C (2 * m)), .slice (A (2 * m + 1)) (N (2 * m + 1)) (C (2 * m + 1)), .int .i64 (ns m)] 97) := ⟨_, rfl⟩
      have s4 : W0.heap[q]? = some (.cells #[.slice (A (2 * m)) (N (2 * m)) (C (2 * m)), .slice (A (2 * m + 1)) (N (2 * m + 1)) (C (2 * m + 1)), .int .i64 (ns m)] 97 (0, 0)) := by rw [hW0, hq]; exact (MapKept.heap_alloc wr _).1
      have bW : Below wr.heap.size wr W0 := by rw [hW0]; exact (Below.refl _ _).alloc (Nat.le_refl _) _
      rw [← hW0, ← hq]
      clear hW0 hq
      have J5 := J5.out.below bW
      have J6 := J6.below bW
      have B5 := Lib.hid (HBstep B5.out bW)
      clear bW RB
      have hql := blk_lt s4
      have L1 := HL.out (2 * m) (by omega)
      have L2 := HL.out (2 * m + 1) (by omega)
      have R1 : RowAt W0.drew B (ks (2 * m)) (.slice (A (2 * m)) (N (2 * m)) (C (2 * m))) (S.ls (2 * m)) := J5.row (2 * m) (by omega)
      have R1 := Lib.hid R1
      have L1 := Lib.hid L1
      have L2 := Lib.hid L2
      have F := Lib.hid (show ∀ w1, Below W0.drew.heap.size W0.drew w1 → RowAt w1 B (ks (2 * m + 1)) (.slice (A (2 * m + 1)) (N (2 * m + 1)) (C (2 * m + 1))) (S.ls (2 * m + 1)) ∧ w1.cell? ⟨q, 0, none⟩ = some (.slice (A (2 * m)) (N (2 * m)) (C (2 * m))) ∧ w1.cell? ⟨q, 1, none⟩ = some (.slice (A (2 * m + 1)) (N (2 * m + 1)) (C (2 * m + 1))) ∧ w1.cell? ⟨q, 2, none⟩ = some (.int .i64 (ns m)) ∧
        w1.cell? ⟨c, 3 + m * 3, none⟩ = some (vs3 (2 * m)) ∧ w1.cell? ⟨c, 3 + m * 3 + 1, none⟩ = some (vs3 (2 * m + 1)) ∧ w1.cell? ⟨c, 3 + m * 3 + 2, none⟩ = some (.int .i64 0) ∧ (∀ j, w1.frozen? ⟨c, j, none⟩ = false) from by
        intro w1 hb0
        have hb1 : Below W0.heap.size W0 w1 := ⟨hb0.os, hb0.tape, hb0.output, hb0.size, hb0.block⟩
        have s1 := (hb1.block q hql).trans s4
        have K := J6.below hb1
        have e0 := K.crow (2 * m) (by omega)
        have e1 := K.crow (2 * m + 1) (by omega)
        have e2 := K.ctyped m hm4
        rw [show cellOf (2 * m) = 3 + m * 3 by unfold cellOf; omega] at e0
        rw [show cellOf (2 * m + 1) = 3 + m * 3 + 1 by unfold cellOf; omega] at e1
        rw [show 3 + 3 * m + 2 = 3 + m * 3 + 2 by omega, show (cpS S m).ns m = 0 from if_neg (by omega)] at e2
        exact ⟨(J5.below hb1).row (2 * m + 1) (by omega), by simp [World.cell?, s1], by simp [World.cell?, s1], by simp [World.cell?, s1], e0, e1, e2, K.free⟩)
      have J5 := Lib.hid J5
      have J6 := Lib.hid J6
      obtain ⟨_, f0, f1, f2, g0, g1, g2, gz⟩ := F.out W0.drew (Below.refl _ _)
      replace f0 : W0.cell? ⟨q, 0, none⟩ = _ := f0
      replace f1 : W0.cell? ⟨q, 1, none⟩ = _ := f1
      replace f2 : W0.cell? ⟨q, 2, none⟩ = _ := f2
      clear s4 hql g0 g1 g2 gz
      go_region_law (first
        | (go_simp; go_at_call 57; (with_reducible refine (clone_row R1.out L1.out).mono ?_); rintro e w1 ⟨a1, n1, c1, k1, rfl, hr1, hb1⟩; obtain ⟨R2, f01, f11, f21, _⟩ := F.out w1 hb1)
        | (go_simp; go_at_call 57; (with_reducible refine (clone_row R2 L2.out).mono ?_); rintro e w2 ⟨a2, n2, c2, k2, rfl, hr2, hb2⟩; obtain ⟨_, _, _, f22, g0, g1, g2, gz⟩ := F.out w2 (HBstep hb1 hb2)))
      all_goals (
        have LP := J6.out.below (show Below W0.heap.size W0 W0.drew from (Below.refl _ _).drew)
        have LP := LP.lay_port S m hm4 B5.out.size hb1 hb2 hr1 hr2
        rw [show cellOf (2 * m) = 3 + m * 3 by unfold cellOf; omega, show cellOf (2 * m + 1) = 3 + m * 3 + 1 by unfold cellOf; omega, show 3 + 3 * m + 2 = 3 + m * 3 + 2 by omega, ← HN.out] at LP
        have hlt := HT.out
        have hcs := HC.out
        have hb3 : Below W0.heap.size W0 w2 := (Below.refl _ W0).drew.trans (hb1.trans (hb2.mono hb1.size))
        have u := ((set_upd w2 c (3 + m * 3) (.slice a1 n1 c1)).trans (set_upd _ c (3 + m * 3 + 1) (.slice a2 n2 c2))).trans (set_upd _ c (3 + m * 3 + 2) (.int .i64 (ns m)))
        have J7 := (J5.out.below hb3).keep u (by omega) (by omega) (by omega) (fun i hi e => by have := hlt.2.2.2 i hi c e; omega)
        have B6 := HBstep B5.out hb3
        have B7 := Upd.below B6 u B6.size hcs
        have FIN := Lib.hid (And.intro J7 (And.intro LP B7))
        clear LP hlt hcs hb3 u J7 B6 B7 hr1 hr2 hb1 hb2
        go_wp2
        go_roundw
        case rel => exact ⟨m + 1, by omega, by go_num, FIN.out.1, ⟨_, _, FIN.out.2.1⟩, FIN.out.2.2⟩
        case measure => simp [intOf]; omega)
    · obtain rfl : m = 4 := by omega
      go_wp2
      go_ret
      obtain ⟨ks3, vs3, J⟩ := RB.out
      exact ⟨c, rfl, HC.out, ⟨_, _, _, _, J⟩, J5.out, B5.out⟩
end Go.Proofs.Ytkjbhjmjfacjcaa
