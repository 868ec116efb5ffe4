/- (*Bus).Mem and (*Bus).Copy where no console was used. UNDER WAY. -/
import Derived.Test.YtkjbhjmjfacjcaaKnown7
namespace Go.Proofs.Ytkjbhjmjfacjcaa
open Go.RowKit Go.BigFrame
set_option linter.unusedSimpArgs false
set_option linter.unusedVariables false
set_option maxRecDepth 100000

theorem bmem (b B p g : Nat) (ks : Nat → Option Nat) (vs : Nat → Value) (S : BusV) (w : World) (h : IsBus w B b p g ks vs S) :
    Calls Try.prog 34 #[.pointer (some ⟨b, 0, none⟩)] w fun e w' => e = .returned (.pointer (some ⟨p, 0, none⟩)) ∧ w = w' := by
  have c0 := h.c0
  clear h
  go_enter Try.func34, Try.ntmps34
  go_wp2
  go_ret
  exact ⟨rfl, rfl⟩
theorem IsBus.keep {w w' : World} {B b p g k : Nat} {ks : Nat → Option Nat} {vs : Nat → Value} {S : BusV} (h : IsBus w B b p g ks vs S) (u : Upd w w' k) (h1 : k ≠ b) (h2 : k ≠ p) (h3 : k ≠ g) (h4 : ∀ i, i < 8 → ks i ≠ some k) : IsBus w' B b p g ks vs S :=
  { h with
    blk := by rw [u.block b (blk_lt h.blk) (Ne.symm h1)]; exact h.blk
    mem := h.mem.upd u (Ne.symm h2) (Ne.symm h3)
    row := fun i hi => (h.row i hi).same fun q hq hl => u.block q hl (fun e => h4 i hi (by rw [hq, e])) }
theorem IsBus.lt {w : World} {B b p g : Nat} {ks : Nat → Option Nat} {vs : Nat → Value} {S : BusV} (h : IsBus w B b p g ks vs S) : b < w.heap.size ∧ p < w.heap.size ∧ g < w.heap.size ∧ ∀ i, i < 8 → ∀ q, ks i = some q → q < w.heap.size :=
  ⟨blk_lt h.blk, h.mem.p_lt, h.mem.g_lt, fun i hi q hq => by have := h.row i hi; rw [hq] at this; exact this.lt⟩
theorem load_beyond (b j : Nat) (x : BitVec 64) (w : World) (hl : b < w.heap.size) (hc : w.cell? ⟨b, j, none⟩ = some (U x)) (s : Beyond w) :
    Calls Try.prog 58 #[.pointer (some ⟨b, j, none⟩)] s.to fun e w' => e = .returned (U x) ∧ ∃ s2 : Beyond w, w' = s2.to :=
  (aload b j x s.to (by rw [s.ok.cell hl]; exact hc)).mono fun _ _ ⟨h1, h2⟩ => ⟨h1, s, h2.symm⟩
theorem IsBus.nils {w : World} {B b p g : Nat} {ks : Nat → Option Nat} {vs : Nat → Value} {S : BusV} (h : IsBus w B b p g ks vs S) (hv : ∀ i, i < 8 → vs i = .slice none 0 0) : IsBus w B b p g ks (fun _ => .slice none 0 0) S :=
  { h with
    blk := by
      rw [h.blk]
      unfold busA
      rw [hv 0 (by omega), hv 1 (by omega), hv 2 (by omega), hv 3 (by omega), hv 4 (by omega), hv 5 (by omega), hv 6 (by omega), hv 7 (by omega)]
    row := fun i hi => by have := h.row i hi; rw [hv i hi] at this; exact this }
theorem IsBus.nil_val {w : World} {B b p g : Nat} {ks : Nat → Option Nat} {vs : Nat → Value} {S : BusV} (h : IsBus w B b p g ks vs S) (i : Nat) (hi : i < 8) (hn : S.nil i = true) : vs i = .slice none 0 0 := by
  have h1 := h.row i hi
  rw [h.nl i hi hn] at h1
  exact h1.1
set_option maxHeartbeats 4000000 in
theorem bcopy1 (b B p g : Nat) (ks : Nat → Option Nat) (vs : Nat → Value) (S : BusV) (w : World) (h : IsBus w B b p g ks vs S) (hv : ∀ i, i < 8 → vs i = .slice none 0 0) (hn : ∀ i, i < 4 → S.ns i = 0) :
    Calls Try.prog 33 #[.pointer (some ⟨b, 0, none⟩)] w fun e w' =>
      ∃ c g' ks2 p', e = .returned (.pointer (some ⟨c, 0, none⟩)) ∧ w.heap.size ≤ c ∧ w.heap.size ≤ p' ∧ w.heap.size ≤ g' ∧ IsBus w' w.heap.size c p' g' ks2 (fun _ => .slice none 0 0) { busV0 S.f with t := S.t, al := S.al } ∧ IsBus w' B b p g ks vs S ∧ Below w.heap.size w w' := by
  have c0 := h.c0
  have H := Lib.hid h
  have hcp := copy_any w h.mem
  clear h
  go_enter Try.func33, Try.ntmps33
  go_wp2_with fail
  refine hcp.mono ?_
  rintro e w1 ⟨p', g', rfl, hp, hg, M, hb⟩
  go_wp2_with fail
  have hps := M.p_lt
  have hgs := M.g_lt
  have key := bnew_mem (B := w.heap.size) w1 M hb.size hp hg
  refine key.mono ?_
  rintro e w2 ⟨c, rfl, hc, ⟨ks2, vs2, H20⟩, hb2⟩
  have H2 := H20.nils fun i hi => H20.nil_val i hi rfl
  clear H20
  have I1 := (H.out.below hb).below hb2
  have hlt := H.out.lt
  have hcs : w.heap.size ≤ c := Nat.le_trans hb.size hc
  have u3 := set_upd w2 c 2 (U S.al)
  have J1 := I1.keep u3 (by omega) (by omega) (by omega) (fun i hi e => by have := hlt.2.2.2 i hi c e; omega)
  have J2 := H2.turn u3 0#64 S.al (fun _ => 0) (set_block H2.blk (show 2 < 15 by decide))
  have e2 := H2.c2
  have ef2 := H2.free 2
  have d2 := I1.c2
  have B3 : Below w.heap.size w (w2.setCell ⟨c, 2, none⟩ (U S.al)) := Upd.below (hb.trans (hb2.mono hb.size)) u3 (Nat.le_trans hb.size hb2.size) hcs
  go_wp2_with fail
  clear e2 ef2 d2
  have u3 := Lib.hid u3
  obtain ⟨w3, hw3⟩ : ∃ w3, w3 = w2.setCell ⟨c, 2, none⟩ (U S.al) := ⟨_, rfl⟩
  change Code.wp _ _ _ _ (w2.setCell ⟨c, 2, none⟩ (U S.al))
  rw [← hw3] at J1 J2 B3 ⊢
  clear hw3 u3
  have K1 := J1.lt
  have K2 := J2.lt
  have ld := load_beyond b 1 S.t w3 K1.1 J1.c1
  refine wp_region_quiet_tail (C := fun w' => ∃ s : Beyond w3, w' = s.to) 7 (by kernel_rfl) (by kernel_rfl) ⟨⟨_, (Below.refl _ _).drew⟩, rfl⟩ ?_
  simp only [List.take_succ_cons, List.take_zero, List.drop_succ_cons, List.drop_zero]
  repeat (go_big_quiet_step ((go_at_call 58; with_reducible exact (ld _))))
  refine wpQuiet_nil ?_
  rintro w4 ⟨s1, rfl⟩
  have J3 := J1.below s1.ok
  have J4 := J2.below s1.ok
  go_wp2_with fail
  have key := astore c 1 0#64 S.t s1.to J4.c1 (J4.free 1)
  (with_reducible refine key.mono ?_)
  clear key
  rintro e w5 ⟨rfl, hw5⟩
  have u5 := set_upd s1.to c 1 (U S.t)
  rw [← hw5] at u5
  have J5 := J3.keep u5 (by omega) (by omega) (by omega) (fun i hi e => by have := hlt.2.2.2 i hi c e; omega)
  have J6 := J4.turn u5 S.t S.al (fun _ => 0) (by rw [hw5]; exact set_block J4.blk (show 1 < 15 by decide))
  have B5 : Below w.heap.size w w5 := Upd.below (B3.trans (s1.ok.mono B3.size)) u5 (Nat.le_trans B3.size s1.ok.size) hcs
  clear hw5 u5 J3 J4 ld J1 J2 B3
  have cc : ∀ i, i < 8 → w5.cell? ⟨b, cellOf i, none⟩ = some (.slice none 0 0) := fun i hi => by rw [J5.crow i hi, hv i hi]
  have ct : ∀ i, i < 4 → w5.cell? ⟨b, 3 + 3 * i + 2, none⟩ = some (.int .i64 0) := fun i hi => by rw [J5.ctyped i hi, hn i hi]
  have c3 : w5.cell? ⟨b, 3, none⟩ = some (.slice none 0 0) := cc 0 (by omega)
  have c4 : w5.cell? ⟨b, 4, none⟩ = some (.slice none 0 0) := cc 1 (by omega)
  have c5 : w5.cell? ⟨b, 5, none⟩ = some (.int .i64 0) := ct 0 (by omega)
  have c6 : w5.cell? ⟨b, 6, none⟩ = some (.slice none 0 0) := cc 2 (by omega)
  have c7 : w5.cell? ⟨b, 7, none⟩ = some (.slice none 0 0) := cc 3 (by omega)
  have c8 : w5.cell? ⟨b, 8, none⟩ = some (.int .i64 0) := ct 1 (by omega)
  have c9 : w5.cell? ⟨b, 9, none⟩ = some (.slice none 0 0) := cc 4 (by omega)
  have c10 : w5.cell? ⟨b, 10, none⟩ = some (.slice none 0 0) := cc 5 (by omega)
  have c11 : w5.cell? ⟨b, 11, none⟩ = some (.int .i64 0) := ct 2 (by omega)
  have c12 : w5.cell? ⟨b, 12, none⟩ = some (.slice none 0 0) := cc 6 (by omega)
  have c13 : w5.cell? ⟨b, 13, none⟩ = some (.slice none 0 0) := cc 7 (by omega)
  have c14 : w5.cell? ⟨b, 14, none⟩ = some (.int .i64 0) := ct 3 (by omega)
  clear cc ct
  have ix0 : ∀ W, (Instr.index 98 (.agg #[.slice none 0 0, .slice none 0 0, .int .i64 0, .slice none 0 0, .slice none 0 0, .int .i64 0, .slice none 0 0, .slice none 0 0, .int .i64 0, .slice none 0 0, .slice none 0 0, .int .i64 0]) (.int .i64 0)).run Try.prog W = .ok (.agg #[.slice none 0 0, .slice none 0 0, .int .i64 0]) W := fun _ => by kernel_rfl
  have ix1 : ∀ W, (Instr.index 98 (.agg #[.slice none 0 0, .slice none 0 0, .int .i64 0, .slice none 0 0, .slice none 0 0, .int .i64 0, .slice none 0 0, .slice none 0 0, .int .i64 0, .slice none 0 0, .slice none 0 0, .int .i64 0]) (.int .i64 1)).run Try.prog W = .ok (.agg #[.slice none 0 0, .slice none 0 0, .int .i64 0]) W := fun _ => by kernel_rfl
  have ix2 : ∀ W, (Instr.index 98 (.agg #[.slice none 0 0, .slice none 0 0, .int .i64 0, .slice none 0 0, .slice none 0 0, .int .i64 0, .slice none 0 0, .slice none 0 0, .int .i64 0, .slice none 0 0, .slice none 0 0, .int .i64 0]) (.int .i64 2)).run Try.prog W = .ok (.agg #[.slice none 0 0, .slice none 0 0, .int .i64 0]) W := fun _ => by kernel_rfl
  have ix3 : ∀ W, (Instr.index 98 (.agg #[.slice none 0 0, .slice none 0 0, .int .i64 0, .slice none 0 0, .slice none 0 0, .int .i64 0, .slice none 0 0, .slice none 0 0, .int .i64 0, .slice none 0 0, .slice none 0 0, .int .i64 0]) (.int .i64 3)).run Try.prog W = .ok (.agg #[.slice none 0 0, .slice none 0 0, .int .i64 0]) W := fun _ => by kernel_rfl
  go_wp2_with fail
  refine wp_loop_rounds 5 ?_
  clear c3 c4 c5 c6 c7 c8 c9 c10 c11 c12 c13 c14
  -- ROUNDS
  rw [rounds_succ]
  obtain ⟨W0, hW0⟩ : ∃ W0, W0 = w5.alloc (.cells #[.slice none 0 0, .slice none 0 0, .int .i64 0] 97) := ⟨_, rfl⟩
  have q0 : W0.cell? ⟨w5.heap.size, 0, none⟩ = some (.slice none 0 0) := by rw [hW0, World.cell?_alloc_at _ _ _ _ rfl]; rfl
  have q1 : W0.cell? ⟨w5.heap.size, 1, none⟩ = some (.slice none 0 0) := by rw [hW0, World.cell?_alloc_at _ _ _ _ rfl]; rfl
  have q2 : W0.cell? ⟨w5.heap.size, 2, none⟩ = some (.int .i64 0) := by rw [hW0, World.cell?_alloc_at _ _ _ _ rfl]; rfl
  have ql : w5.heap.size < W0.heap.size := by rw [hW0]; simp
  have bW : Below w5.heap.size w5 W0 := by rw [hW0]; exact (Below.refl _ _).alloc (Nat.le_refl _) _
  replace J5 := J5.below bW
  replace J6 := J6.below bW
  replace B5 := HBstep B5 bW
  go_wp2_with fail
  rw [← hW0]
  clear hW0 bW
  have s0 : ∀ s : Beyond W0, s.to.cell? ⟨w5.heap.size, 0, none⟩ = some (.slice none 0 0) := fun s => by rw [s.ok.cell ql]; exact q0
  have s1 : ∀ s : Beyond W0, s.to.cell? ⟨w5.heap.size, 1, none⟩ = some (.slice none 0 0) := fun s => by rw [s.ok.cell ql]; exact q1
  have s2 : ∀ s : Beyond W0, s.to.cell? ⟨w5.heap.size, 2, none⟩ = some (.int .i64 0) := fun s => by rw [s.ok.cell ql]; exact q2
  have cl : ∀ s : Beyond W0, Calls Try.prog 57 #[.slice none 0 0] s.to fun e w' => e = .returned (.slice none 0 0) ∧ ∃ s2 : Beyond W0, w' = s2.to := fun s => (clone_nil s.to).mono fun _ _ ⟨h1, h2⟩ => ⟨h1, s, h2.symm⟩
  clear q0 q1 q2 ql
  refine wp_region_quiet_tail (C := fun w' => ∃ s : Beyond W0, w' = s.to) 14 (by kernel_rfl) (by kernel_rfl) ⟨⟨_, (Below.refl _ _).drew⟩, rfl⟩ ?_
  simp only [List.take_succ_cons, List.take_zero, List.drop_succ_cons, List.drop_zero]
  repeat (go_big_quiet_step ((go_at_call 57; with_reducible exact (cl _))))
  refine wpQuiet_nil ?_
  rintro w' ⟨s, rfl⟩
  clear s0 s1 s2 cl
  replace J5 := J5.below s.ok
  replace J6 := J6.below s.ok
  replace B5 := HBstep B5 s.ok
  obtain ⟨v0, hv0⟩ : ∃ v0, v0 = s.to := ⟨_, rfl⟩
  rw [← hv0] at J5 J6 B5 ⊢
  clear hv0 s
  have x0 : v0.cell? ⟨c, 3, none⟩ = some (.slice none 0 0) := J6.cell 3
  have x1 : v0.cell? ⟨c, 4, none⟩ = some (.slice none 0 0) := J6.cell 4
  have x2 : v0.cell? ⟨c, 5, none⟩ = some (.int .i64 0) := J6.cell 5
  have y0 := J6.free 3
  have y1 := J6.free 4
  have y2 := J6.free 5
  have u := ((set_upd v0 c 3 (.slice none 0 0)).trans (set_upd _ c 4 (.slice none 0 0))).trans (set_upd _ c 5 (.int .i64 0))
  have J7 := J5.keep u (by omega) (by omega) (by omega) (fun i hi e => by have := hlt.2.2.2 i hi c e; omega)
  have J8 := J6.turn u S.t S.al (fun _ => 0) (set_block (set_block (set_block J6.blk (show 3 < 15 by decide)) (show 4 < 15 by decide)) (show 5 < 15 by decide))
  have B7 := Upd.below B5 u B5.size hcs
  obtain ⟨z0, hz0⟩ : ∃ z0, z0 = ((v0.setCell ⟨c, 3, none⟩ (.slice none 0 0)).setCell ⟨c, 4, none⟩ (.slice none 0 0)).setCell ⟨c, 5, none⟩ (.int .i64 0) := ⟨_, rfl⟩
  rw [← hz0] at J7 J8 B7
  clear u J5 J6 B5
  have J5 := J7
  have J6 := J8
  have B5 := B7
  clear J7 J8 B7
  go_wp2
  rw [← hz0]
  clear hz0 x0 x1 x2 y0 y1 y2
  rw [rounds_succ]
  obtain ⟨W1, hW1⟩ : ∃ W1, W1 = z0.alloc (.cells #[.slice none 0 0, .slice none 0 0, .int .i64 0] 97) := ⟨_, rfl⟩
  have q0 : W1.cell? ⟨z0.heap.size, 0, none⟩ = some (.slice none 0 0) := by rw [hW1, World.cell?_alloc_at _ _ _ _ rfl]; rfl
  have q1 : W1.cell? ⟨z0.heap.size, 1, none⟩ = some (.slice none 0 0) := by rw [hW1, World.cell?_alloc_at _ _ _ _ rfl]; rfl
  have q2 : W1.cell? ⟨z0.heap.size, 2, none⟩ = some (.int .i64 0) := by rw [hW1, World.cell?_alloc_at _ _ _ _ rfl]; rfl
  have ql : z0.heap.size < W1.heap.size := by rw [hW1]; simp
  have bW : Below z0.heap.size z0 W1 := by rw [hW1]; exact (Below.refl _ _).alloc (Nat.le_refl _) _
  replace J5 := J5.below bW
  replace J6 := J6.below bW
  replace B5 := HBstep B5 bW
  go_wp2_with fail
  rw [← hW1]
  clear hW1 bW
  have s0 : ∀ s : Beyond W1, s.to.cell? ⟨z0.heap.size, 0, none⟩ = some (.slice none 0 0) := fun s => by rw [s.ok.cell ql]; exact q0
  have s1 : ∀ s : Beyond W1, s.to.cell? ⟨z0.heap.size, 1, none⟩ = some (.slice none 0 0) := fun s => by rw [s.ok.cell ql]; exact q1
  have s2 : ∀ s : Beyond W1, s.to.cell? ⟨z0.heap.size, 2, none⟩ = some (.int .i64 0) := fun s => by rw [s.ok.cell ql]; exact q2
  have cl : ∀ s : Beyond W1, Calls Try.prog 57 #[.slice none 0 0] s.to fun e w' => e = .returned (.slice none 0 0) ∧ ∃ s2 : Beyond W1, w' = s2.to := fun s => (clone_nil s.to).mono fun _ _ ⟨h1, h2⟩ => ⟨h1, s, h2.symm⟩
  clear q0 q1 q2 ql
  refine wp_region_quiet_tail (C := fun w' => ∃ s : Beyond W1, w' = s.to) 14 (by kernel_rfl) (by kernel_rfl) ⟨⟨_, (Below.refl _ _).drew⟩, rfl⟩ ?_
  simp only [List.take_succ_cons, List.take_zero, List.drop_succ_cons, List.drop_zero]
  repeat (go_big_quiet_step ((go_at_call 57; with_reducible exact (cl _))))
  refine wpQuiet_nil ?_
  rintro w' ⟨s, rfl⟩
  clear s0 s1 s2 cl
  replace J5 := J5.below s.ok
  replace J6 := J6.below s.ok
  replace B5 := HBstep B5 s.ok
  obtain ⟨v1, hv1⟩ : ∃ v1, v1 = s.to := ⟨_, rfl⟩
  rw [← hv1] at J5 J6 B5 ⊢
  clear hv1 s
  have x0 : v1.cell? ⟨c, 6, none⟩ = some (.slice none 0 0) := J6.cell 6
  have x1 : v1.cell? ⟨c, 7, none⟩ = some (.slice none 0 0) := J6.cell 7
  have x2 : v1.cell? ⟨c, 8, none⟩ = some (.int .i64 0) := J6.cell 8
  have y0 := J6.free 6
  have y1 := J6.free 7
  have y2 := J6.free 8
  have u := ((set_upd v1 c 6 (.slice none 0 0)).trans (set_upd _ c 7 (.slice none 0 0))).trans (set_upd _ c 8 (.int .i64 0))
  have J7 := J5.keep u (by omega) (by omega) (by omega) (fun i hi e => by have := hlt.2.2.2 i hi c e; omega)
  have J8 := J6.turn u S.t S.al (fun _ => 0) (set_block (set_block (set_block J6.blk (show 6 < 15 by decide)) (show 7 < 15 by decide)) (show 8 < 15 by decide))
  have B7 := Upd.below B5 u B5.size hcs
  obtain ⟨z1, hz1⟩ : ∃ z1, z1 = ((v1.setCell ⟨c, 6, none⟩ (.slice none 0 0)).setCell ⟨c, 7, none⟩ (.slice none 0 0)).setCell ⟨c, 8, none⟩ (.int .i64 0) := ⟨_, rfl⟩
  rw [← hz1] at J7 J8 B7
  clear u J5 J6 B5
  have J5 := J7
  have J6 := J8
  have B5 := B7
  clear J7 J8 B7
  go_wp2
  rw [← hz1]
  clear hz1 x0 x1 x2 y0 y1 y2
  rw [rounds_succ]
  obtain ⟨W2, hW2⟩ : ∃ W2, W2 = z1.alloc (.cells #[.slice none 0 0, .slice none 0 0, .int .i64 0] 97) := ⟨_, rfl⟩
  have q0 : W2.cell? ⟨z1.heap.size, 0, none⟩ = some (.slice none 0 0) := by rw [hW2, World.cell?_alloc_at _ _ _ _ rfl]; rfl
  have q1 : W2.cell? ⟨z1.heap.size, 1, none⟩ = some (.slice none 0 0) := by rw [hW2, World.cell?_alloc_at _ _ _ _ rfl]; rfl
  have q2 : W2.cell? ⟨z1.heap.size, 2, none⟩ = some (.int .i64 0) := by rw [hW2, World.cell?_alloc_at _ _ _ _ rfl]; rfl
  have ql : z1.heap.size < W2.heap.size := by rw [hW2]; simp
  have bW : Below z1.heap.size z1 W2 := by rw [hW2]; exact (Below.refl _ _).alloc (Nat.le_refl _) _
  replace J5 := J5.below bW
  replace J6 := J6.below bW
  replace B5 := HBstep B5 bW
  go_wp2_with fail
  rw [← hW2]
  clear hW2 bW
  have s0 : ∀ s : Beyond W2, s.to.cell? ⟨z1.heap.size, 0, none⟩ = some (.slice none 0 0) := fun s => by rw [s.ok.cell ql]; exact q0
  have s1 : ∀ s : Beyond W2, s.to.cell? ⟨z1.heap.size, 1, none⟩ = some (.slice none 0 0) := fun s => by rw [s.ok.cell ql]; exact q1
  have s2 : ∀ s : Beyond W2, s.to.cell? ⟨z1.heap.size, 2, none⟩ = some (.int .i64 0) := fun s => by rw [s.ok.cell ql]; exact q2
  have cl : ∀ s : Beyond W2, Calls Try.prog 57 #[.slice none 0 0] s.to fun e w' => e = .returned (.slice none 0 0) ∧ ∃ s2 : Beyond W2, w' = s2.to := fun s => (clone_nil s.to).mono fun _ _ ⟨h1, h2⟩ => ⟨h1, s, h2.symm⟩
  clear q0 q1 q2 ql
  refine wp_region_quiet_tail (C := fun w' => ∃ s : Beyond W2, w' = s.to) 14 (by kernel_rfl) (by kernel_rfl) ⟨⟨_, (Below.refl _ _).drew⟩, rfl⟩ ?_
  simp only [List.take_succ_cons, List.take_zero, List.drop_succ_cons, List.drop_zero]
  repeat (go_big_quiet_step ((go_at_call 57; with_reducible exact (cl _))))
  refine wpQuiet_nil ?_
  rintro w' ⟨s, rfl⟩
  clear s0 s1 s2 cl
  replace J5 := J5.below s.ok
  replace J6 := J6.below s.ok
  replace B5 := HBstep B5 s.ok
  obtain ⟨v2, hv2⟩ : ∃ v2, v2 = s.to := ⟨_, rfl⟩
  rw [← hv2] at J5 J6 B5 ⊢
  clear hv2 s
  have x0 : v2.cell? ⟨c, 9, none⟩ = some (.slice none 0 0) := J6.cell 9
  have x1 : v2.cell? ⟨c, 10, none⟩ = some (.slice none 0 0) := J6.cell 10
  have x2 : v2.cell? ⟨c, 11, none⟩ = some (.int .i64 0) := J6.cell 11
  have y0 := J6.free 9
  have y1 := J6.free 10
  have y2 := J6.free 11
  have u := ((set_upd v2 c 9 (.slice none 0 0)).trans (set_upd _ c 10 (.slice none 0 0))).trans (set_upd _ c 11 (.int .i64 0))
  have J7 := J5.keep u (by omega) (by omega) (by omega) (fun i hi e => by have := hlt.2.2.2 i hi c e; omega)
  have J8 := J6.turn u S.t S.al (fun _ => 0) (set_block (set_block (set_block J6.blk (show 9 < 15 by decide)) (show 10 < 15 by decide)) (show 11 < 15 by decide))
  have B7 := Upd.below B5 u B5.size hcs
  obtain ⟨z2, hz2⟩ : ∃ z2, z2 = ((v2.setCell ⟨c, 9, none⟩ (.slice none 0 0)).setCell ⟨c, 10, none⟩ (.slice none 0 0)).setCell ⟨c, 11, none⟩ (.int .i64 0) := ⟨_, rfl⟩
  rw [← hz2] at J7 J8 B7
  clear u J5 J6 B5
  have J5 := J7
  have J6 := J8
  have B5 := B7
  clear J7 J8 B7
  go_wp2
  rw [← hz2]
  clear hz2 x0 x1 x2 y0 y1 y2
  rw [rounds_succ]
  obtain ⟨W3, hW3⟩ : ∃ W3, W3 = z2.alloc (.cells #[.slice none 0 0, .slice none 0 0, .int .i64 0] 97) := ⟨_, rfl⟩
  have q0 : W3.cell? ⟨z2.heap.size, 0, none⟩ = some (.slice none 0 0) := by rw [hW3, World.cell?_alloc_at _ _ _ _ rfl]; rfl
  have q1 : W3.cell? ⟨z2.heap.size, 1, none⟩ = some (.slice none 0 0) := by rw [hW3, World.cell?_alloc_at _ _ _ _ rfl]; rfl
  have q2 : W3.cell? ⟨z2.heap.size, 2, none⟩ = some (.int .i64 0) := by rw [hW3, World.cell?_alloc_at _ _ _ _ rfl]; rfl
  have ql : z2.heap.size < W3.heap.size := by rw [hW3]; simp
  have bW : Below z2.heap.size z2 W3 := by rw [hW3]; exact (Below.refl _ _).alloc (Nat.le_refl _) _
  replace J5 := J5.below bW
  replace J6 := J6.below bW
  replace B5 := HBstep B5 bW
  go_wp2_with fail
  rw [← hW3]
  clear hW3 bW
  have s0 : ∀ s : Beyond W3, s.to.cell? ⟨z2.heap.size, 0, none⟩ = some (.slice none 0 0) := fun s => by rw [s.ok.cell ql]; exact q0
  have s1 : ∀ s : Beyond W3, s.to.cell? ⟨z2.heap.size, 1, none⟩ = some (.slice none 0 0) := fun s => by rw [s.ok.cell ql]; exact q1
  have s2 : ∀ s : Beyond W3, s.to.cell? ⟨z2.heap.size, 2, none⟩ = some (.int .i64 0) := fun s => by rw [s.ok.cell ql]; exact q2
  have cl : ∀ s : Beyond W3, Calls Try.prog 57 #[.slice none 0 0] s.to fun e w' => e = .returned (.slice none 0 0) ∧ ∃ s2 : Beyond W3, w' = s2.to := fun s => (clone_nil s.to).mono fun _ _ ⟨h1, h2⟩ => ⟨h1, s, h2.symm⟩
  clear q0 q1 q2 ql
  refine wp_region_quiet_tail (C := fun w' => ∃ s : Beyond W3, w' = s.to) 14 (by kernel_rfl) (by kernel_rfl) ⟨⟨_, (Below.refl _ _).drew⟩, rfl⟩ ?_
  simp only [List.take_succ_cons, List.take_zero, List.drop_succ_cons, List.drop_zero]
  repeat (go_big_quiet_step ((go_at_call 57; with_reducible exact (cl _))))
  refine wpQuiet_nil ?_
  rintro w' ⟨s, rfl⟩
  clear s0 s1 s2 cl
  replace J5 := J5.below s.ok
  replace J6 := J6.below s.ok
  replace B5 := HBstep B5 s.ok
  obtain ⟨v3, hv3⟩ : ∃ v3, v3 = s.to := ⟨_, rfl⟩
  rw [← hv3] at J5 J6 B5 ⊢
  clear hv3 s
  have x0 : v3.cell? ⟨c, 12, none⟩ = some (.slice none 0 0) := J6.cell 12
  have x1 : v3.cell? ⟨c, 13, none⟩ = some (.slice none 0 0) := J6.cell 13
  have x2 : v3.cell? ⟨c, 14, none⟩ = some (.int .i64 0) := J6.cell 14
  have y0 := J6.free 12
  have y1 := J6.free 13
  have y2 := J6.free 14
  have u := ((set_upd v3 c 12 (.slice none 0 0)).trans (set_upd _ c 13 (.slice none 0 0))).trans (set_upd _ c 14 (.int .i64 0))
  have J7 := J5.keep u (by omega) (by omega) (by omega) (fun i hi e => by have := hlt.2.2.2 i hi c e; omega)
  have J8 := J6.turn u S.t S.al (fun _ => 0) (set_block (set_block (set_block J6.blk (show 12 < 15 by decide)) (show 13 < 15 by decide)) (show 14 < 15 by decide))
  have B7 := Upd.below B5 u B5.size hcs
  obtain ⟨z3, hz3⟩ : ∃ z3, z3 = ((v3.setCell ⟨c, 12, none⟩ (.slice none 0 0)).setCell ⟨c, 13, none⟩ (.slice none 0 0)).setCell ⟨c, 14, none⟩ (.int .i64 0) := ⟨_, rfl⟩
  rw [← hz3] at J7 J8 B7
  clear u J5 J6 B5
  have J5 := J7
  have J6 := J8
  have B5 := B7
  clear J7 J8 B7
  go_wp2
  rw [← hz3]
  clear hz3 x0 x1 x2 y0 y1 y2
  rw [rounds_succ]
  go_wp2
  go_ret
  exact ⟨c, g', ks2, p', rfl, hcs, hp, hg, J6, J5, B5⟩
end Go.Proofs.Ytkjbhjmjfacjcaa
