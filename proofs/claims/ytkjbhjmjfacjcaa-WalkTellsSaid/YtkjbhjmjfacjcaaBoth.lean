/- Both memories behind some steps, of the law's own: they hold the same bytes; no condition but the steps' cells. -/
import Derived.Test.YtkjbhjmjfacjcaaRefWalk2
import Derived.Test.YtkjbhjmjfacjcaaLaid
namespace Go.Proofs.Ytkjbhjmjfacjcaa
open Go.RowKit Go.BigFrame
set_option linter.unusedSimpArgs false
set_option linter.unusedVariables false
set_option maxRecDepth 100000

theorem low4 : ∀ x : Fin 256, bits .and .i64 (x.1 : Int) 15 = ((x.1 % 16 : Nat) : Int) := by decide +kernel
/-- What a slice of steps holds. -/
def Steps11 (w : World) (a : Option Addr) (n : Nat) : Prop := 0 < n → ∃ (b o : Nat) (L : Nat → Bool) (R Lo Pg : Nat → Int) (E A : Nat → BitVec 64), a = some ⟨b, o, none⟩ ∧ b < w.heap.size ∧ ∀ j, j < n →
  w.cell? ⟨b, o + j * 6, none⟩ = some (.bool (L j)) ∧ w.cell? ⟨b, o + j * 6 + 1, none⟩ = some (.int .i64 (R j)) ∧ w.cell? ⟨b, o + j * 6 + 2, none⟩ = some (.int .i64 (Lo j)) ∧ w.cell? ⟨b, o + j * 6 + 3, none⟩ = some (.int .i64 (Pg j)) ∧
  w.cell? ⟨b, o + j * 6 + 4, none⟩ = some (U (E j)) ∧ w.cell? ⟨b, o + j * 6 + 5, none⟩ = some (U (A j))
/-- Two memories with the same bytes. -/
structure Twin (w W : World) (p g q h : Nat) (f : Nat → UInt8) : Prop where
  m : IsMem W p g 88 f
  r : IsMem W q h 85 f
  hb : Below w.heap.size w W
theorem Twin.below {w W W' : World} {p g q h : Nat} {f : Nat → UInt8} (t : Twin w W p g q h f) (b : Below W.heap.size W W') : Twin w W' p g q h f := ⟨t.m.below b, t.r.below b, HBstep t.hb b⟩
structure Apart4 (w : World) (p g q h : Nat) : Prop where
  pg : w.heap.size ≤ g
  qh : w.heap.size ≤ h
  n1 : p ≠ h
  n2 : g ≠ h
  n3 : q ≠ g
set_option maxHeartbeats 4000000 in
theorem both_any (a : Option Addr) (n c : Nat) (w : World) (hS : Steps11 w a n) (hn : n ≤ 30) :
    Calls Try.prog 15 #[.slice a n c] w fun e w' => ∃ p g q h f, e = .returned (.tuple #[.pointer (some ⟨p, 0, none⟩), .pointer (some ⟨q, 0, none⟩), .bool true]) ∧ Twin w w' p g q h f := by
  have HS := Lib.hid hS
  clear hS
  go_enter Try.func15, Try.ntmps15
  go_wp2_with fail
  refine (new_all _).mono ?_
  rintro e w1 ⟨p, g, rfl, hp, hg, hpl, hgl, M, hb⟩
  go_wp2_with fail
  refine (rnew_all _).mono ?_
  rintro e w2 ⟨q, h, rfl, hq, hh, hql, hhl, N, hb2⟩
  have AP := Lib.hid (show Apart4 w p g q h from ⟨by omega, by have := hb.size; omega, by omega, by omega, by omega⟩)
  have TW := Lib.hid (show Twin w w2 p g q h _ from ⟨M.below hb2, N, HBstep hb hb2⟩)
  clear hp hg hpl hgl M hb hq hh hql hhl N hb2
  go_wp2_with fail
  go_loopw [7] (fun i wr => ∃ m : Nat, m ≤ n ∧ i = .int .i64 m ∧ ∃ f, Twin w wr p g q h f) (fun i _ => n - (intOf i).toNat)
  case atStart => exact ⟨0, by omega, rfl, _, TW.out⟩
  case round =>
    clear TW
    obtain ⟨m, hm, rfl, f, TW⟩ := hrel
    by_cases hmn : m < n
    · obtain ⟨b, o, L, R, Lo, Pg, E, A, rfl, hb, hc⟩ := HS.out (by omega)
      obtain ⟨c0, c1, c2, c3, c4, c5⟩ := hc m hmn
      clear hc
      rw [← TW.hb.cell (p := ⟨b, o + m * 6, none⟩) hb] at c0
      rw [← TW.hb.cell (p := ⟨b, o + m * 6 + 1, none⟩) hb] at c1
      rw [← TW.hb.cell (p := ⟨b, o + m * 6 + 2, none⟩) hb] at c2
      rw [← TW.hb.cell (p := ⟨b, o + m * 6 + 3, none⟩) hb] at c3
      rw [← TW.hb.cell (p := ⟨b, o + m * 6 + 4, none⟩) hb] at c4
      rw [← TW.hb.cell (p := ⟨b, o + m * 6 + 5, none⟩) hb] at c5
      have TW := Lib.hid TW
      generalize L m = l at *
      generalize R m = r at *
      generalize Lo m = lo at *
      generalize Pg m = pg at *
      generalize E m = ee at *
      generalize A m = aa at *
      clear hb
      cases l
      · go_wp2_with fail
        have TW2 := TW.out.below ((Below.refl _ _).alloc (Nat.le_refl _) (.cells #[.bool false, .int .i64 r, .int .i64 lo, .int .i64 pg, U ee, U aa] 78))
        have s4 : (wr.alloc (.cells #[.bool false, .int .i64 r, .int .i64 lo, .int .i64 pg, U ee, U aa] 78)).heap[wr.heap.size]? = _ := (MapKept.heap_alloc wr _).1
        have hl : wr.heap.size < (wr.alloc (.cells #[.bool false, .int .i64 r, .int .i64 lo, .int .i64 pg, U ee, U aa] 78)).heap.size := by simp
        generalize wr.alloc (.cells #[.bool false, .int .i64 r, .int .i64 lo, .int .i64 pg, U ee, U aa] 78) = W at s4 hl TW2 ⊢
        obtain ⟨k, hk⟩ : ∃ k, k = wr.heap.size := ⟨_, rfl⟩
        have hwk : k ≠ g ∧ k ≠ h := by
          have := TW.out.m.g_lt
          have := TW.out.r.g_lt
          omega
        rw [← hk] at s4 hl ⊢
        clear hk TW c0 c1 c2 c3 c4 c5
        have S4 := Lib.hid s4
        have e4 := cell_at s4 4 rfl
        have e5 := cell_at s4 5 rfl
        clear s4
        have hl := Lib.hid hl
        have hwk := Lib.hid hwk
        (with_reducible refine (rcode_any aa 8 W TW2.r).mono ?_)
        rintro e w5 ⟨rfl, rfl⟩
        obtain ⟨cd, hcd⟩ : ∃ cd, cd = codeOf aa 8 := ⟨_, rfl⟩
        have cz : (cd == 0) = decide (cd = 0) := by rw [Bool.beq_eq_decide_eq]
        rw [← hcd]
        by_cases hz : cd = 0
        · have TW2 := Lib.hid TW2
          subst hz
          clear cz
          go_wp2_with fail
          have key := write_all aa 8 ee W TW2.out.m
          rw [← hcd] at key
          (with_reducible refine key.mono ?_)
          clear key
          rintro e w6 ⟨rfl, hu, M6⟩
          have N6 := TW2.out.r.upd hu AP.out.n3 (fun e => AP.out.n2 e.symm)
          have HB6 := Upd.below TW2.out.hb hu TW2.out.hb.size AP.out.pg
          have S6 := Lib.hid ((hu.block k hl.out hwk.out.1).trans S4.out)
          clear hu
          have e4 := cell_at S6.out 4 rfl
          have e5 := cell_at S6.out 5 rfl
          have M6 := Lib.hid M6
          have N6 := Lib.hid N6
          have HB6 := Lib.hid HB6
          go_wp2_with fail
          have key := rwrite_any aa 8 ee w6 N6.out hcd.symm
          rw [show ((8 : Nat) : Int) = 8 from rfl] at key
          (with_reducible refine key.mono ?_)
          clear key
          rintro e w7 ⟨rfl, hu, N7⟩
          have hw : wrF f aa 8 ee = putF f aa.toNat (bytesL ee 8) := by unfold wrF; rw [if_pos hcd.symm]; rfl
          rw [hw] at M6
          have T7 : Twin w w7 p g q h (putF f aa.toNat (bytesL ee 8)) := ⟨M6.out.upd hu AP.out.n1 AP.out.n2, N7, Upd.below HB6.out hu HB6.out.size AP.out.qh⟩
          have T7 := Lib.hid T7
          clear hu N7
          go_wp2
          go_roundw
          case rel => exact ⟨m + 1, by omega, by go_num, _, T7.out⟩
          case measure => simp [intOf]; omega
        · rw [decide_eq_false hz] at cz
          have TW2 := Lib.hid TW2
          go_wp2
          go_roundw
          case rel => exact ⟨m + 1, by omega, by go_num, _, TW2.out⟩
          case measure => simp [intOf]; omega
      · by_cases hok : 0 ≤ r ∧ r < 128 ∧ 0 ≤ lo ∧ lo < 128
        · obtain ⟨r, rfl⟩ : ∃ x : Nat, r = (x : Int) := ⟨r.toNat, by omega⟩
          obtain ⟨lo, rfl⟩ : ∃ x : Nat, lo = (x : Int) := ⟨lo.toNat, by omega⟩
          have hr2 : r < 128 := by omega
          have hlo2 : lo < 128 := by omega
          clear hok
          obtain ⟨kk, hkk, hk1, hk2⟩ : ∃ kk : Nat, kk < 256 ∧ (if 255 < (if pg < 0 then 0 else pg) then 255 else (if pg < 0 then 0 else pg)) = (kk : Int) ∧ (if (0 : Int) < (if 255 < pg then 255 else pg) then (if 255 < pg then 255 else pg) else 0) = (kk : Int) := by
            refine ⟨(if 255 < (if pg < 0 then 0 else pg) then 255 else (if pg < 0 then 0 else pg)).toNat, ?_, ?_, ?_⟩ <;> (repeat' split) <;> omega
          have mn := fun W => min_run (P := Try.prog) #[3, 3] 3 .i64 pg 255 _ rfl W
          have mx := fun W => max_run (P := Try.prog) #[3, 3] 3 .i64 0 (if 255 < pg then 255 else pg) _ hk2 W
          generalize (if 255 < pg then 255 else pg) = pp at *
          have K1 := Lib.hid (fun W M => plays_in (p := p) (g := g) (f := f) r lo kk pg ee W M hr2 hlo2 hkk hk1)
          clear hk1 hk2
          have a15 : bits .and .i64 (kk : Int) 15 = (kk : Int) % 16 := low4 ⟨kk, hkk⟩
          have x1 : IntKind.u64.wrap ((lo : Int) * 256 + 8 * ((kk : Int) % 16)) = (lo : Int) * 256 + 8 * ((kk : Int) % 16) := IntWalk.u64_in _ ⟨by omega, by omega⟩
          have x2 : IntKind.u64.wrap ((r : Int) * 256 + 8 * ((kk : Int) / 16)) = (r : Int) * 256 + 8 * ((kk : Int) / 16) := IntWalk.u64_in _ ⟨by omega, by omega⟩
          have E1 := Lib.hid (show ((lo * 256 + kk % 16 * 8 : Nat) : Int) = (lo : Int) * 256 + 8 * ((kk : Int) % 16) by omega)
          have E2 := Lib.hid (show ((r * 256 + kk / 16 * 8 : Nat) : Int) = (r : Int) * 256 + 8 * ((kk : Int) / 16) by omega)
          have U1 := Lib.hid (U_of (lo * 256 + kk % 16 * 8) (by omega))
          have U2 := Lib.hid (U_of (r * 256 + kk / 16 * 8) (by omega))
          have C1 := Lib.hid (code_in (lo * 256 + kk % 16 * 8) 8 (by omega) (by omega) (by omega))
          have C2 := Lib.hid (code_in (r * 256 + kk / 16 * 8) 8 (by omega) (by omega) (by omega))
          have N1 := Lib.hid (ofNat_toNat (lo * 256 + kk % 16 * 8) (by omega))
          have N2 := Lib.hid (ofNat_toNat (r * 256 + kk / 16 * 8) (by omega))
          have RM := Lib.hid (show Gives Try.prog 21 #[.int .i64 (lo : Int), .int .i64 1] (U (mkB lo 1)) from rmake_b lo 1 (by omega) (by omega))
          go_wp2_with fail
          have TW2 := TW.out.below ((Below.refl _ _).alloc (Nat.le_refl _) (.cells #[.bool true, .int .i64 (r : Int), .int .i64 (lo : Int), .int .i64 pg, U ee, U aa] 78))
          have s4 : (wr.alloc (.cells #[.bool true, .int .i64 (r : Int), .int .i64 (lo : Int), .int .i64 pg, U ee, U aa] 78)).heap[wr.heap.size]? = _ := (MapKept.heap_alloc wr _).1
          have hl : wr.heap.size < (wr.alloc (.cells #[.bool true, .int .i64 (r : Int), .int .i64 (lo : Int), .int .i64 pg, U ee, U aa] 78)).heap.size := by simp
          generalize wr.alloc (.cells #[.bool true, .int .i64 (r : Int), .int .i64 (lo : Int), .int .i64 pg, U ee, U aa] 78) = W at s4 hl TW2 ⊢
          obtain ⟨k, hk⟩ : ∃ k, k = wr.heap.size := ⟨_, rfl⟩
          have hwk : k ≠ g ∧ k ≠ h := by
            have := TW.out.m.g_lt
            have := TW.out.r.g_lt
            omega
          rw [← hk] at s4 hl ⊢
          clear hk TW c0 c1 c2 c3 c4 c5
          have S4 := Lib.hid s4
          have e2 := cell_at s4 2 rfl
          have e1 := cell_at s4 1 rfl
          have e3 := cell_at s4 3 rfl
          have e4 := cell_at s4 4 rfl
          clear s4
          have hl := Lib.hid hl
          have hwk := Lib.hid hwk
          have TW2 := Lib.hid TW2
          (with_reducible refine (K1.out W TW2.out.m).mono ?_)
          rintro e w6 ⟨rfl, hu, M6⟩
          have N6 := TW2.out.r.upd hu AP.out.n3 (fun e => AP.out.n2 e.symm)
          have HB6 := Upd.below TW2.out.hb hu TW2.out.hb.size AP.out.pg
          have S6 := Lib.hid ((hu.block k hl.out hwk.out.1).trans S4.out)
          have hl6 : k < w6.heap.size := blk_lt S6.out
          have hl6 := Lib.hid hl6
          clear hu K1 e1 e2 e3 e4 S4 hl TW2
          have e2 := cell_at S6.out 2 rfl
          have e1 := cell_at S6.out 1 rfl
          have e3 := cell_at S6.out 3 rfl
          have e4 := cell_at S6.out 4 rfl
          have M6 := Lib.hid M6
          have N6 := Lib.hid N6
          have HB6 := Lib.hid HB6
          go_wp2_with fail
          have key := rwrite_any (BitVec.ofNat 64 (lo * 256 + kk % 16 * 8)) 8 ee w6 N6.out C1.out
          rw [show ((8 : Nat) : Int) = 8 from rfl, U1.out, N1.out, E1.out] at key
          (with_reducible refine key.mono ?_)
          clear key
          rintro e w7 ⟨rfl, hu, N7⟩
          have M7 := M6.out.upd hu AP.out.n1 AP.out.n2
          have HB7 := Upd.below HB6.out hu HB6.out.size AP.out.qh
          have S7 := (hu.block k hl6.out hwk.out.2).trans S6.out
          have hl7 : k < w7.heap.size := blk_lt S7
          clear hu e1 e2 e3 e4 S6 hl6 N6 M6 HB6
          have f2 : ∀ s : Beyond w7, s.to.cell? ⟨k, 2, none⟩ = some (.int .i64 (lo : Int)) := fun s => cell_at ((s.ok.block k hl7).trans S7) 2 rfl
          have f1 : ∀ s : Beyond w7, s.to.cell? ⟨k, 1, none⟩ = some (.int .i64 (r : Int)) := fun s => cell_at ((s.ok.block k hl7).trans S7) 1 rfl
          have M7 := Lib.hid M7
          have N7 := Lib.hid N7
          have HB7 := Lib.hid HB7
          have hl7 := Lib.hid hl7
          have S7 := Lib.hid S7
          go_wp2_with fail
          refine wp_region_quiet_tail (C := fun w' => ∃ s : Beyond w7, w' = s.to) 12 (by kernel_rfl) (by kernel_rfl) ⟨⟨_, (Below.refl _ _).drew⟩, rfl⟩ ?_
          simp only [List.take_succ_cons, List.take_zero, List.drop_succ_cons, List.drop_zero]
          repeat (go_big_quiet_step ((go_at_call 21; with_reducible exact (RM.out.at_ _))))
          refine wpQuiet_nil ?_
          rintro w' ⟨s, rfl⟩
          go_wp2_with fail
          have key := rwrite_any (BitVec.ofNat 64 (r * 256 + kk / 16 * 8)) 8 (mkB lo 1) s.to (N7.out.below s.ok) C2.out
          rw [show ((8 : Nat) : Int) = 8 from rfl, U2.out, N2.out, E2.out] at key
          (with_reducible refine key.mono ?_)
          clear key
          rintro e w8 ⟨rfl, hu, N8⟩
          have HB7s := HBstep HB7.out s.ok
          have T8 : Twin w w8 p g q h (layV f r lo kk ee) := ⟨(M7.out.below s.ok).upd hu AP.out.n1 AP.out.n2, N8, Upd.below HB7s hu HB7s.size AP.out.qh⟩
          have T8 := Lib.hid T8
          clear hu N8 HB7s
          go_wp2
          go_roundw
          case rel => exact ⟨m + 1, by omega, by go_num, _, T8.out⟩
          case measure => simp [intOf]; omega
        · have KN := Lib.hid (fun W => plays_no (.pointer (some ⟨p, 0, none⟩)) r lo pg (U ee) W (by omega) _ rfl)
          have D : decide (0 ≤ r) = false ∨ (decide (0 ≤ r) = true ∧ decide (r < 128) = false) ∨ (decide (0 ≤ r) = true ∧ decide (r < 128) = true ∧ decide (0 ≤ lo) = false) ∨ (decide (0 ≤ r) = true ∧ decide (r < 128) = true ∧ decide (0 ≤ lo) = true ∧ decide (lo < 128) = false) := by
            simp only [decide_eq_false_iff_not, decide_eq_true_eq]
            omega
          clear hok
          rcases D with d1 | ⟨d1, d2⟩ | ⟨d1, d2, d3⟩ | ⟨d1, d2, d3, d4⟩
          all_goals (
            go_wp2_with fail
            have TW2 := TW.out.below ((Below.refl _ _).alloc (Nat.le_refl _) (.cells #[.bool true, .int .i64 r, .int .i64 lo, .int .i64 pg, U ee, U aa] 78))
            generalize wr.alloc (.cells #[.bool true, .int .i64 r, .int .i64 lo, .int .i64 pg, U ee, U aa] 78) = W at TW2 ⊢
            have TW2 := Lib.hid TW2
            clear TW
            (with_reducible refine (KN.out W).mono ?_)
            rintro e w6 ⟨rfl, rfl⟩
            go_wp2
            go_roundw
            case rel => exact ⟨m + 1, by omega, by go_num, _, TW2.out⟩
            case measure => simp [intOf]; omega)
    · go_wp2
      go_ret3
      exact ⟨p, g, q, h, f, rfl, TW⟩
end Go.Proofs.Ytkjbhjmjfacjcaa
