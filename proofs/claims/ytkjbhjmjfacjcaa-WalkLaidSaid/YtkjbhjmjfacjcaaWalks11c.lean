/- The walk of WalkLaid. UNDER WAY: the first loop's round is walked; what is open bears 'sorry'. -/
import Derived.Test.YtkjbhjmjfacjcaaKnown11
import Derived.Test.YtkjbhjmjfacjcaaPlainLaid
import Derived.Test.YtkjbhjmjfacjcaaBusA
namespace Go.Proofs.Ytkjbhjmjfacjcaa
open Go.RowKit Go.BigFrame
set_option linter.unusedSimpArgs false
set_option linter.unusedVariables false
set_option maxRecDepth 100000

/-- The row of what is wanted. -/
def wantL (wv : Nat → BitVec 64) : Array Value := ((List.range 256).map fun q => U (wv q)).toArray
theorem wantL_size (wv : Nat → BitVec 64) : (wantL wv).size = 256 := by unfold wantL; simp
theorem wantL_get (wv : Nat → BitVec 64) (q : Nat) (h : q < 256) : (wantL wv)[q]? = some (U (wv q)) := by unfold wantL; simp [h]
theorem wantL_set (wv : Nat → BitVec 64) (q : Nat) (h : q < 256) (e : BitVec 64) : (wantL wv).set! q (U e) = wantL (updW wv q e) := by
  apply Array.ext_getElem?
  intro i
  by_cases c : i < 256
  · rw [wantL_get _ _ c]
    unfold updW
    by_cases d : i = q
    · subst d
      rw [if_pos rfl]
      simp [wantL_size, c]
    · rw [if_neg d]
      simp only [Array.set!_eq_setIfInBounds]
      rw [Array.getElem?_setIfInBounds_ne (fun e => d e.symm), wantL_get _ _ c]
  · rw [Array.getElem?_eq_none (by simp [wantL_size]; omega), Array.getElem?_eq_none (by rw [wantL_size]; omega)]
theorem laid_short (v0 v1 : Value) (a0 a1 : Option Addr) (n0 n1 c0 c1 : Nat) (w : World) (h : 20 < n0 ∨ n0 ≤ 20 ∧ n1 < n0) :
    Calls Try.prog 4 #[.slice a0 n0 c0, .slice a1 n1 c1] w fun e w' => e = .returned (.bool true) ∧ Below w.heap.size w w' := by
  rcases h with h | ⟨h1, h⟩
  all_goals (
    go_enter Try.func4, Try.ntmps4
    go_wp2_with fail
    (with_reducible refine (known11_b.run _).mono ?_)
    rintro e w1 ⟨rfl, HB0⟩
    go_wp2
    go_ret
    exact ⟨rfl, HB0⟩)
set_option maxHeartbeats 2000000 in
theorem laid1 (b0 o0 b1 o1 n0 n1 c0 c1 : Nat) (P F : Nat → Nat) (w : World) (h0 : n0 ≤ 20) (h1 : n0 ≤ n1) (hP : ∀ j, j < n0 → P j < 256) (hF : ∀ j, j < n0 → F j < 256)
    (hb0 : b0 < w.heap.size) (hb1 : b1 < w.heap.size)
    (q0 : ∀ j, j < n0 → w.cell? ⟨b0, o0 + j, none⟩ = some (.int .u8 (P j : Int))) (q1 : ∀ j, j < n0 → w.cell? ⟨b1, o1 + j, none⟩ = some (.int .u8 (F j : Int))) :
    Calls Try.prog 4 #[.slice (some ⟨b0, o0, none⟩) n0 c0, .slice (some ⟨b1, o1, none⟩) n1 c1] w fun e w' => e = .returned (.bool true) ∧ Below w.heap.size w w' := by
  have Q0 := Lib.hid q0
  have Q1 := Lib.hid q1
  clear q0 q1
  go_enter Try.func4, Try.ntmps4
  go_wp2_with fail
  (with_reducible refine (known11_b.run _).mono ?_)
  rintro e w1 ⟨rfl, HB⟩
  go_wp2_with fail
  refine (new_all _).mono ?_
  rintro e w2 ⟨p, g, rfl, hp, hg, hpl, hgl, M, hb⟩
  have zr : Try.zeroCells42 = wantL (fun _ => 0#64) := by kernel_rfl
  go_wp2_with fail
  have hw3 : (w2.alloc (.cells (wantL fun _ => 0#64) 42)).heap[w2.heap.size]? = some (.cells (wantL fun _ => 0#64) 42 (0, 0)) := (MapKept.heap_alloc _ _).1
  have hb3 : Below w2.heap.size w2 (w2.alloc (.cells (wantL fun _ => 0#64) 42)) := (Below.refl _ _).alloc (Nat.le_refl _) _
  have hg1 : w1.heap.size ≤ g := hg
  have hs1 := HB.size
  have hs2 := hb.size
  have HB3 := HBstep (HBstep HB hb) hb3
  replace M := M.below hb3
  obtain ⟨hh, hhh⟩ : ∃ hh, hh = w2.heap.size := ⟨_, rfl⟩
  obtain ⟨w3, hw3e⟩ : ∃ w3, w3 = w2.alloc (.cells (wantL fun _ => 0#64) 42) := ⟨_, rfl⟩
  have hhp : hh ≠ p ∧ hh ≠ g := ⟨by omega, by omega⟩
  have hhw : w.heap.size ≤ hh := by omega
  rw [← hw3e] at HB3 M hw3 ⊢
  rw [← hhh] at hw3 ⊢
  clear hw3e hb3 hb zr HB hhh
  go_loopw [7] (fun i wr => ∃ m : Nat, m ≤ n0 ∧ i = .int .i64 m ∧ Below w.heap.size w wr ∧ ∃ f wv, IsMem wr p g 88 f ∧ LaidAs f wv ∧ wr.heap[hh]? = some (.cells (wantL wv) 42 (0, 0))) (fun i _ => n0 - (intOf i).toNat)
  case atStart => exact ⟨0, by omega, rfl, HB3, _, _, M, laid_zero, hw3⟩
  case round =>
    clear HB3 M hw3
    obtain ⟨m, hm, rfl, HB, f, wv, M, HL, hwv⟩ := hrel
    by_cases hmn : m < n0
    · obtain ⟨q, hq⟩ : ∃ q, q = P m := ⟨_, rfl⟩
      obtain ⟨x, hx⟩ : ∃ x, x = F m := ⟨_, rfl⟩
      have hq2 : q < 256 := by rw [hq]; exact hP m hmn
      have hx2 : x < 256 := by rw [hx]; exact hF m hmn
      have r0 : wr.cell? ⟨b0, o0 + m, none⟩ = some (.int .u8 (q : Int)) := by rw [HB.cell (p := ⟨b0, o0 + m, none⟩) hb0, Q0.out m hmn, hq]
      have r1 : wr.cell? ⟨b1, o1 + m, none⟩ = some (.int .u8 (x : Int)) := by rw [HB.cell (p := ⟨b1, o1 + m, none⟩) hb1, Q1.out m hmn, hx]
      have mn : m < n1 := by omega
      have rm : Gives Try.prog 21 #[.int .i64 ((x : Int) % 128), .int .i64 223] (U (mkB (x % 128) 223)) := by
        have := rmake_b (x % 128) 223 (by omega) (by omega)
        rw [show ((x % 128 : Nat) : Int) = (x : Int) % 128 by omega] at this
        exact this
      have RM := Lib.hid rm
      clear rm hq hx
      go_wp2_with fail
      (with_reducible refine (RM.out.run _).mono ?_)
      rintro e w5 ⟨rfl, hb⟩
      replace HB := HBstep HB hb
      replace M := M.below hb
      have hhl := blk_lt hwv
      have hwv5 : w5.heap[hh]? = some (.cells (wantL wv) 42 (0, 0)) := by rw [hb.block hh hhl]; exact hwv
      have r05 : w5.cell? ⟨b0, o0 + m, none⟩ = some (.int .u8 (q : Int)) := (hb.cell (p := ⟨b0, o0 + m, none⟩) (World.block_lt_of_cell? _ _ r0)).trans r0
      have hb05 : b0 < w5.heap.size := by have := HB.size; omega
      clear hb hwv r0 r1
      have rs : ∀ s : Beyond w5, s.to.cell? ⟨b0, o0 + m, none⟩ = some (.int .u8 (q : Int)) := fun s => by rw [s.ok.cell (p := ⟨b0, o0 + m, none⟩) hb05]; exact r05
      have KL := Lib.hid (show ∀ s : Beyond w5, Calls Try.prog 22 #[.pointer (some ⟨p, 0, none⟩), .int .i64 1, .int .i64 (2 + (q : Int) / 16), .int .i64 (q : Int), U (mkB (x % 128) 223)] s.to fun e w' => e = .returned (.int .i64 0) ∧ Upd s.to w' g ∧ IsMem w' p g 88 (layV f 1 (2 + q / 16) q (mkB (x % 128) 223)) from fun s => by
        have key := plays_in 1 (2 + q / 16) q (q : Int) (mkB (x % 128) 223) s.to (M.below s.ok) (by omega) (by omega) hq2 (by rw [if_neg (by omega), if_neg (by omega)])
        rw [show ((2 + q / 16 : Nat) : Int) = 2 + (q : Int) / 16 by omega] at key
        exact key)
      go_wp2_with fail
      refine wp_region_quiet_tail (C := fun w' => ∃ s : Beyond w5, w' = s.to) 14 (by kernel_rfl) (by kernel_rfl) ⟨⟨_, (Below.refl _ _).drew⟩, rfl⟩ ?_
      simp only [List.take_succ_cons, List.take_zero, List.drop_succ_cons, List.drop_zero]
      repeat (go_big_quiet_step (fail))
      refine wpQuiet_nil ?_
      rintro w' ⟨s, rfl⟩
      have hhl5 := blk_lt hwv5
      go_wp2_with fail
      (with_reducible refine (KL.out s).mono ?_)
      rintro e w6 ⟨rfl, hu, M6⟩
      have hsz := s.ok.size
      have HB5 := HBstep HB s.ok
      have HB6 := Upd.below HB5 hu HB5.size (by omega)
      have g1 : w6.heap[hh]? = some (.cells (wantL wv) 42 (0, 0)) := by rw [hu.block hh (by omega) hhp.2, s.ok.block hh hhl5]; exact hwv5
      have r06 : w6.cell? ⟨b0, o0 + m, none⟩ = some (.int .u8 (q : Int)) := (World.cell?_of_block (a := ⟨b0, o0 + m, none⟩) (hu.block b0 (by omega) (by omega))).trans (rs s)
      have t0 : w6.cell? ⟨hh, q, none⟩ = some (U (wv q)) := by simp [World.cell?, g1, wantL_get _ _ hq2]
      have t1 : w6.frozen? ⟨hh, q, none⟩ = false := by simp [World.frozen?, g1]
      have u7 := set_upd w6 hh q (U (mkB (x % 128) 223))
      have HB7 := Upd.below HB6 u7 HB6.size hhw
      have M7 := M6.upd u7 (Ne.symm hhp.1) (Ne.symm hhp.2)
      have g7 := set_block (v := U (mkB (x % 128) 223)) g1 (show q < (wantL wv).size by rw [wantL_size]; exact hq2)
      rw [wantL_set _ _ hq2] at g7
      have RES := Lib.hid (And.intro HB7 (And.intro M7 (And.intro (laid_step HL q (x % 128) hq2 (by omega)) g7)))
      clear hu u7 HB7 M7 g7 HB5 HB6 g1 M6 rs
      go_wp2
      go_roundw
      case rel => exact ⟨m + 1, by omega, by go_num, RES.out.1, _, _, RES.out.2.1, RES.out.2.2.1, RES.out.2.2.2⟩
      case measure => simp [intOf]; omega
    · clear Q0 Q1
      go_wp2_with fail
      go_loopw [9, 10, 11] (fun i _ _ wr => ∃ j : Nat, j ≤ 258 ∧ i = .int .i64 j ∧ Below w.heap.size w wr ∧ IsMem wr p g 88 f ∧ wr.heap[hh]? = some (.cells (wantL wv) 42 (0, 0))) (fun i _ _ _ => 258 - (intOf i).toNat)
      case atStart => exact ⟨0, by omega, rfl, HB, M, hwv⟩
      case round =>
        clear HB M hwv
        obtain ⟨j, hj, rfl, HB, M, hwv⟩ := hrel
        by_cases hj6 : j < 256
        · have g1 : IntKind.u64.wrap ((j : Int) * 256 + 17) = (j : Int) * 256 + 17 := IntWalk.u64_in _ ⟨by omega, by omega⟩
          have UI := Lib.hid (show U (BitVec.ofNat 64 (j * 256 + 17)) = .int .u64 ((j : Int) * 256 + 17) by rw [U_of _ (by omega)]; congr 1)
          have LW := laid_walk HL j 17 hj6 (by omega)
          have hhl := blk_lt hwv
          obtain ⟨y, hy⟩ : ∃ y, y = wv j := ⟨_, rfl⟩
          rw [← hy] at LW
          have ty : ∀ w' : World, w'.heap[hh]? = some (.cells (wantL wv) 42 (0, 0)) → w'.cell? ⟨hh, j, none⟩ = some (U y) := fun w' h => by rw [hy]; simp [World.cell?, h, wantL_get _ _ hj6]
          have TY := Lib.hid ty
          by_cases hz : y = 0#64
          · rw [if_pos hz] at LW
            have LW := Lib.hid LW
            have ny : ((y.toNat : Int) != 0) = false := by rw [hz]; rfl
            have my : ((0 : Int) != (y.toNat : Int)) = false := by rw [hz]; rfl
            clear ty hz hy
            go_wp2_with fail
            have key := walk_all 1 (BitVec.ofNat 64 (j * 256 + 17)) _ M
            rw [LW.out, UI.out] at key
            (with_reducible refine key.mono ?_)
            clear key
            rintro e w5 ⟨rfl, hb⟩
            replace HB := HBstep HB hb
            replace M := M.below hb
            replace hwv := (hb.block hh hhl).trans hwv
            clear hb
            have tq := TY.out w5 hwv
            go_wp2
            go_roundw
            case rel => exact ⟨j + 3, by omega, by go_num, HB, M, hwv⟩
            case measure => simp [intOf]; omega
          · rw [if_neg hz] at LW
            have LW := Lib.hid LW
            have ny : ((y.toNat : Int) != 0) = true := by
              rw [bne_iff_ne]; intro e; exact hz (BitVec.eq_of_toNat_eq (by simp; omega))
            clear ty hz hy
            go_wp2_with fail
            have key := walk_all 1 (BitVec.ofNat 64 (j * 256 + 17)) _ M
            rw [LW.out, UI.out] at key
            (with_reducible refine key.mono ?_)
            clear key
            rintro e w5 ⟨rfl, hb⟩
            replace HB := HBstep HB hb
            replace M := M.below hb
            replace hwv := (hb.block hh hhl).trans hwv
            clear hb
            have tq := TY.out w5 hwv
            go_wp2
            go_roundw
            case rel => exact ⟨j + 3, by omega, by go_num, HB, M, hwv⟩
            case measure => simp [intOf]; omega
        · go_wp2_with fail
          have key : Calls Try.prog 16 #[.pointer (some ⟨p, 0, none⟩), .int .i64 1, .int .u64 65536] _ _ := walk_all 1 65536#64 _ M
          rw [laid_far] at key
          (with_reducible refine key.mono ?_)
          clear key
          rintro e w5 ⟨rfl, hb⟩
          replace HB := HBstep HB hb
          go_wp2
          go_ret
          exact ⟨rfl, HB⟩
set_option maxHeartbeats 2000000 in
theorem laid0 (a0 a1 : Option Addr) (n1 c0 c1 : Nat) (w : World) :
    Calls Try.prog 4 #[.slice a0 0 c0, .slice a1 n1 c1] w fun e w' => e = .returned (.bool true) ∧ Below w.heap.size w w' := by
  go_enter Try.func4, Try.ntmps4
  go_wp2_with fail
  (with_reducible refine (known11_b.run _).mono ?_)
  rintro e w1 ⟨rfl, HB⟩
  go_wp2_with fail
  refine (new_all _).mono ?_
  rintro e w2 ⟨p, g, rfl, hp, hg, hpl, hgl, M, hb⟩
  have zr : Try.zeroCells42 = wantL (fun _ => 0#64) := by kernel_rfl
  go_wp2_with fail
  have hw3 : (w2.alloc (.cells (wantL fun _ => 0#64) 42)).heap[w2.heap.size]? = some (.cells (wantL fun _ => 0#64) 42 (0, 0)) := (MapKept.heap_alloc _ _).1
  have hb3 : Below w2.heap.size w2 (w2.alloc (.cells (wantL fun _ => 0#64) 42)) := (Below.refl _ _).alloc (Nat.le_refl _) _
  have hg1 : w1.heap.size ≤ g := hg
  have hs1 := HB.size
  have hs2 := hb.size
  have HB3 := HBstep (HBstep HB hb) hb3
  replace M := M.below hb3
  obtain ⟨hh, hhh⟩ : ∃ hh, hh = w2.heap.size := ⟨_, rfl⟩
  obtain ⟨w3, hw3e⟩ : ∃ w3, w3 = w2.alloc (.cells (wantL fun _ => 0#64) 42) := ⟨_, rfl⟩
  have hhp : hh ≠ p ∧ hh ≠ g := ⟨by omega, by omega⟩
  have hhw : w.heap.size ≤ hh := by omega
  rw [← hw3e] at HB3 M hw3 ⊢
  rw [← hhh] at hw3 ⊢
  clear hw3e hb3 hb zr HB hhh
  go_loopw [7] (fun i wr => ∃ m : Nat, m ≤ 0 ∧ i = .int .i64 m ∧ Below w.heap.size w wr ∧ ∃ f wv, IsMem wr p g 88 f ∧ LaidAs f wv ∧ wr.heap[hh]? = some (.cells (wantL wv) 42 (0, 0))) (fun i _ => 0 - (intOf i).toNat)
  case atStart => exact ⟨0, by omega, rfl, HB3, _, _, M, laid_zero, hw3⟩
  case round =>
    clear HB3 M hw3
    obtain ⟨m, hm, rfl, HB, f, wv, M, HL, hwv⟩ := hrel
    have hm0 : ¬ m < 0 := by omega
    · skip
      go_wp2_with fail
      go_loopw [9, 10, 11] (fun i _ _ wr => ∃ j : Nat, j ≤ 258 ∧ i = .int .i64 j ∧ Below w.heap.size w wr ∧ IsMem wr p g 88 f ∧ wr.heap[hh]? = some (.cells (wantL wv) 42 (0, 0))) (fun i _ _ _ => 258 - (intOf i).toNat)
      case atStart => exact ⟨0, by omega, rfl, HB, M, hwv⟩
      case round =>
        clear HB M hwv
        obtain ⟨j, hj, rfl, HB, M, hwv⟩ := hrel
        by_cases hj6 : j < 256
        · have g1 : IntKind.u64.wrap ((j : Int) * 256 + 17) = (j : Int) * 256 + 17 := IntWalk.u64_in _ ⟨by omega, by omega⟩
          have UI := Lib.hid (show U (BitVec.ofNat 64 (j * 256 + 17)) = .int .u64 ((j : Int) * 256 + 17) by rw [U_of _ (by omega)]; congr 1)
          have LW := laid_walk HL j 17 hj6 (by omega)
          have hhl := blk_lt hwv
          obtain ⟨y, hy⟩ : ∃ y, y = wv j := ⟨_, rfl⟩
          rw [← hy] at LW
          have ty : ∀ w' : World, w'.heap[hh]? = some (.cells (wantL wv) 42 (0, 0)) → w'.cell? ⟨hh, j, none⟩ = some (U y) := fun w' h => by rw [hy]; simp [World.cell?, h, wantL_get _ _ hj6]
          have TY := Lib.hid ty
          by_cases hz : y = 0#64
          · rw [if_pos hz] at LW
            have LW := Lib.hid LW
            have ny : ((y.toNat : Int) != 0) = false := by rw [hz]; rfl
            have my : ((0 : Int) != (y.toNat : Int)) = false := by rw [hz]; rfl
            clear ty hz hy
            go_wp2_with fail
            have key := walk_all 1 (BitVec.ofNat 64 (j * 256 + 17)) _ M
            rw [LW.out, UI.out] at key
            (with_reducible refine key.mono ?_)
            clear key
            rintro e w5 ⟨rfl, hb⟩
            replace HB := HBstep HB hb
            replace M := M.below hb
            replace hwv := (hb.block hh hhl).trans hwv
            clear hb
            have tq := TY.out w5 hwv
            go_wp2
            go_roundw
            case rel => exact ⟨j + 3, by omega, by go_num, HB, M, hwv⟩
            case measure => simp [intOf]; omega
          · rw [if_neg hz] at LW
            have LW := Lib.hid LW
            have ny : ((y.toNat : Int) != 0) = true := by
              rw [bne_iff_ne]; intro e; exact hz (BitVec.eq_of_toNat_eq (by simp; omega))
            clear ty hz hy
            go_wp2_with fail
            have key := walk_all 1 (BitVec.ofNat 64 (j * 256 + 17)) _ M
            rw [LW.out, UI.out] at key
            (with_reducible refine key.mono ?_)
            clear key
            rintro e w5 ⟨rfl, hb⟩
            replace HB := HBstep HB hb
            replace M := M.below hb
            replace hwv := (hb.block hh hhl).trans hwv
            clear hb
            have tq := TY.out w5 hwv
            go_wp2
            go_roundw
            case rel => exact ⟨j + 3, by omega, by go_num, HB, M, hwv⟩
            case measure => simp [intOf]; omega
        · go_wp2_with fail
          have key : Calls Try.prog 16 #[.pointer (some ⟨p, 0, none⟩), .int .i64 1, .int .u64 65536] _ _ := walk_all 1 65536#64 _ M
          rw [laid_far] at key
          (with_reducible refine key.mono ?_)
          clear key
          rintro e w5 ⟨rfl, hb⟩
          replace HB := HBstep HB hb
          go_wp2
          go_ret
          exact ⟨rfl, HB⟩
end Go.Proofs.Ytkjbhjmjfacjcaa
