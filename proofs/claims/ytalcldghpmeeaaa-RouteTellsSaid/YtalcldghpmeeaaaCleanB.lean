/- The document's Clean, walked; no condition but the state's form. -/
import Derived.Test.YtalcldghpmeeaaaClean
import Derived.Test.YtalcldghpmeeaaaTail
import Derived.Deep.WholeRow
namespace Go.Proofs.Ytalcldghpmeeaaa
open Go.RowKit Go.BigFrame
set_option linter.unusedSimpArgs false
set_option linter.unusedVariables false
set_option maxRecDepth 100000

def St0 : St := { x := fun _ => 0#64, pc := 0#64, lev := 0, v := false, c := fun _ => 0#64, done := 0#64 }
theorem zero_st (w : World) : (zeroValue 26).run Try.prog w = .ok (.agg (stA St0)) w := (zero_of_info (P := Try.prog) (t := 26) (v := .agg (stA St0)) (n := 65) (by kernel_rfl)).1 w
def clC (S : St) (m : Nat) : Nat → BitVec 64 := fun i => if i < m then S.c i &&& maskV i else S.c i
theorem stG_lev (S : St) (h : 33 < (stA S).size) : (stA S)[33]'h = .int .i64 S.lev := by have := stA_lev S; rw [Array.getElem?_eq_getElem h] at this; exact Option.some.inj this
theorem stG_v (S : St) (h : 34 < (stA S).size) : (stA S)[34]'h = .bool S.v := by have := stA_v S; rw [Array.getElem?_eq_getElem h] at this; exact Option.some.inj this
theorem stG_x0 (S : St) (h : 0 < (stA S).size) : (stA S)[0]'h = U (S.x 0) := by have := stA_x S 0 (by omega); rw [Array.getElem?_eq_getElem h] at this; exact Option.some.inj this
theorem stA_set0 (S : St) : (stA S).setIfInBounds 0 (.int .u64 0) = stA { S with x := updC S.x 0 0#64 } := stA_setX S 0 0#64 (by omega)
theorem stA_one (S : St) : (stA S).all (·.oneCell') = true := by
  rw [Array.all_eq_true_iff_forall_mem]
  intro v hv
  unfold stA stL at hv
  simp only [List.mem_toArray, List.mem_append, List.mem_map, List.mem_cons, List.not_mem_nil, or_false] at hv
  rcases hv with ((⟨a, _, rfl⟩ | rfl | rfl | rfl) | ⟨a, _, rfl⟩) | rfl <;> rfl
theorem below_setRow {B : Nat} {a w : World} (h : Below B a w) {g : Nat} (hg : B ≤ g) (cs : Array Value) : Below B a (w.setRow g cs) :=
  h.trans ⟨rfl, rfl, rfl, by simp, fun k hk => setRow_other w g k cs (by omega)⟩
/-- The state at the head of Clean's loop. -/
def clS (S : St) (m : Nat) : St := { x := updC S.x 0 0#64, pc := S.pc, lev := cleanL S.lev, v := if cleanL S.lev = 3 then false else S.v, c := clC S m, done := S.done }
theorem clS_zero (S : St) (h : S.lev = 0) : ({ x := updC S.x 0 0#64, pc := S.pc, lev := 0, v := S.v, c := S.c, done := S.done } : St) = clS S 0 := by
  unfold clS cleanL clC; simp [h]
theorem clS_one (S : St) (h : S.lev = 1) : ({ x := updC S.x 0 0#64, pc := S.pc, lev := 1, v := S.v, c := S.c, done := S.done } : St) = clS S 0 := by
  unfold clS cleanL clC; simp [h]
theorem clS_three (S : St) (h : S.lev = 3) : ({ x := updC S.x 0 0#64, pc := S.pc, lev := 3, v := false, c := S.c, done := S.done } : St) = clS S 0 := by
  unfold clS cleanL clC; simp [h]
theorem clS_other (S : St) (h : ¬ (S.lev = 0 ∨ S.lev = 1 ∨ S.lev = 3)) : ({ S with x := updC S.x 0 0#64, lev := 3, v := false } : St) = clS S 0 := by
  unfold clS cleanL clC
  simp [h]
theorem clC_step (S : St) (m : Nat) : updC (clC S m) m (S.c m &&& maskV m) = clC S (m + 1) := by
  funext i
  unfold updC clC
  by_cases c : i = m
  · subst c; rw [if_pos rfl, if_pos (by omega)]
  · rw [if_neg c]
    by_cases d : i < m
    · rw [if_pos d, if_pos (by omega)]
    · rw [if_neg d, if_neg (by omega)]
theorem clS_step (S : St) (m : Nat) : ({ clS S m with c := updC (clS S m).c m (S.c m &&& maskV m) } : St) = clS S (m + 1) := by
  have := clC_step S m
  unfold clS
  simp only [this]
theorem clS_at (S : St) (m : Nat) : (clS S m).c m = S.c m := by unfold clS clC; simp
theorem cleanS_eq (S : St) : ∀ A : Array Value, A = stA { clS S 29 with c := updC (clS S 29).c 0 (mppB ((clS S 29).c 0)), pc := (clS S 29).pc &&& ~~~3#64 } → A = stA (cleanS S) := by
  rintro A rfl
  refine stA_ext (stA_size _) (fun i hi => ?_) (stA_pc _) (stA_lev _) (stA_v _) (fun i hi => ?_) (stA_done _)
  · exact stA_x _ i hi
  · rw [stA_c _ i hi]
    show some (U (updC (clC S 29) 0 (mppB (clC S 29 0)) i)) = some (U (if i = 0 then _ else _))
    unfold updC clC
    by_cases c : i = 0
    · rw [if_pos c, if_pos c, if_pos (by omega)]
    · rw [if_neg c, if_neg c, if_pos hi]
set_option maxHeartbeats 4000000 in
theorem clean_b (S : St) : Gives Try.prog 8 #[.agg (stA S)] (.agg (stA (cleanS S))) := by
  intro w
  have sz := stA_size
  have zs := zero_st
  have g33 := stG_lev
  have g34 := stG_v
  have g0 := stG_x0
  have p0 := stA_set0
  have p33 := stA_setL
  have p34 := stA_setV
  go_enter Try.func8, Try.ntmps8
  have hcase : S.lev = 0 ∨ S.lev = 1 ∨ S.lev = 3 ∨ ¬ (S.lev = 0 ∨ S.lev = 1 ∨ S.lev = 3) := by omega
  rcases hcase with h | h | h | h
  · have e := Lib.hid (clS_zero S h)
    go_wp2_with fail
    rw [e.out]
    obtain ⟨W, hW⟩ : ∃ W, W = (w.alloc (.cells (stA (clS S 0)) 26)).alloc (.cells (stA St0) 26) := ⟨_, rfl⟩
    have hs : HasSt W w.heap.size (clS S 0) := by rw [hW]; exact (HasSt.new w (clS S 0)).below ((Below.refl _ _).alloc (Nat.le_refl _) _)
    have hr : HasSt W (w.heap.size + 1) St0 := by rw [hW]; have := HasSt.new (w.alloc (.cells (stA (clS S 0)) 26)) St0; simpa using this
    have hb : Below w.heap.size w W := by rw [hW]; exact ((Below.refl _ _).alloc (Nat.le_refl _) _).alloc (by simp) _
    rw [← hW]
    clear hW
    clear h e zs g33 g34 g0 p0 p33 p34
    go_loopw [3] (fun i wr => ∃ m : Nat, m ≤ 29 ∧ i = .int .i64 m ∧ HasSt wr w.heap.size (clS S m) ∧ HasSt wr (w.heap.size + 1) St0 ∧ Below w.heap.size w wr) (fun i _ => 29 - (intOf i).toNat)
    case atStart => exact ⟨0, by omega, rfl, hs, hr, hb⟩
    case round =>
      clear hs hr hb
      obtain ⟨m, hm, rfl, hs, hr, hb⟩ := hrel
      by_cases hm9 : m < 29
      · have f1 : ∀ s : Beyond wr, s.to.cell? ⟨w.heap.size, 35 + m, none⟩ = some (U (S.c m)) := fun s => by
          have := (hs.below s.ok).cell (stA_c (clS S m) m hm9)
          rw [clS_at] at this
          exact this
        have fz : ∀ s : Beyond wr, s.to.frozen? ⟨w.heap.size, 35 + m, none⟩ = false := fun s => (hs.below s.ok).free _
        have RM := Lib.hid (rmask_b m hm9)
        have e2 := u_and (S.c m) (maskV m)
        obtain ⟨r, hr2⟩ : ∃ r, r = S.c m &&& maskV m := ⟨_, rfl⟩
        rw [← hr2] at e2
        have H := Lib.hid (show ∀ s : Beyond wr, HasSt (s.to.setCell ⟨w.heap.size, 35 + m, none⟩ (U r)) w.heap.size (clS S (m + 1)) ∧ HasSt (s.to.setCell ⟨w.heap.size, 35 + m, none⟩ (U r)) (w.heap.size + 1) St0 ∧ Below w.heap.size w (s.to.setCell ⟨w.heap.size, 35 + m, none⟩ (U r)) from fun s => by
          refine ⟨?_, ?_, (HBstep hb s.ok).setCell (Nat.le_refl _) _⟩
          · have := (hs.below s.ok).setC m r hm9
            rw [hr2, clS_step] at this
            rw [hr2]
            exact this
          · have := hr.below s.ok
            unfold HasSt at *
            rw [heap_setCell_other _ _ _ _ (by simp)]
            exact this)
        clear hs hr hb hr2
        generalize S.c m = x at *
        generalize maskV m = y at *
        go_wp2_with fail
        refine wp_region_quiet_tail (C := fun w' => ∃ s : Beyond wr, w' = s.to) 10 (by kernel_rfl) (by kernel_rfl) ⟨⟨_, (Below.refl _ _).drew⟩, rfl⟩ ?_
        simp only [List.take_succ_cons, List.take_zero, List.drop_succ_cons, List.drop_zero]
        repeat (go_big_quiet_step ((go_at_call 15; with_reducible exact (RM.out.at_ _))))
        refine wpQuiet_nil ?_
        rintro w' ⟨s, rfl⟩
        have f1' := f1 s
        have fz' := fz s
        clear f1 fz
        go_wp2
        go_roundw
        case rel => exact ⟨m + 1, by omega, by go_num, (H.out s).1, (H.out s).2.1, (H.out s).2.2⟩
        case measure => simp [intOf]; omega
      · obtain rfl : m = 29 := by omega
        have c0 : wr.cell? ⟨w.heap.size, 35, none⟩ = some (U ((clS S 29).c 0)) := hs.cell (stA_c (clS S 29) 0 (by omega))
        obtain ⟨v0, hv0⟩ : ∃ v0, v0 = (clS S 29).c 0 := ⟨_, rfl⟩
        have RM := Lib.hid (rmpp_b v0)
        rw [← hv0] at c0
        have HV0 := Lib.hid hv0
        clear hv0
        have hs := Lib.hid hs
        have hr := Lib.hid hr
        have hb := Lib.hid hb
        go_wp2_with fail
        (with_reducible refine (RM.out.run _).mono ?_)
        rintro e w5 ⟨rfl, hb5⟩
        have hs := hs.out.below hb5
        have hr := hr.out.below hb5
        have hb := HBstep hb.out hb5
        clear c0 hb5
        have hv0 := HV0.out
        obtain ⟨y, hy⟩ : ∃ y, y = mppB v0 := ⟨_, rfl⟩
        obtain ⟨pc, hpc⟩ : ∃ pc, pc = (clS S 29).pc := ⟨_, rfl⟩
        have e3 := u_andNot pc 3#64
        rw [show ((3#64 : BitVec 64).toNat : Int) = 3 from rfl] at e3
        obtain ⟨z, hz⟩ : ∃ z, z = pc &&& ~~~3#64 := ⟨_, rfl⟩
        have c0 : w5.cell? ⟨w.heap.size, 35, none⟩ = some (U v0) := by rw [hv0]; exact hs.cell (stA_c (clS S 29) 0 (by omega))
        have c1 : w5.cell? ⟨w.heap.size, 32, none⟩ = some (U pc) := by rw [hpc]; exact hs.cell (stA_pc (clS S 29))
        have fz := hs.free
        rw [← hy]
        rw [← hz] at e3
        have h1 : HasSt ((w5.setCell ⟨w.heap.size, 35, none⟩ (U y)).setCell ⟨w.heap.size, 32, none⟩ (U z)) w.heap.size _ := (hs.setC 0 y (by omega)).set 32 (U z) (stA_setP _ z)
        have h2 : ((w5.setCell ⟨w.heap.size, 35, none⟩ (U y)).setCell ⟨w.heap.size, 32, none⟩ (U z)).heap[w.heap.size + 1]? = some (.cells (stA St0) 26 (0, 0)) := by
          rw [heap_setCell_other _ _ _ _ (by simp), heap_setCell_other _ _ _ _ (by simp)]; exact hr
        have h3 : Below w.heap.size w ((w5.setCell ⟨w.heap.size, 35, none⟩ (U y)).setCell ⟨w.heap.size, 32, none⟩ (U z)) := (hb.setCell (Nat.le_refl _) _).setCell (Nat.le_refl _) _
        have hA : stA { clS S 29 with c := updC (clS S 29).c 0 y, pc := z } = stA (cleanS S) := cleanS_eq S _ (by rw [hz, hy, hpc, hv0])
        have H1 := Lib.hid h1
        have H2 := Lib.hid h2
        have H3 := Lib.hid h3
        have HA := Lib.hid hA
        clear hs hr hb h1 h2 h3 hA hz hy hpc hv0
        go_wp2_with (first | (refine wpList_load_st H1.out rfl rfl rfl ?_) | (refine wpList_store_row rfl 26 _ _ rfl (w.heap.size + 1) _ rfl rfl 26 _ H2.out (by rw [stA_size]; exact infoSt) (by rw [stA_size, stA_size]) (stA_one _) ?_))
        (try simp only [Exit.inBlock, Exit.then])
        refine bodyPost_ret (results_cell_row rfl _ _ (w.heap.size + 1) _ _ _ _ rfl (setRow_heap _ _ _ _ _ _ H2.out) Try.underlying26 rfl (by rw [stA_size]; exact infoSt)) rfl ?_
        exact ⟨by rw [HA.out], below_setRow H3.out (by omega) _⟩
  · have e := Lib.hid (clS_one S h)
    go_wp2_with fail
    rw [e.out]
    obtain ⟨W, hW⟩ : ∃ W, W = (w.alloc (.cells (stA (clS S 0)) 26)).alloc (.cells (stA St0) 26) := ⟨_, rfl⟩
    have hs : HasSt W w.heap.size (clS S 0) := by rw [hW]; exact (HasSt.new w (clS S 0)).below ((Below.refl _ _).alloc (Nat.le_refl _) _)
    have hr : HasSt W (w.heap.size + 1) St0 := by rw [hW]; have := HasSt.new (w.alloc (.cells (stA (clS S 0)) 26)) St0; simpa using this
    have hb : Below w.heap.size w W := by rw [hW]; exact ((Below.refl _ _).alloc (Nat.le_refl _) _).alloc (by simp) _
    rw [← hW]
    clear hW
    clear h e zs g33 g34 g0 p0 p33 p34
    go_loopw [3] (fun i wr => ∃ m : Nat, m ≤ 29 ∧ i = .int .i64 m ∧ HasSt wr w.heap.size (clS S m) ∧ HasSt wr (w.heap.size + 1) St0 ∧ Below w.heap.size w wr) (fun i _ => 29 - (intOf i).toNat)
    case atStart => exact ⟨0, by omega, rfl, hs, hr, hb⟩
    case round =>
      clear hs hr hb
      obtain ⟨m, hm, rfl, hs, hr, hb⟩ := hrel
      by_cases hm9 : m < 29
      · have f1 : ∀ s : Beyond wr, s.to.cell? ⟨w.heap.size, 35 + m, none⟩ = some (U (S.c m)) := fun s => by
          have := (hs.below s.ok).cell (stA_c (clS S m) m hm9)
          rw [clS_at] at this
          exact this
        have fz : ∀ s : Beyond wr, s.to.frozen? ⟨w.heap.size, 35 + m, none⟩ = false := fun s => (hs.below s.ok).free _
        have RM := Lib.hid (rmask_b m hm9)
        have e2 := u_and (S.c m) (maskV m)
        obtain ⟨r, hr2⟩ : ∃ r, r = S.c m &&& maskV m := ⟨_, rfl⟩
        rw [← hr2] at e2
        have H := Lib.hid (show ∀ s : Beyond wr, HasSt (s.to.setCell ⟨w.heap.size, 35 + m, none⟩ (U r)) w.heap.size (clS S (m + 1)) ∧ HasSt (s.to.setCell ⟨w.heap.size, 35 + m, none⟩ (U r)) (w.heap.size + 1) St0 ∧ Below w.heap.size w (s.to.setCell ⟨w.heap.size, 35 + m, none⟩ (U r)) from fun s => by
          refine ⟨?_, ?_, (HBstep hb s.ok).setCell (Nat.le_refl _) _⟩
          · have := (hs.below s.ok).setC m r hm9
            rw [hr2, clS_step] at this
            rw [hr2]
            exact this
          · have := hr.below s.ok
            unfold HasSt at *
            rw [heap_setCell_other _ _ _ _ (by simp)]
            exact this)
        clear hs hr hb hr2
        generalize S.c m = x at *
        generalize maskV m = y at *
        go_wp2_with fail
        refine wp_region_quiet_tail (C := fun w' => ∃ s : Beyond wr, w' = s.to) 10 (by kernel_rfl) (by kernel_rfl) ⟨⟨_, (Below.refl _ _).drew⟩, rfl⟩ ?_
        simp only [List.take_succ_cons, List.take_zero, List.drop_succ_cons, List.drop_zero]
        repeat (go_big_quiet_step ((go_at_call 15; with_reducible exact (RM.out.at_ _))))
        refine wpQuiet_nil ?_
        rintro w' ⟨s, rfl⟩
        have f1' := f1 s
        have fz' := fz s
        clear f1 fz
        go_wp2
        go_roundw
        case rel => exact ⟨m + 1, by omega, by go_num, (H.out s).1, (H.out s).2.1, (H.out s).2.2⟩
        case measure => simp [intOf]; omega
      · obtain rfl : m = 29 := by omega
        have c0 : wr.cell? ⟨w.heap.size, 35, none⟩ = some (U ((clS S 29).c 0)) := hs.cell (stA_c (clS S 29) 0 (by omega))
        obtain ⟨v0, hv0⟩ : ∃ v0, v0 = (clS S 29).c 0 := ⟨_, rfl⟩
        have RM := Lib.hid (rmpp_b v0)
        rw [← hv0] at c0
        have HV0 := Lib.hid hv0
        clear hv0
        have hs := Lib.hid hs
        have hr := Lib.hid hr
        have hb := Lib.hid hb
        go_wp2_with fail
        (with_reducible refine (RM.out.run _).mono ?_)
        rintro e w5 ⟨rfl, hb5⟩
        have hs := hs.out.below hb5
        have hr := hr.out.below hb5
        have hb := HBstep hb.out hb5
        clear c0 hb5
        have hv0 := HV0.out
        obtain ⟨y, hy⟩ : ∃ y, y = mppB v0 := ⟨_, rfl⟩
        obtain ⟨pc, hpc⟩ : ∃ pc, pc = (clS S 29).pc := ⟨_, rfl⟩
        have e3 := u_andNot pc 3#64
        rw [show ((3#64 : BitVec 64).toNat : Int) = 3 from rfl] at e3
        obtain ⟨z, hz⟩ : ∃ z, z = pc &&& ~~~3#64 := ⟨_, rfl⟩
        have c0 : w5.cell? ⟨w.heap.size, 35, none⟩ = some (U v0) := by rw [hv0]; exact hs.cell (stA_c (clS S 29) 0 (by omega))
        have c1 : w5.cell? ⟨w.heap.size, 32, none⟩ = some (U pc) := by rw [hpc]; exact hs.cell (stA_pc (clS S 29))
        have fz := hs.free
        rw [← hy]
        rw [← hz] at e3
        have h1 : HasSt ((w5.setCell ⟨w.heap.size, 35, none⟩ (U y)).setCell ⟨w.heap.size, 32, none⟩ (U z)) w.heap.size _ := (hs.setC 0 y (by omega)).set 32 (U z) (stA_setP _ z)
        have h2 : ((w5.setCell ⟨w.heap.size, 35, none⟩ (U y)).setCell ⟨w.heap.size, 32, none⟩ (U z)).heap[w.heap.size + 1]? = some (.cells (stA St0) 26 (0, 0)) := by
          rw [heap_setCell_other _ _ _ _ (by simp), heap_setCell_other _ _ _ _ (by simp)]; exact hr
        have h3 : Below w.heap.size w ((w5.setCell ⟨w.heap.size, 35, none⟩ (U y)).setCell ⟨w.heap.size, 32, none⟩ (U z)) := (hb.setCell (Nat.le_refl _) _).setCell (Nat.le_refl _) _
        have hA : stA { clS S 29 with c := updC (clS S 29).c 0 y, pc := z } = stA (cleanS S) := cleanS_eq S _ (by rw [hz, hy, hpc, hv0])
        have H1 := Lib.hid h1
        have H2 := Lib.hid h2
        have H3 := Lib.hid h3
        have HA := Lib.hid hA
        clear hs hr hb h1 h2 h3 hA hz hy hpc hv0
        go_wp2_with (first | (refine wpList_load_st H1.out rfl rfl rfl ?_) | (refine wpList_store_row rfl 26 _ _ rfl (w.heap.size + 1) _ rfl rfl 26 _ H2.out (by rw [stA_size]; exact infoSt) (by rw [stA_size, stA_size]) (stA_one _) ?_))
        (try simp only [Exit.inBlock, Exit.then])
        refine bodyPost_ret (results_cell_row rfl _ _ (w.heap.size + 1) _ _ _ _ rfl (setRow_heap _ _ _ _ _ _ H2.out) Try.underlying26 rfl (by rw [stA_size]; exact infoSt)) rfl ?_
        exact ⟨by rw [HA.out], below_setRow H3.out (by omega) _⟩
  · have e := Lib.hid (clS_three S h)
    go_wp2_with fail
    rw [e.out]
    obtain ⟨W, hW⟩ : ∃ W, W = (w.alloc (.cells (stA (clS S 0)) 26)).alloc (.cells (stA St0) 26) := ⟨_, rfl⟩
    have hs : HasSt W w.heap.size (clS S 0) := by rw [hW]; exact (HasSt.new w (clS S 0)).below ((Below.refl _ _).alloc (Nat.le_refl _) _)
    have hr : HasSt W (w.heap.size + 1) St0 := by rw [hW]; have := HasSt.new (w.alloc (.cells (stA (clS S 0)) 26)) St0; simpa using this
    have hb : Below w.heap.size w W := by rw [hW]; exact ((Below.refl _ _).alloc (Nat.le_refl _) _).alloc (by simp) _
    rw [← hW]
    clear hW
    clear h e zs g33 g34 g0 p0 p33 p34
    go_loopw [3] (fun i wr => ∃ m : Nat, m ≤ 29 ∧ i = .int .i64 m ∧ HasSt wr w.heap.size (clS S m) ∧ HasSt wr (w.heap.size + 1) St0 ∧ Below w.heap.size w wr) (fun i _ => 29 - (intOf i).toNat)
    case atStart => exact ⟨0, by omega, rfl, hs, hr, hb⟩
    case round =>
      clear hs hr hb
      obtain ⟨m, hm, rfl, hs, hr, hb⟩ := hrel
      by_cases hm9 : m < 29
      · have f1 : ∀ s : Beyond wr, s.to.cell? ⟨w.heap.size, 35 + m, none⟩ = some (U (S.c m)) := fun s => by
          have := (hs.below s.ok).cell (stA_c (clS S m) m hm9)
          rw [clS_at] at this
          exact this
        have fz : ∀ s : Beyond wr, s.to.frozen? ⟨w.heap.size, 35 + m, none⟩ = false := fun s => (hs.below s.ok).free _
        have RM := Lib.hid (rmask_b m hm9)
        have e2 := u_and (S.c m) (maskV m)
        obtain ⟨r, hr2⟩ : ∃ r, r = S.c m &&& maskV m := ⟨_, rfl⟩
        rw [← hr2] at e2
        have H := Lib.hid (show ∀ s : Beyond wr, HasSt (s.to.setCell ⟨w.heap.size, 35 + m, none⟩ (U r)) w.heap.size (clS S (m + 1)) ∧ HasSt (s.to.setCell ⟨w.heap.size, 35 + m, none⟩ (U r)) (w.heap.size + 1) St0 ∧ Below w.heap.size w (s.to.setCell ⟨w.heap.size, 35 + m, none⟩ (U r)) from fun s => by
          refine ⟨?_, ?_, (HBstep hb s.ok).setCell (Nat.le_refl _) _⟩
          · have := (hs.below s.ok).setC m r hm9
            rw [hr2, clS_step] at this
            rw [hr2]
            exact this
          · have := hr.below s.ok
            unfold HasSt at *
            rw [heap_setCell_other _ _ _ _ (by simp)]
            exact this)
        clear hs hr hb hr2
        generalize S.c m = x at *
        generalize maskV m = y at *
        go_wp2_with fail
        refine wp_region_quiet_tail (C := fun w' => ∃ s : Beyond wr, w' = s.to) 10 (by kernel_rfl) (by kernel_rfl) ⟨⟨_, (Below.refl _ _).drew⟩, rfl⟩ ?_
        simp only [List.take_succ_cons, List.take_zero, List.drop_succ_cons, List.drop_zero]
        repeat (go_big_quiet_step ((go_at_call 15; with_reducible exact (RM.out.at_ _))))
        refine wpQuiet_nil ?_
        rintro w' ⟨s, rfl⟩
        have f1' := f1 s
        have fz' := fz s
        clear f1 fz
        go_wp2
        go_roundw
        case rel => exact ⟨m + 1, by omega, by go_num, (H.out s).1, (H.out s).2.1, (H.out s).2.2⟩
        case measure => simp [intOf]; omega
      · obtain rfl : m = 29 := by omega
        have c0 : wr.cell? ⟨w.heap.size, 35, none⟩ = some (U ((clS S 29).c 0)) := hs.cell (stA_c (clS S 29) 0 (by omega))
        obtain ⟨v0, hv0⟩ : ∃ v0, v0 = (clS S 29).c 0 := ⟨_, rfl⟩
        have RM := Lib.hid (rmpp_b v0)
        rw [← hv0] at c0
        have HV0 := Lib.hid hv0
        clear hv0
        have hs := Lib.hid hs
        have hr := Lib.hid hr
        have hb := Lib.hid hb
        go_wp2_with fail
        (with_reducible refine (RM.out.run _).mono ?_)
        rintro e w5 ⟨rfl, hb5⟩
        have hs := hs.out.below hb5
        have hr := hr.out.below hb5
        have hb := HBstep hb.out hb5
        clear c0 hb5
        have hv0 := HV0.out
        obtain ⟨y, hy⟩ : ∃ y, y = mppB v0 := ⟨_, rfl⟩
        obtain ⟨pc, hpc⟩ : ∃ pc, pc = (clS S 29).pc := ⟨_, rfl⟩
        have e3 := u_andNot pc 3#64
        rw [show ((3#64 : BitVec 64).toNat : Int) = 3 from rfl] at e3
        obtain ⟨z, hz⟩ : ∃ z, z = pc &&& ~~~3#64 := ⟨_, rfl⟩
        have c0 : w5.cell? ⟨w.heap.size, 35, none⟩ = some (U v0) := by rw [hv0]; exact hs.cell (stA_c (clS S 29) 0 (by omega))
        have c1 : w5.cell? ⟨w.heap.size, 32, none⟩ = some (U pc) := by rw [hpc]; exact hs.cell (stA_pc (clS S 29))
        have fz := hs.free
        rw [← hy]
        rw [← hz] at e3
        have h1 : HasSt ((w5.setCell ⟨w.heap.size, 35, none⟩ (U y)).setCell ⟨w.heap.size, 32, none⟩ (U z)) w.heap.size _ := (hs.setC 0 y (by omega)).set 32 (U z) (stA_setP _ z)
        have h2 : ((w5.setCell ⟨w.heap.size, 35, none⟩ (U y)).setCell ⟨w.heap.size, 32, none⟩ (U z)).heap[w.heap.size + 1]? = some (.cells (stA St0) 26 (0, 0)) := by
          rw [heap_setCell_other _ _ _ _ (by simp), heap_setCell_other _ _ _ _ (by simp)]; exact hr
        have h3 : Below w.heap.size w ((w5.setCell ⟨w.heap.size, 35, none⟩ (U y)).setCell ⟨w.heap.size, 32, none⟩ (U z)) := (hb.setCell (Nat.le_refl _) _).setCell (Nat.le_refl _) _
        have hA : stA { clS S 29 with c := updC (clS S 29).c 0 y, pc := z } = stA (cleanS S) := cleanS_eq S _ (by rw [hz, hy, hpc, hv0])
        have H1 := Lib.hid h1
        have H2 := Lib.hid h2
        have H3 := Lib.hid h3
        have HA := Lib.hid hA
        clear hs hr hb h1 h2 h3 hA hz hy hpc hv0
        go_wp2_with (first | (refine wpList_load_st H1.out rfl rfl rfl ?_) | (refine wpList_store_row rfl 26 _ _ rfl (w.heap.size + 1) _ rfl rfl 26 _ H2.out (by rw [stA_size]; exact infoSt) (by rw [stA_size, stA_size]) (stA_one _) ?_))
        (try simp only [Exit.inBlock, Exit.then])
        refine bodyPost_ret (results_cell_row rfl _ _ (w.heap.size + 1) _ _ _ _ rfl (setRow_heap _ _ _ _ _ _ H2.out) Try.underlying26 rfl (by rw [stA_size]; exact infoSt)) rfl ?_
        exact ⟨by rw [HA.out], below_setRow H3.out (by omega) _⟩
  · have n0 : (S.lev != 0) = true := by rw [bne_iff_ne]; intro e; exact h (.inl e)
    have n1 : (S.lev != 1) = true := by rw [bne_iff_ne]; intro e; exact h (.inr (.inl e))
    have n3 : (S.lev != 3) = true := by rw [bne_iff_ne]; intro e; exact h (.inr (.inr e))
    have e := Lib.hid (clS_other S h)
    clear h
    go_wp2_with fail
    rw [e.out]
    obtain ⟨W, hW⟩ : ∃ W, W = (w.alloc (.cells (stA (clS S 0)) 26)).alloc (.cells (stA St0) 26) := ⟨_, rfl⟩
    have hs : HasSt W w.heap.size (clS S 0) := by rw [hW]; exact (HasSt.new w (clS S 0)).below ((Below.refl _ _).alloc (Nat.le_refl _) _)
    have hr : HasSt W (w.heap.size + 1) St0 := by rw [hW]; have := HasSt.new (w.alloc (.cells (stA (clS S 0)) 26)) St0; simpa using this
    have hb : Below w.heap.size w W := by rw [hW]; exact ((Below.refl _ _).alloc (Nat.le_refl _) _).alloc (by simp) _
    rw [← hW]
    clear hW
    clear n0 n1 n3 e zs g33 g34 g0 p0 p33 p34
    go_loopw [3] (fun i wr => ∃ m : Nat, m ≤ 29 ∧ i = .int .i64 m ∧ HasSt wr w.heap.size (clS S m) ∧ HasSt wr (w.heap.size + 1) St0 ∧ Below w.heap.size w wr) (fun i _ => 29 - (intOf i).toNat)
    case atStart => exact ⟨0, by omega, rfl, hs, hr, hb⟩
    case round =>
      clear hs hr hb
      obtain ⟨m, hm, rfl, hs, hr, hb⟩ := hrel
      by_cases hm9 : m < 29
      · have f1 : ∀ s : Beyond wr, s.to.cell? ⟨w.heap.size, 35 + m, none⟩ = some (U (S.c m)) := fun s => by
          have := (hs.below s.ok).cell (stA_c (clS S m) m hm9)
          rw [clS_at] at this
          exact this
        have fz : ∀ s : Beyond wr, s.to.frozen? ⟨w.heap.size, 35 + m, none⟩ = false := fun s => (hs.below s.ok).free _
        have RM := Lib.hid (rmask_b m hm9)
        have e2 := u_and (S.c m) (maskV m)
        obtain ⟨r, hr2⟩ : ∃ r, r = S.c m &&& maskV m := ⟨_, rfl⟩
        rw [← hr2] at e2
        have H := Lib.hid (show ∀ s : Beyond wr, HasSt (s.to.setCell ⟨w.heap.size, 35 + m, none⟩ (U r)) w.heap.size (clS S (m + 1)) ∧ HasSt (s.to.setCell ⟨w.heap.size, 35 + m, none⟩ (U r)) (w.heap.size + 1) St0 ∧ Below w.heap.size w (s.to.setCell ⟨w.heap.size, 35 + m, none⟩ (U r)) from fun s => by
          refine ⟨?_, ?_, (HBstep hb s.ok).setCell (Nat.le_refl _) _⟩
          · have := (hs.below s.ok).setC m r hm9
            rw [hr2, clS_step] at this
            rw [hr2]
            exact this
          · have := hr.below s.ok
            unfold HasSt at *
            rw [heap_setCell_other _ _ _ _ (by simp)]
            exact this)
        clear hs hr hb hr2
        generalize S.c m = x at *
        generalize maskV m = y at *
        go_wp2_with fail
        refine wp_region_quiet_tail (C := fun w' => ∃ s : Beyond wr, w' = s.to) 10 (by kernel_rfl) (by kernel_rfl) ⟨⟨_, (Below.refl _ _).drew⟩, rfl⟩ ?_
        simp only [List.take_succ_cons, List.take_zero, List.drop_succ_cons, List.drop_zero]
        repeat (go_big_quiet_step ((go_at_call 15; with_reducible exact (RM.out.at_ _))))
        refine wpQuiet_nil ?_
        rintro w' ⟨s, rfl⟩
        have f1' := f1 s
        have fz' := fz s
        clear f1 fz
        go_wp2
        go_roundw
        case rel => exact ⟨m + 1, by omega, by go_num, (H.out s).1, (H.out s).2.1, (H.out s).2.2⟩
        case measure => simp [intOf]; omega
      · obtain rfl : m = 29 := by omega
        have c0 : wr.cell? ⟨w.heap.size, 35, none⟩ = some (U ((clS S 29).c 0)) := hs.cell (stA_c (clS S 29) 0 (by omega))
        obtain ⟨v0, hv0⟩ : ∃ v0, v0 = (clS S 29).c 0 := ⟨_, rfl⟩
        have RM := Lib.hid (rmpp_b v0)
        rw [← hv0] at c0
        have HV0 := Lib.hid hv0
        clear hv0
        have hs := Lib.hid hs
        have hr := Lib.hid hr
        have hb := Lib.hid hb
        go_wp2_with fail
        (with_reducible refine (RM.out.run _).mono ?_)
        rintro e w5 ⟨rfl, hb5⟩
        have hs := hs.out.below hb5
        have hr := hr.out.below hb5
        have hb := HBstep hb.out hb5
        clear c0 hb5
        have hv0 := HV0.out
        obtain ⟨y, hy⟩ : ∃ y, y = mppB v0 := ⟨_, rfl⟩
        obtain ⟨pc, hpc⟩ : ∃ pc, pc = (clS S 29).pc := ⟨_, rfl⟩
        have e3 := u_andNot pc 3#64
        rw [show ((3#64 : BitVec 64).toNat : Int) = 3 from rfl] at e3
        obtain ⟨z, hz⟩ : ∃ z, z = pc &&& ~~~3#64 := ⟨_, rfl⟩
        have c0 : w5.cell? ⟨w.heap.size, 35, none⟩ = some (U v0) := by rw [hv0]; exact hs.cell (stA_c (clS S 29) 0 (by omega))
        have c1 : w5.cell? ⟨w.heap.size, 32, none⟩ = some (U pc) := by rw [hpc]; exact hs.cell (stA_pc (clS S 29))
        have fz := hs.free
        rw [← hy]
        rw [← hz] at e3
        have h1 : HasSt ((w5.setCell ⟨w.heap.size, 35, none⟩ (U y)).setCell ⟨w.heap.size, 32, none⟩ (U z)) w.heap.size _ := (hs.setC 0 y (by omega)).set 32 (U z) (stA_setP _ z)
        have h2 : ((w5.setCell ⟨w.heap.size, 35, none⟩ (U y)).setCell ⟨w.heap.size, 32, none⟩ (U z)).heap[w.heap.size + 1]? = some (.cells (stA St0) 26 (0, 0)) := by
          rw [heap_setCell_other _ _ _ _ (by simp), heap_setCell_other _ _ _ _ (by simp)]; exact hr
        have h3 : Below w.heap.size w ((w5.setCell ⟨w.heap.size, 35, none⟩ (U y)).setCell ⟨w.heap.size, 32, none⟩ (U z)) := (hb.setCell (Nat.le_refl _) _).setCell (Nat.le_refl _) _
        have hA : stA { clS S 29 with c := updC (clS S 29).c 0 y, pc := z } = stA (cleanS S) := cleanS_eq S _ (by rw [hz, hy, hpc, hv0])
        have H1 := Lib.hid h1
        have H2 := Lib.hid h2
        have H3 := Lib.hid h3
        have HA := Lib.hid hA
        clear hs hr hb h1 h2 h3 hA hz hy hpc hv0
        go_wp2_with (first | (refine wpList_load_st H1.out rfl rfl rfl ?_) | (refine wpList_store_row rfl 26 _ _ rfl (w.heap.size + 1) _ rfl rfl 26 _ H2.out (by rw [stA_size]; exact infoSt) (by rw [stA_size, stA_size]) (stA_one _) ?_))
        (try simp only [Exit.inBlock, Exit.then])
        refine bodyPost_ret (results_cell_row rfl _ _ (w.heap.size + 1) _ _ _ _ rfl (setRow_heap _ _ _ _ _ _ H2.out) Try.underlying26 rfl (by rw [stA_size]; exact infoSt)) rfl ?_
        exact ⟨by rw [HA.out], below_setRow H3.out (by omega) _⟩
end Go.Proofs.Ytalcldghpmeeaaa
