/- Part 5 of the texts behind the law: contracts and lemmas, each proved; no condition but what each names. -/
import Derived.Handy
import Derived.ChangeKeysEq
import Derived.Test.YtfehilinnalflaaGreatQ04
namespace Go.Proofs.YtfehilinnalflaaGreat
open Go.RowKit Go.BigFrame
set_option linter.unusedSimpArgs false
set_option linter.unusedVariables false
set_option maxRecDepth 100000
theorem bit_zero (v : BitVec 64) (k : Nat) : (bitsB v k 1 == 0#64) = !(v.getLsbD k) := by
  have hb : bitsB v k 1 = if v.getLsbD k then 1#64 else 0#64 := by
    apply BitVec.eq_of_getLsbD_eq
    intro i hi
    rw [bits_bit]
    by_cases i0 : i = 0
    · subst i0
      cases v.getLsbD k <;> simp
    · have : ¬ i < 1 := by omega
      cases v.getLsbD k <;> simp [this, i0]
  rw [hb]
  cases v.getLsbD k <;> rfl
theorem results_tmp4 {fn : Func} {t u v x : Tmp} (h : fn.results = #[.tmp t, .tmp u, .tmp v, .tmp x]) (tmps : Array Value) (P : Program) (w : World) :
    (results fn tmps).run P w = .ok (.tuple #[tmps.getD t undef, tmps.getD u undef, tmps.getD v undef, tmps.getD x undef]) w := by
  simp [results, h]
def firesB (S : St) (en : BitVec 64) (m : Nat) : Bool := en.getLsbD (tb m) && ((S.c (ti m)).getLsbD (tb m) == tg m) && openB S (tl m) (tv m)
def intFrom (S : St) (en : BitVec 64) : Nat → Nat → BitVec 64 × Int × Bool × Bool
  | 0, _ => (0#64, 0, false, false)
  | k + 1, m => if firesB S en m = true then (9223372036854775808#64 ||| BitVec.ofNat 64 (tb m - (if tv m then 1 else 0)), tl m, tv m, true) else intFrom S en k (m + 1)
def intV (S : St) (t l : Bool) : BitVec 64 × Int × Bool × Bool := intFrom S (enB S t l) 8 0
theorem t_ix (m : Nat) (h : m < 8) (w : World) : (Instr.index 185 (.agg turnsA) (.int .i64 (m : Int))).run Tryz.prog w = .ok (.agg #[.int .i64 (tb m : Int), .int .i64 (ti m : Int), .bool (tg m), .int .i64 (tl m), .bool (tv m)]) w := by
  have i0 : ∀ w, (Instr.index 185 (.agg turnsA) (.int .i64 0)).run Tryz.prog w = .ok (.agg (turnA 0)) w := fun _ => by kernel_rfl
  have i1 : ∀ w, (Instr.index 185 (.agg turnsA) (.int .i64 1)).run Tryz.prog w = .ok (.agg (turnA 1)) w := fun _ => by kernel_rfl
  have i2 : ∀ w, (Instr.index 185 (.agg turnsA) (.int .i64 2)).run Tryz.prog w = .ok (.agg (turnA 2)) w := fun _ => by kernel_rfl
  have i3 : ∀ w, (Instr.index 185 (.agg turnsA) (.int .i64 3)).run Tryz.prog w = .ok (.agg (turnA 3)) w := fun _ => by kernel_rfl
  have i4 : ∀ w, (Instr.index 185 (.agg turnsA) (.int .i64 4)).run Tryz.prog w = .ok (.agg (turnA 4)) w := fun _ => by kernel_rfl
  have i5 : ∀ w, (Instr.index 185 (.agg turnsA) (.int .i64 5)).run Tryz.prog w = .ok (.agg (turnA 5)) w := fun _ => by kernel_rfl
  have i6 : ∀ w, (Instr.index 185 (.agg turnsA) (.int .i64 6)).run Tryz.prog w = .ok (.agg (turnA 6)) w := fun _ => by kernel_rfl
  have i7 : ∀ w, (Instr.index 185 (.agg turnsA) (.int .i64 7)).run Tryz.prog w = .ok (.agg (turnA 7)) w := fun _ => by kernel_rfl
  match m, h with
  | 0, _ => exact i0 w
  | 1, _ => exact i1 w
  | 2, _ => exact i2 w
  | 3, _ => exact i3 w
  | 4, _ => exact i4 w
  | 5, _ => exact i5 w
  | 6, _ => exact i6 w
  | 7, _ => exact i7 w
theorem t_facts (m : Nat) (h : m < 8) : tb m < 64 ∧ 1 ≤ tb m ∧ ti m < 29 := by
  match m, h with
  | 0, _ | 1, _ | 2, _ | 3, _ | 4, _ | 5, _ | 6, _ | 7, _ => decide
set_option maxHeartbeats 4000000 in
theorem int_b (S : St) (t l : Bool) : Gives Tryz.prog 64 #[.agg (stA S), .bool t, .bool l] (.tuple #[U (intV S t l).1, .int .i64 (intV S t l).2.1, .bool (intV S t l).2.2.1, .bool (intV S t l).2.2.2]) := by
  intro w
  have sz := stA_size S
  have hs := HasSt.new w S
  have hb : Below w.heap.size w (w.alloc (.cells (stA S) 37)) := (Below.refl _ _).alloc (Nat.le_refl _) _
  have h1 := Lib.hid (en_b S t l)
  obtain ⟨en, hen⟩ : ∃ en, en = enB S t l := ⟨_, rfl⟩
  rw [← hen] at h1
  obtain ⟨r, hr⟩ : ∃ r, r = intV S t l := ⟨_, rfl⟩
  rw [← hr]
  have hr : intFrom S en (8 - 0) 0 = r := by rw [hr, hen]; rfl
  have HS := Lib.hid hs
  have HB := Lib.hid hb
  clear hs hb hen
  obtain ⟨b, hbs⟩ : ∃ b, b = w.heap.size := ⟨_, rfl⟩
  go_enter Tryz.func64, Tryz.ntmps64
  go_wp2_with (first | (refine wpList_load_st HS.out rfl rfl rfl ?_) | fail)
  (with_reducible refine (h1.out.run _).mono ?_)
  rintro e w1 ⟨rfl, hb1⟩
  have HS := Lib.hid (HS.out.below hb1)
  have HB := Lib.hid (HBstep HB.out hb1)
  clear hb1
  go_wp2_with fail
  (with_reducible refine (turns_b.run _).mono ?_)
  rintro e w2 ⟨rfl, hb1⟩
  have HS := Lib.hid (HS.out.below hb1)
  have HB := Lib.hid (HBstep HB.out hb1)
  clear hb1
  rw [← hbs] at HS ⊢
  clear hbs
  go_wp2_with fail
  go_loopw [19] (fun i wr => ∃ m : Nat, m ≤ 8 ∧ i = .int .i64 m ∧ intFrom S en (8 - m) m = r ∧ HasSt wr b S ∧ Below w.heap.size w wr) (fun i _ => 8 - (intOf i).toNat)
  case atStart => exact ⟨0, by omega, rfl, hr, HS.out, HB.out⟩
  case round =>
    clear HS HB
    obtain ⟨m, hm, rfl, hi, hs, hb⟩ := hrel
    have HS := Lib.hid hs
    have HB := Lib.hid hb
    clear hs hb
    by_cases hm8 : m < 8
    · have ix := t_ix m hm8
      obtain ⟨g1, g2, g3⟩ := t_facts m hm8
      have hi2 : (if (en.getLsbD (tb m) && ((S.c (ti m)).getLsbD (tb m) == tg m) && openB S (tl m) (tv m)) = true then (9223372036854775808#64 ||| BitVec.ofNat 64 (tb m - (if tv m then 1 else 0)), tl m, tv m, true) else intFrom S en (8 - (m + 1)) (m + 1)) = r := by
        rw [← hi, show 8 - m = (8 - (m + 1)) + 1 by omega]; rfl
      have p1 := bits_b en (tb m) 1
      rw [loOf_nat _ g1, nOf_one _ g1] at p1
      have q2 : (((bitsB en (tb m) 1).toNat : Int) == 0) = !(en.getLsbD (tb m)) := (u_beq _ 0#64).trans (bit_zero en (tb m))
      have p2 := cbit_b S (ti m) (tb m) g3 g1
      have p3 := open_b S (tb m : Int) (ti m : Int) (tg m) (tl m) (tv m)
      have o1 := u_or 9223372036854775808#64 (BitVec.ofNat 64 (tb m))
      have o2 := u_or 9223372036854775808#64 (BitVec.ofNat 64 (tb m - 1))
      rw [ofNat_toNat (tb m) (by omega)] at o1
      rw [ofNat_toNat (tb m - 1) (by omega)] at o2
      rw [show ((tb m - 1 : Nat) : Int) = (tb m : Int) - 1 by omega] at o2
      rw [show ((9223372036854775808#64 : BitVec 64).toNat : Int) = 9223372036854775808 from rfl] at o1 o2
      have w1 : IntKind.u64.wrap (tb m : Int) = (tb m : Int) := IntWalk.u64_in _ ⟨by omega, by omega⟩
      have w2 : IntKind.u64.wrap ((tb m : Int) - 1) = (tb m : Int) - 1 := IntWalk.u64_in _ ⟨by omega, by omega⟩
      have w3 : IntKind.i64.wrap ((tb m : Int) - 1) = (tb m : Int) - 1 := IntWalk.i64_in _ ⟨by omega, by omega⟩
      generalize hx1 : 9223372036854775808#64 ||| BitVec.ofNat 64 (tb m) = x1 at o1
      generalize hx2 : 9223372036854775808#64 ||| BitVec.ofNat 64 (tb m - 1) = x2 at o2
      have hi3 : (if (en.getLsbD (tb m) && ((S.c (ti m)).getLsbD (tb m) == tg m) && openB S (tl m) (tv m)) = true then (if tv m = true then x2 else x1, tl m, tv m, true) else intFrom S en (8 - (m + 1)) (m + 1)) = r := by
        rw [← hi2, ← hx1, ← hx2]
        cases tv m <;> rfl
      clear hi hi2 hx1 hx2
      generalize bitsB en (tb m) 1 = y1 at *
      generalize en.getLsbD (tb m) = eb at *
      generalize (S.c (ti m)).getLsbD (tb m) = cb at *
      generalize openB S (tl m) (tv m) = ob at *
      generalize tb m = k at *
      generalize ti m = ii at *
      generalize tg m = gv at *
      generalize tl m = lv at *
      generalize tv m = vv at *
      have P1 := Lib.hid p1
      have P2 := Lib.hid p2
      have P3 := Lib.hid p3
      have HI := Lib.hid hi3
      clear p1 p2 p3 hi3 g1 g2 g3
      go_wp2_with fail
      obtain ⟨W, hW⟩ : ∃ W, W = wr.alloc (.cells #[.int .i64 (k : Int), .int .i64 (ii : Int), .bool gv, .int .i64 lv, .bool vv] 184) := ⟨_, rfl⟩
      have hbW : Below wr.heap.size wr W := by rw [hW]; exact (Below.refl _ _).alloc (Nat.le_refl _) _
      have s4 : W.heap[wr.heap.size]? = some (.cells #[.int .i64 (k : Int), .int .i64 (ii : Int), .bool gv, .int .i64 lv, .bool vv] 184 (0, 0)) := by rw [hW]; exact (MapKept.heap_alloc wr _).1
      have HS := Lib.hid (HS.out.below hbW)
      have HB := Lib.hid (HBstep HB.out hbW)
      rw [← hW]
      obtain ⟨q, hq⟩ : ∃ q, q = wr.heap.size := ⟨_, rfl⟩
      rw [← hq] at s4 ⊢
      clear hW hbW hq
      have hql : q < W.heap.size := (Array.getElem?_eq_some_iff.1 s4).1
      have e0 : ∀ s : Beyond W, s.to.cell? ⟨q, 0, none⟩ = some (.int .i64 (k : Int)) := fun s => by simp [World.cell?, (s.ok.block q hql).trans s4]
      have e1 : ∀ s : Beyond W, s.to.cell? ⟨q, 1, none⟩ = some (.int .i64 (ii : Int)) := fun s => by simp [World.cell?, (s.ok.block q hql).trans s4]
      have e2 : ∀ s : Beyond W, s.to.cell? ⟨q, 2, none⟩ = some (.bool gv) := fun s => by simp [World.cell?, (s.ok.block q hql).trans s4]
      have e3 : ∀ s : Beyond W, s.to.cell? ⟨q, 3, none⟩ = some (.int .i64 lv) := fun s => by simp [World.cell?, (s.ok.block q hql).trans s4]
      have e4 : ∀ s : Beyond W, s.to.cell? ⟨q, 4, none⟩ = some (.bool vv) := fun s => by simp [World.cell?, (s.ok.block q hql).trans s4]
      clear s4 hql
      cases eb
      · refine wp_region_below (W := W) (by kernel_rfl) (by kernel_rfl) (Below.refl _ _) ?_
        repeat (first | (go_big_quiet_want; refine quiet_load_st HS.out rfl rfl ?_; go_simp; go_big_quiet_on) | (go_big_quiet_step ((go_at_call 78; with_reducible exact (P1.out.at_ _)))))
        refine wpQuiet_nil ?_
        intro w4 hb4
        have HS4 := Lib.hid (HS.out.below hb4)
        have HB4 := Lib.hid (HBstep HB.out hb4)
        clear hb4 e0 e1 e2 e3 e4
        go_wp2
        go_roundw
        case rel => exact ⟨m + 1, by omega, by go_num, HI.out, HS4.out, HB4.out⟩
        case measure => simp [intOf]; omega
      · cases cb <;> cases gv
        · cases ob
          · have HI := Lib.hid (show intFrom S en (8 - (m + 1)) (m + 1) = r by have := HI.out; simpa using this)
            refine wp_region_below (W := W) (by kernel_rfl) (by kernel_rfl) (Below.refl _ _) ?_
            repeat (first | (go_big_quiet_want; refine quiet_load_st HS.out rfl rfl ?_; go_simp; go_big_quiet_on) | (go_big_quiet_step ((first | (go_at_call 78; with_reducible exact (P1.out.at_ _)) | (go_at_call 88; with_reducible exact (P2.out.at_ _)) | (go_at_call 89; with_reducible exact (P3.out.at_ _))))))
            refine wpQuiet_nil ?_
            intro w4 hb4
            have HS4 := Lib.hid (HS.out.below hb4)
            have HB4 := Lib.hid (HBstep HB.out hb4)
            clear hb4 e0 e1 e2 e3 e4
            go_wp2
            go_roundw
            case rel => exact ⟨m + 1, by omega, by go_num, HI.out, HS4.out, HB4.out⟩
            case measure => simp [intOf]; omega
          · have HI := Lib.hid (show (if vv = true then x2 else x1, lv, vv, true) = r by have := HI.out; simpa using this)
            refine wp_region_below (W := W) (by kernel_rfl) (by kernel_rfl) (Below.refl _ _) ?_
            repeat (first | (go_big_quiet_want; refine quiet_load_st HS.out rfl rfl ?_; go_simp; go_big_quiet_on) | (go_big_quiet_step ((first | (go_at_call 78; with_reducible exact (P1.out.at_ _)) | (go_at_call 88; with_reducible exact (P2.out.at_ _)) | (go_at_call 89; with_reducible exact (P3.out.at_ _))))))
            refine wpQuiet_nil ?_
            intro w4 hb4
            have HS4 := Lib.hid (HS.out.below hb4)
            have HB4 := Lib.hid (HBstep HB.out hb4)
            have f0 : w4.cell? ⟨q, 0, none⟩ = some (.int .i64 (k : Int)) := e0 ⟨w4, hb4⟩
            have f3 : w4.cell? ⟨q, 3, none⟩ = some (.int .i64 lv) := e3 ⟨w4, hb4⟩
            have f4 : w4.cell? ⟨q, 4, none⟩ = some (.bool vv) := e4 ⟨w4, hb4⟩
            clear hb4 e0 e1 e2 e3 e4
            cases vv
            · go_wp2
              go_region
              all_goals (try go_wp2)
              all_goals (try simp only [Exit.inBlock, Exit.then])
              all_goals (refine bodyPost_ret (results_tmp4 rfl _ _ _) rfl ?_)
              all_goals (rw [← HI.out]; exact ⟨rfl, HB4.out.drew⟩)
            · go_wp2
              go_region
              all_goals (try go_wp2)
              all_goals (try simp only [Exit.inBlock, Exit.then])
              all_goals (refine bodyPost_ret (results_tmp4 rfl _ _ _) rfl ?_)
              all_goals (rw [← HI.out]; exact ⟨rfl, HB4.out.drew⟩)
        · have HI := Lib.hid (show intFrom S en (8 - (m + 1)) (m + 1) = r by have := HI.out; simpa using this)
          refine wp_region_below (W := W) (by kernel_rfl) (by kernel_rfl) (Below.refl _ _) ?_
          repeat (first | (go_big_quiet_want; refine quiet_load_st HS.out rfl rfl ?_; go_simp; go_big_quiet_on) | (go_big_quiet_step ((first | (go_at_call 78; with_reducible exact (P1.out.at_ _)) | (go_at_call 88; with_reducible exact (P2.out.at_ _)) | (go_at_call 89; with_reducible exact (P3.out.at_ _))))))
          refine wpQuiet_nil ?_
          intro w4 hb4
          have HS4 := Lib.hid (HS.out.below hb4)
          have HB4 := Lib.hid (HBstep HB.out hb4)
          clear hb4 e0 e1 e2 e3 e4
          go_wp2
          go_roundw
          case rel => exact ⟨m + 1, by omega, by go_num, HI.out, HS4.out, HB4.out⟩
          case measure => simp [intOf]; omega
        · have HI := Lib.hid (show intFrom S en (8 - (m + 1)) (m + 1) = r by have := HI.out; simpa using this)
          refine wp_region_below (W := W) (by kernel_rfl) (by kernel_rfl) (Below.refl _ _) ?_
          repeat (first | (go_big_quiet_want; refine quiet_load_st HS.out rfl rfl ?_; go_simp; go_big_quiet_on) | (go_big_quiet_step ((first | (go_at_call 78; with_reducible exact (P1.out.at_ _)) | (go_at_call 88; with_reducible exact (P2.out.at_ _)) | (go_at_call 89; with_reducible exact (P3.out.at_ _))))))
          refine wpQuiet_nil ?_
          intro w4 hb4
          have HS4 := Lib.hid (HS.out.below hb4)
          have HB4 := Lib.hid (HBstep HB.out hb4)
          clear hb4 e0 e1 e2 e3 e4
          go_wp2
          go_roundw
          case rel => exact ⟨m + 1, by omega, by go_num, HI.out, HS4.out, HB4.out⟩
          case measure => simp [intOf]; omega
        · cases ob
          · have HI := Lib.hid (show intFrom S en (8 - (m + 1)) (m + 1) = r by have := HI.out; simpa using this)
            refine wp_region_below (W := W) (by kernel_rfl) (by kernel_rfl) (Below.refl _ _) ?_
            repeat (first | (go_big_quiet_want; refine quiet_load_st HS.out rfl rfl ?_; go_simp; go_big_quiet_on) | (go_big_quiet_step ((first | (go_at_call 78; with_reducible exact (P1.out.at_ _)) | (go_at_call 88; with_reducible exact (P2.out.at_ _)) | (go_at_call 89; with_reducible exact (P3.out.at_ _))))))
            refine wpQuiet_nil ?_
            intro w4 hb4
            have HS4 := Lib.hid (HS.out.below hb4)
            have HB4 := Lib.hid (HBstep HB.out hb4)
            clear hb4 e0 e1 e2 e3 e4
            go_wp2
            go_roundw
            case rel => exact ⟨m + 1, by omega, by go_num, HI.out, HS4.out, HB4.out⟩
            case measure => simp [intOf]; omega
          · have HI := Lib.hid (show (if vv = true then x2 else x1, lv, vv, true) = r by have := HI.out; simpa using this)
            refine wp_region_below (W := W) (by kernel_rfl) (by kernel_rfl) (Below.refl _ _) ?_
            repeat (first | (go_big_quiet_want; refine quiet_load_st HS.out rfl rfl ?_; go_simp; go_big_quiet_on) | (go_big_quiet_step ((first | (go_at_call 78; with_reducible exact (P1.out.at_ _)) | (go_at_call 88; with_reducible exact (P2.out.at_ _)) | (go_at_call 89; with_reducible exact (P3.out.at_ _))))))
            refine wpQuiet_nil ?_
            intro w4 hb4
            have HS4 := Lib.hid (HS.out.below hb4)
            have HB4 := Lib.hid (HBstep HB.out hb4)
            have f0 : w4.cell? ⟨q, 0, none⟩ = some (.int .i64 (k : Int)) := e0 ⟨w4, hb4⟩
            have f3 : w4.cell? ⟨q, 3, none⟩ = some (.int .i64 lv) := e3 ⟨w4, hb4⟩
            have f4 : w4.cell? ⟨q, 4, none⟩ = some (.bool vv) := e4 ⟨w4, hb4⟩
            clear hb4 e0 e1 e2 e3 e4
            cases vv
            · go_wp2
              go_region
              all_goals (try go_wp2)
              all_goals (try simp only [Exit.inBlock, Exit.then])
              all_goals (refine bodyPost_ret (results_tmp4 rfl _ _ _) rfl ?_)
              all_goals (rw [← HI.out]; exact ⟨rfl, HB4.out.drew⟩)
            · go_wp2
              go_region
              all_goals (try go_wp2)
              all_goals (try simp only [Exit.inBlock, Exit.then])
              all_goals (refine bodyPost_ret (results_tmp4 rfl _ _ _) rfl ?_)
              all_goals (rw [← HI.out]; exact ⟨rfl, HB4.out.drew⟩)
    · obtain rfl : m = 8 := by omega
      have HI := Lib.hid hi
      clear hi
      go_wp2
      (try simp only [Exit.inBlock, Exit.then])
      refine bodyPost_ret (results_tmp4 rfl _ _ _) rfl ?_
      rw [← HI.out]
      exact ⟨rfl, HB.out⟩
end Go.Proofs.YtfehilinnalflaaGreat
