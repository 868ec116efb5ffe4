/- The walk of BusPlays; no condition but the steps' cells. -/
import Derived.Test.YtkjbhjmjfacjcaaBusT
import Derived.Deep.RegionHeld3
namespace Go.Proofs.Ytkjbhjmjfacjcaa
open Go.RowKit Go.BigFrame
set_option linter.unusedSimpArgs false
set_option linter.unusedVariables false
set_option maxRecDepth 100000

theorem cell_at7 {w : World} {b : Nat} {cs : Array Value} {T : TypeId} (h : w.heap[b]? = some (.cells cs T (0, 0))) (j : Nat) {v : Value} (hv : cs[j]? = some v) : w.cell? ⟨b, j, none⟩ = some v := by simp [World.cell?, h, hv]
/-- What a slice of steps holds. -/
def Steps7 (w : World) (a : Option Addr) (n : Nat) : Prop := 0 < n → ∃ (b o : Nat) (W N : Nat → Int) (A V : Nat → BitVec 64) (B : Nat → ByteArray), a = some ⟨b, o, none⟩ ∧ b < w.heap.size ∧ ∀ j, j < n →
  w.cell? ⟨b, o + j * 5, none⟩ = some (.int .i64 (W j)) ∧ w.cell? ⟨b, o + j * 5 + 1, none⟩ = some (.int .i64 (N j)) ∧ w.cell? ⟨b, o + j * 5 + 2, none⟩ = some (U (A j)) ∧ w.cell? ⟨b, o + j * 5 + 3, none⟩ = some (U (V j)) ∧
  w.cell? ⟨b, o + j * 5 + 4, none⟩ = some (.string (B j)) ∧ (B j).size ≤ maxLen ∧ N j < 9223372036854775808
theorem bplays_many (a : Option Addr) (n c : Nat) (w : World) (hn : ¬ n ≤ 40) :
    Calls Try.prog 12 #[.slice a n c] w fun e w' => e = .returned (.bool true) ∧ Below w.heap.size w w' := by
  have d : decide ((40 : Int) < (n : Int)) = true := decide_eq_true (by omega)
  clear hn
  go_enter Try.func12, Try.ntmps12
  go_wp2_with fail
  (with_reducible refine (known7_b.run _).mono ?_)
  rintro e w1 ⟨rfl, HB0⟩
  have HB0 := Lib.hid HB0
  go_wp2
  go_ret
  exact ⟨rfl, HB0.out⟩
theorem fine0 (f : Nat → UInt8) : Fine (busV0 f) := ⟨fun _ _ => by show ((List.length ([] : List UInt8) : Nat) : Int) ≤ 0; simp, fun _ _ => by show List.length ([] : List UInt8) ≤ 64; simp, fun _ _ => by show (0 : Int) ≤ 64; omega⟩
theorem rb_zero (f : Nat → UInt8) : rb0 f = rbOf (busV0 f) := rfl
theorem outs_copy {S : BusV} (F : Fine S) : ∀ k, k < 4 → ((cpS S 4).ls (2 * k + 1)).length ≤ 64 := fun k hk => by
  show (if 2 * k + 1 < 2 * 4 then S.ls (2 * k + 1) else []).length ≤ 64
  rw [if_pos (by omega)]; exact F.out k hk
theorem outs_write {S : BusV} (F : ∀ k, k < 4 → (S.ls (2 * k + 1)).length ≤ 64) (a : BitVec 64) (n : Int) (x : BitVec 64) : ∀ k, k < 4 → ((bwS S a n x).ls (2 * k + 1)).length ≤ 64 := fun k hk => by
  unfold bwS
  cases hc : conOf a n with
  | none => simp only; split <;> exact F k hk
  | some m =>
    show (updN S.ls (2 * m + 1) _ (2 * k + 1)).length ≤ 64
    by_cases e : k = m
    · subst e; rw [updN_same]; exact last64_len _
    · rw [updN_other _ _ _ _ (by omega)]; exact F k hk
/-- The memory behind our bus, and its frames. -/
theorem Trio.mem_at {w W : World} {b rb q h c k : Nat} {X : Option Obj} {S Sc : BusV} {R : RbV} (t : Trio w W b rb q h c k X S Sc R) : ∃ p, ∀ V (hV : Below W.heap.size W V),
    (Calls Try.prog 34 #[.pointer (some ⟨b, 0, none⟩)] V fun e w'' => e = .returned (.pointer (some ⟨p, 0, none⟩)) ∧ ∃ s' : Beyond W, w'' = s'.to) ∧
    ∀ j, Calls Try.prog 43 #[.pointer (some ⟨p, 0, none⟩), .int .i64 j] V fun e w'' => e = .returned (.string (frF S.f j)) ∧ ∃ s' : Beyond W, w'' = s'.to := by
  obtain ⟨p, g, ks, vs, pc, gc, kc, vc, t⟩ := t
  refine ⟨p, fun V hV => ⟨?_, fun j => ?_⟩⟩
  · exact (bmem b _ p g ks vs S V (t.bus.below hV)).mono fun e w'' ⟨h1, h2⟩ => ⟨h1, ⟨V, hV⟩, h2.symm⟩
  · exact (frame_all j V (t.bus.below hV).mem).mono fun e w'' ⟨h1, h2⟩ => ⟨h1, ⟨w'', HBstep hV h2⟩, rfl⟩
set_option maxHeartbeats 8000000 in
theorem bplays_few (a : Option Addr) (n c : Nat) (w : World) (hS : Steps7 w a n) (hn : n ≤ 40) :
    Calls Try.prog 12 #[.slice a n c] w fun e w' => e = .returned (.bool true) ∧ Below w.heap.size w w' := by
  have HS := Lib.hid hS
  have d40 : decide ((40 : Int) < (n : Int)) = false := decide_eq_false (by omega)
  clear hS
  go_enter Try.func12, Try.ntmps12
  go_wp2_with fail
  (with_reducible refine (known7_b.run _).mono ?_)
  rintro e w0 ⟨rfl, HB0⟩
  have HB0 := Lib.hid HB0
  go_wp2_with fail
  refine (bnew_nil _).mono ?_
  rintro e w1 ⟨b, rfl, hb0, HB, hb1⟩
  have HB := Lib.hid HB
  have HB1 := Lib.hid (HBstep HB0.out hb1)
  clear hb1
  go_wp2_with fail
  refine (rnew_all _).mono ?_
  rintro e w2 ⟨q, h, rfl, hq, hh, hql, hhl, N, hb2⟩
  have N := Lib.hid N
  have HB2 := Lib.hid (HB.out.below hb2)
  have HB3 := Lib.hid (HBstep HB1.out hb2)
  go_wp2_with fail
  refine (rnewbus w2 N.out).mono ?_
  rintro e w3 ⟨rfl, HR, hb3⟩
  obtain ⟨rb, hrb⟩ : ∃ rb, rb = w2.heap.size := ⟨_, rfl⟩
  rw [← hrb] at HR ⊢
  have D := Lib.hid (show ∃ S, Duo w w3 b rb q h S (rbOf S) ∧ Fine S from by
    obtain ⟨p, g, ks, vs, I⟩ := HB.out
    have s1 := HB1.out.size
    have s2 := hb2.size
    refine ⟨busV0 fun _ => 0, ⟨p, g, ks, vs, ((I.below hb2).below hb3).weak HB0.out.size, by rw [← rb_zero]; exact HR, HBstep HB3.out hb3, ?_, ?_, ?_⟩, fine0 _⟩
    · intro j o o2
      have := I.own_lt o
      rcases o2 with rfl | rfl | rfl <;> omega
    · omega
    · omega)
  clear HR hb3 hrb HB2 HB3 HB1 HB N hb2 hql hhl hq hh hb0 HB0
  go_wp2_with fail
  go_loopw [5] (fun i wr => ∃ m : Nat, m ≤ n ∧ i = .int .i64 m ∧ ∃ S, Duo w wr b rb q h S (rbOf S) ∧ Fine S) (fun i _ => n - (intOf i).toNat)
  case atStart => exact ⟨0, by omega, rfl, D.out⟩
  case round =>
    clear D
    obtain ⟨m, hm, rfl, S, D, F⟩ := hrel
    by_cases hmn : m < n
    · obtain ⟨sb, o, Wh, Nn, Aa, Vv, Bb, rfl, hb, hc⟩ := HS.out (by omega)
      obtain ⟨c0, c1, c2, c3, c4, hsz, hnb⟩ := hc m hmn
      clear hc
      rw [← D.hb.cell (p := ⟨sb, o + m * 5, none⟩) hb] at c0
      rw [← D.hb.cell (p := ⟨sb, o + m * 5 + 1, none⟩) hb] at c1
      rw [← D.hb.cell (p := ⟨sb, o + m * 5 + 2, none⟩) hb] at c2
      rw [← D.hb.cell (p := ⟨sb, o + m * 5 + 3, none⟩) hb] at c3
      rw [← D.hb.cell (p := ⟨sb, o + m * 5 + 4, none⟩) hb] at c4
      have D := Lib.hid D
      have F := Lib.hid F
      have NB := Lib.hid hnb
      clear hnb
      generalize Wh m = wh at *
      generalize Nn m = nn at *
      generalize Aa m = aa at *
      generalize Vv m = vv at *
      generalize Bb m = bb at *
      clear hb
      by_cases h300 : 100 < bb.size
      · have d3 : decide ((100 : Int) < (bb.size : Int)) = true := decide_eq_true (by omega)
        clear h300 hsz
        go_wp2
        go_ret
        exact ⟨rfl, D.out.hb.alloc D.out.hb.size _⟩
      have d3 : decide ((100 : Int) < (bb.size : Int)) = false := decide_eq_false (by omega)
      have hb3 := Lib.hid (show bb.size ≤ 100 by omega)
      clear h300 hsz
      go_wp2_with fail
      have CS : (wr.alloc (.cells #[.int .i64 wh, .int .i64 nn, U aa, U vv, .string bb] 71)).heap[wr.heap.size]? = _ := (MapKept.heap_alloc wr _).1
      have hl : wr.heap.size < (wr.alloc (.cells #[.int .i64 wh, .int .i64 nn, U aa, U vv, .string bb] 71)).heap.size := by simp
      have D2 := (Below.refl wr.heap.size wr).alloc (Nat.le_refl _) (.cells #[.int .i64 wh, .int .i64 nn, U aa, U vv, .string bb] 71)
      generalize wr.alloc (.cells #[.int .i64 wh, .int .i64 nn, U aa, U vv, .string bb] 71) = W at CS hl D2 ⊢
      obtain ⟨k, hk⟩ : ∃ k, k = wr.heap.size := ⟨_, rfl⟩
      rw [← hk] at CS hl ⊢
      clear c0 c1 c2 c3 c4
      have kcp := D.out.copy D2 F.out CS hl (by omega)
      clear CS hl D2 hk D
      (with_reducible refine kcp.mono ?_)
      clear kcp
      rintro e w5 ⟨cc, rfl, T⟩
      obtain ⟨X, hX⟩ : ∃ X, X = some (Obj.cells #[.int .i64 wh, .int .i64 nn, U aa, U vv, .string bb] 71 (0, 0)) := ⟨_, rfl⟩
      rw [← hX] at T
      have HX := Lib.hid hX
      clear hX
      have T := Lib.hid T
      have e0 := cell_at7 (T.out.cell.trans HX.out) 0 rfl
      have e1 := cell_at7 (T.out.cell.trans HX.out) 1 rfl
      have e2 := cell_at7 (T.out.cell.trans HX.out) 2 rfl
      have e3 := cell_at7 (T.out.cell.trans HX.out) 3 rfl
      have e4 := cell_at7 (T.out.cell.trans HX.out) 4 rfl
      have FC := Lib.hid (outs_copy F.out)
      obtain ⟨Sc, hSc⟩ : ∃ Sc, Sc = cpS S 4 := ⟨_, rfl⟩
      rw [← hSc] at T FC
      clear hSc
      have hwh : (wh == 0) = true ∨ ((wh == 0) = false ∧ (wh == 1) = true) ∨ ((wh == 0) = false ∧ (wh == 1) = false ∧ (wh == 2) = true) ∨ ((wh == 0) = false ∧ (wh == 1) = false ∧ (wh == 2) = false ∧ (wh == 3) = true) ∨ ((wh == 0) = false ∧ (wh == 1) = false ∧ (wh == 2) = false ∧ (wh == 3) = false ∧ (wh == 4) = true) ∨ ((wh == 0) = false ∧ (wh == 1) = false ∧ (wh == 2) = false ∧ (wh == 3) = false ∧ (wh == 4) = false) := by
        cases (wh == 0) <;> cases (wh == 1) <;> cases (wh == 2) <;> cases (wh == 3) <;> cases (wh == 4) <;> simp
      rcases hwh with g0 | ⟨g0, g1⟩ | ⟨g0, g1, g2⟩ | ⟨g0, g1, g2, g3⟩ | ⟨g0, g1, g2, g3, g4⟩ | ⟨g0, g1, g2, g3, g4⟩
      · skip
        go_wp2_with fail
        (with_reducible refine (T.out.bread aa nn).mono ?_)
        rintro e w6 ⟨rfl, T6⟩
        have T6 := Lib.hid T6
        clear e0 e1 e2 e3 e4
        have e1 := cell_at7 (T6.out.cell.trans HX.out) 1 rfl
        have e2 := cell_at7 (T6.out.cell.trans HX.out) 2 rfl
        go_wp2_with fail
        (with_reducible refine (T6.out.rread aa nn).mono ?_)
        rintro e w7 ⟨rfl, T7⟩
        have T7 := Lib.hid T7
        have F7 := Lib.hid (fine_read F.out aa nn)
        clear e1 e2 T6 T F
        generalize brS S aa nn = S1 at *
        generalize brV S aa nn = V1 at *
        generalize brOk aa nn = O1 at *
        have q1 : ((V1.toNat : Int) != (V1.toNat : Int)) = false := by simp
        have q2 : (O1 != O1) = false := by simp
        go_wp2_with fail
        have key : Calls Try.prog 28 #[.pointer (some ⟨cc, 0, none⟩), .int .u64 61696, .int .i64 1, .int .u64 99] _ _ := T7.out.cwrite FC.out 61696#64 1 99#64
        have oc : bwOk 61696#64 1 = true := by decide +kernel
        rw [oc] at key
        clear oc
        (with_reducible refine key.mono ?_)
        clear key
        rintro e w8 ⟨rfl, T8⟩
        have T8 := Lib.hid T8
        have FD := Lib.hid (outs_write FC.out 61696#64 1 99#64)
        generalize bwS Sc 61696#64 1 99#64 = Sd at *
        go_wp2_with fail
        have key : Calls Try.prog 28 #[.pointer (some ⟨cc, 0, none⟩), .int .u64 0, .int .i64 8, .int .u64 77] _ _ := T8.out.cwrite FD.out 0#64 8 77#64
        (with_reducible refine key.mono ?_)
        clear key
        rintro e w9 ⟨rfl, T9⟩
        have T9 := Lib.hid T9
        clear T7 T8 FC FD
        go_wp2_with fail
        go_loopw [12] (fun i wr2 => ∃ j : Nat, j ≤ 4 ∧ i = .int .i64 j ∧ Trio w wr2 b rb q h cc k X S1 (bwS Sd 0#64 8 77#64) (rbOf S1)) (fun i _ => 4 - (intOf i).toNat)
        case atStart => exact ⟨0, by omega, rfl, T9.out⟩
        case round =>
          clear T9
          obtain ⟨j, hj, rfl, T9⟩ := hrel
          have T9 := Lib.hid T9
          by_cases hj4 : j < 4
          · have KF := Lib.hid (show ∀ (s : Beyond wr), Calls Try.prog 29 #[.pointer (some ⟨b, 0, none⟩), .int .i64 j] s.to fun e w'' => e = .returned (.string ⟨(S1.ls (2 * j + 1)).toArray⟩) ∧ ∃ s' : Beyond wr, w'' = s'.to from
              fun s => (boutput b _ j S1 s.to (T9.out.b1.below s.ok) hj4).mono fun e w'' ⟨h1, h2⟩ => ⟨h1, s, h2.symm⟩)
            have KR : ∀ s : Beyond wr, s.to.cell? ⟨rb, 11 + j, none⟩ = some (.string ⟨(S1.ls (2 * j + 1)).toArray⟩) := fun s => (T9.out.below s.ok).r1.cout j hj4
            have j4 : (j : Int) < 4 := by omega
            generalize (⟨(S1.ls (2 * j + 1)).toArray⟩ : ByteArray) = O at *
            have oo : (O.toList == O.toList) = true := by simp
            go_wp2_with fail
            refine wp_region_below (W := wr) (by kernel_rfl) (by kernel_rfl) (Below.refl _ _) ?_
            repeat (go_big_quiet_step ((go_at_call 29; with_reducible exact (KF.out _))))
            refine wpQuiet_nil ?_
            intro w10 hb10
            have T10 := Lib.hid (T9.out.below hb10)
            clear hb10 KF KR
            go_wp2
            go_roundw
            case rel => exact ⟨j + 1, by omega, by go_num, T10.out⟩
            case measure => simp [intOf]; omega
          · go_wp2_with fail
            have KT := Lib.hid (show ∀ (s : Beyond wr), Calls Try.prog 31 #[.pointer (some ⟨b, 0, none⟩)] s.to fun e w'' => e = .returned (.bool (decide (S1.al.toNat ≤ S1.t.toNat))) ∧ ∃ s' : Beyond wr, w'' = s'.to from
              fun s => (btimer b _ S1 s.to (T9.out.b1.below s.ok)).mono fun e w'' ⟨h1, kd, h2⟩ => ⟨h1, ⟨w'', by rw [h2]; exact HBstep s.ok (Below.of_drew kd)⟩, rfl⟩)
            have KU := Lib.hid (show ∀ (s : Beyond wr), Calls Try.prog 41 #[.pointer (some ⟨rb, 0, none⟩)] s.to fun e w'' => e = .returned (.bool (decide (S1.al.toNat ≤ S1.t.toNat))) ∧ ∃ s' : Beyond wr, w'' = s'.to from
              fun s => (rtimer rb s.to (T9.out.below s.ok).r1).mono fun e w'' ⟨h1, kd, h2⟩ => ⟨h1, ⟨w'', by rw [h2]; exact HBstep s.ok (Below.of_drew kd)⟩, rfl⟩)
            have KD := Lib.hid (show ∀ (s : Beyond wr), Calls Try.prog 32 #[.pointer (some ⟨b, 0, none⟩), U aa] s.to fun e w'' => e = .returned (.bool (decide (61440 ≤ aa.toNat ∧ aa.toNat < 62720))) ∧ ∃ s' : Beyond wr, w'' = s'.to from
              fun s => (bdevice b aa s.to).mono fun e w'' ⟨h1, h2⟩ => ⟨h1, s, h2.symm⟩)
            have KE := Lib.hid (show ∀ (s : Beyond wr), Calls Try.prog 42 #[.pointer (some ⟨rb, 0, none⟩), U aa] s.to fun e w'' => e = .returned (.bool (decide (61440 ≤ aa.toNat ∧ aa.toNat < 62720))) ∧ ∃ s' : Beyond wr, w'' = s'.to from
              fun s => (rdevice rb aa s.to (T9.out.below s.ok).r1).mono fun e w'' ⟨h1, h2⟩ => ⟨by rw [h1, ← Bool.decide_and], s, h2.symm⟩)
            obtain ⟨p, hp⟩ := T9.out.mem_at
            have KM := Lib.hid (fun s : Beyond wr => (hp s.to s.ok).1)
            have KF := Lib.hid (fun (j : Int) (s : Beyond wr) => (hp s.to s.ok).2 j)
            have KQ := Lib.hid (show ∀ (j : Int) (s : Beyond wr), Calls Try.prog 44 #[.pointer (some ⟨q, 0, none⟩), .int .i64 j] s.to fun e w'' => e = .returned (.string (frF S1.f j)) ∧ ∃ s' : Beyond wr, w'' = s'.to from
              fun j s => (rframe_all j s.to (T9.out.below s.ok).r1.mem).mono fun e w'' ⟨h1, h2⟩ => ⟨h1, s, h2.symm⟩)
            have C2 : ∀ s : Beyond wr, s.to.cell? ⟨k, 2, none⟩ = some (U aa) := fun s => cell_at7 ((T9.out.below s.ok).cell.trans HX.out) 2 rfl
            have R0 : ∀ s : Beyond wr, s.to.cell? ⟨rb, 0, none⟩ = some (.pointer (some ⟨q, 0, none⟩)) := fun s => (T9.out.below s.ok).r1.cell 0
            clear hp
            generalize decide (S1.al.toNat ≤ S1.t.toNat) = d1 at *
            generalize decide (61440 ≤ aa.toNat ∧ aa.toNat < 62720) = d2 at *
            have o1 : (d1 != d1) = false := by simp
            have o2 : (d2 != d2) = false := by simp
            have xw : IntKind.i64.wrap ((aa.toNat : Int) / 256 % 128) = (aa.toNat : Int) / 256 % 128 := IntWalk.i64_in _ ⟨by omega, by omega⟩
            refine wp_region_below (W := wr) (by kernel_rfl) (by kernel_rfl) (Below.refl _ _) ?_
            repeat (go_big_quiet_step ((first | (go_at_call 31; with_reducible exact (KT.out _)) | (go_at_call 41; with_reducible exact (KU.out _)) | (go_at_call 32; with_reducible exact (KD.out _)) | (go_at_call 42; with_reducible exact (KE.out _)) | (go_at_call 34; with_reducible exact (KM.out _)) | (go_at_call 43; with_reducible exact (KF.out _ _)) | (go_at_call 44; with_reducible exact (KQ.out _ _)))))
            refine wpQuiet_nil ?_
            intro w10 hb10
            have T10 := Lib.hid (T9.out.below hb10)
            clear hb10 C2 R0 KT KU KD KE KM KF KQ
            go_wp2
            exact ⟨⟨m + 1, by omega, by go_num, S1, T10.out.duo, F7.out⟩, by simp [intOf]; omega⟩
      · skip
        go_wp2_with fail
        (with_reducible refine (T.out.bread aa nn).mono ?_)
        rintro e w6 ⟨rfl, T6⟩
        have T6 := Lib.hid T6
        clear e0 e1 e2 e3 e4
        have e1 := cell_at7 (T6.out.cell.trans HX.out) 1 rfl
        have e2 := cell_at7 (T6.out.cell.trans HX.out) 2 rfl
        go_wp2_with fail
        (with_reducible refine (T6.out.rread aa nn).mono ?_)
        rintro e w7 ⟨rfl, T7⟩
        have T7 := Lib.hid T7
        have F7 := Lib.hid (fine_read F.out aa nn)
        clear e1 e2 T6 T F
        generalize brS S aa nn = S1 at *
        generalize brV S aa nn = V1 at *
        generalize brOk aa nn = O1 at *
        have q1 : ((V1.toNat : Int) != (V1.toNat : Int)) = false := by simp
        have q2 : (O1 != O1) = false := by simp
        go_wp2_with fail
        have key : Calls Try.prog 28 #[.pointer (some ⟨cc, 0, none⟩), .int .u64 61696, .int .i64 1, .int .u64 99] _ _ := T7.out.cwrite FC.out 61696#64 1 99#64
        have oc : bwOk 61696#64 1 = true := by decide +kernel
        rw [oc] at key
        clear oc
        (with_reducible refine key.mono ?_)
        clear key
        rintro e w8 ⟨rfl, T8⟩
        have T8 := Lib.hid T8
        have FD := Lib.hid (outs_write FC.out 61696#64 1 99#64)
        generalize bwS Sc 61696#64 1 99#64 = Sd at *
        go_wp2_with fail
        have key : Calls Try.prog 28 #[.pointer (some ⟨cc, 0, none⟩), .int .u64 0, .int .i64 8, .int .u64 77] _ _ := T8.out.cwrite FD.out 0#64 8 77#64
        (with_reducible refine key.mono ?_)
        clear key
        rintro e w9 ⟨rfl, T9⟩
        have T9 := Lib.hid T9
        clear T7 T8 FC FD
        go_wp2_with fail
        go_loopw [12] (fun i wr2 => ∃ j : Nat, j ≤ 4 ∧ i = .int .i64 j ∧ Trio w wr2 b rb q h cc k X S1 (bwS Sd 0#64 8 77#64) (rbOf S1)) (fun i _ => 4 - (intOf i).toNat)
        case atStart => exact ⟨0, by omega, rfl, T9.out⟩
        case round =>
          clear T9
          obtain ⟨j, hj, rfl, T9⟩ := hrel
          have T9 := Lib.hid T9
          by_cases hj4 : j < 4
          · have KF := Lib.hid (show ∀ (s : Beyond wr), Calls Try.prog 29 #[.pointer (some ⟨b, 0, none⟩), .int .i64 j] s.to fun e w'' => e = .returned (.string ⟨(S1.ls (2 * j + 1)).toArray⟩) ∧ ∃ s' : Beyond wr, w'' = s'.to from
              fun s => (boutput b _ j S1 s.to (T9.out.b1.below s.ok) hj4).mono fun e w'' ⟨h1, h2⟩ => ⟨h1, s, h2.symm⟩)
            have KR : ∀ s : Beyond wr, s.to.cell? ⟨rb, 11 + j, none⟩ = some (.string ⟨(S1.ls (2 * j + 1)).toArray⟩) := fun s => (T9.out.below s.ok).r1.cout j hj4
            have j4 : (j : Int) < 4 := by omega
            generalize (⟨(S1.ls (2 * j + 1)).toArray⟩ : ByteArray) = O at *
            have oo : (O.toList == O.toList) = true := by simp
            go_wp2_with fail
            refine wp_region_below (W := wr) (by kernel_rfl) (by kernel_rfl) (Below.refl _ _) ?_
            repeat (go_big_quiet_step ((go_at_call 29; with_reducible exact (KF.out _))))
            refine wpQuiet_nil ?_
            intro w10 hb10
            have T10 := Lib.hid (T9.out.below hb10)
            clear hb10 KF KR
            go_wp2
            go_roundw
            case rel => exact ⟨j + 1, by omega, by go_num, T10.out⟩
            case measure => simp [intOf]; omega
          · go_wp2_with fail
            have KT := Lib.hid (show ∀ (s : Beyond wr), Calls Try.prog 31 #[.pointer (some ⟨b, 0, none⟩)] s.to fun e w'' => e = .returned (.bool (decide (S1.al.toNat ≤ S1.t.toNat))) ∧ ∃ s' : Beyond wr, w'' = s'.to from
              fun s => (btimer b _ S1 s.to (T9.out.b1.below s.ok)).mono fun e w'' ⟨h1, kd, h2⟩ => ⟨h1, ⟨w'', by rw [h2]; exact HBstep s.ok (Below.of_drew kd)⟩, rfl⟩)
            have KU := Lib.hid (show ∀ (s : Beyond wr), Calls Try.prog 41 #[.pointer (some ⟨rb, 0, none⟩)] s.to fun e w'' => e = .returned (.bool (decide (S1.al.toNat ≤ S1.t.toNat))) ∧ ∃ s' : Beyond wr, w'' = s'.to from
              fun s => (rtimer rb s.to (T9.out.below s.ok).r1).mono fun e w'' ⟨h1, kd, h2⟩ => ⟨h1, ⟨w'', by rw [h2]; exact HBstep s.ok (Below.of_drew kd)⟩, rfl⟩)
            have KD := Lib.hid (show ∀ (s : Beyond wr), Calls Try.prog 32 #[.pointer (some ⟨b, 0, none⟩), U aa] s.to fun e w'' => e = .returned (.bool (decide (61440 ≤ aa.toNat ∧ aa.toNat < 62720))) ∧ ∃ s' : Beyond wr, w'' = s'.to from
              fun s => (bdevice b aa s.to).mono fun e w'' ⟨h1, h2⟩ => ⟨h1, s, h2.symm⟩)
            have KE := Lib.hid (show ∀ (s : Beyond wr), Calls Try.prog 42 #[.pointer (some ⟨rb, 0, none⟩), U aa] s.to fun e w'' => e = .returned (.bool (decide (61440 ≤ aa.toNat ∧ aa.toNat < 62720))) ∧ ∃ s' : Beyond wr, w'' = s'.to from
              fun s => (rdevice rb aa s.to (T9.out.below s.ok).r1).mono fun e w'' ⟨h1, h2⟩ => ⟨by rw [h1, ← Bool.decide_and], s, h2.symm⟩)
            obtain ⟨p, hp⟩ := T9.out.mem_at
            have KM := Lib.hid (fun s : Beyond wr => (hp s.to s.ok).1)
            have KF := Lib.hid (fun (j : Int) (s : Beyond wr) => (hp s.to s.ok).2 j)
            have KQ := Lib.hid (show ∀ (j : Int) (s : Beyond wr), Calls Try.prog 44 #[.pointer (some ⟨q, 0, none⟩), .int .i64 j] s.to fun e w'' => e = .returned (.string (frF S1.f j)) ∧ ∃ s' : Beyond wr, w'' = s'.to from
              fun j s => (rframe_all j s.to (T9.out.below s.ok).r1.mem).mono fun e w'' ⟨h1, h2⟩ => ⟨h1, s, h2.symm⟩)
            have C2 : ∀ s : Beyond wr, s.to.cell? ⟨k, 2, none⟩ = some (U aa) := fun s => cell_at7 ((T9.out.below s.ok).cell.trans HX.out) 2 rfl
            have R0 : ∀ s : Beyond wr, s.to.cell? ⟨rb, 0, none⟩ = some (.pointer (some ⟨q, 0, none⟩)) := fun s => (T9.out.below s.ok).r1.cell 0
            clear hp
            generalize decide (S1.al.toNat ≤ S1.t.toNat) = d1 at *
            generalize decide (61440 ≤ aa.toNat ∧ aa.toNat < 62720) = d2 at *
            have o1 : (d1 != d1) = false := by simp
            have o2 : (d2 != d2) = false := by simp
            have xw : IntKind.i64.wrap ((aa.toNat : Int) / 256 % 128) = (aa.toNat : Int) / 256 % 128 := IntWalk.i64_in _ ⟨by omega, by omega⟩
            refine wp_region_below (W := wr) (by kernel_rfl) (by kernel_rfl) (Below.refl _ _) ?_
            repeat (go_big_quiet_step ((first | (go_at_call 31; with_reducible exact (KT.out _)) | (go_at_call 41; with_reducible exact (KU.out _)) | (go_at_call 32; with_reducible exact (KD.out _)) | (go_at_call 42; with_reducible exact (KE.out _)) | (go_at_call 34; with_reducible exact (KM.out _)) | (go_at_call 43; with_reducible exact (KF.out _ _)) | (go_at_call 44; with_reducible exact (KQ.out _ _)))))
            refine wpQuiet_nil ?_
            intro w10 hb10
            have T10 := Lib.hid (T9.out.below hb10)
            clear hb10 C2 R0 KT KU KD KE KM KF KQ
            go_wp2
            exact ⟨⟨m + 1, by omega, by go_num, S1, T10.out.duo, F7.out⟩, by simp [intOf]; omega⟩
      · skip
        go_wp2_with fail
        clear e0 e1 e2 e3 e4
        have TD := Lib.hid (T.out.below (Below.refl _ _).drew)
        have qq : (bwOk aa nn != bwOk aa nn) = false := by simp
        go_region_held3 (fun w' => w'.cell? ⟨k, 1, none⟩ = some (.int .i64 nn) ∧ w'.cell? ⟨k, 2, none⟩ = some (U aa) ∧ w'.cell? ⟨k, 3, none⟩ = some (U vv))
          (first | exact ⟨cell_at7 (TD.out.cell.trans HX.out) 1 rfl, cell_at7 (TD.out.cell.trans HX.out) 2 rfl, cell_at7 (TD.out.cell.trans HX.out) 3 rfl⟩ | exact ⟨cell_at7 (T6.out.cell.trans HX.out) 1 rfl, cell_at7 (T6.out.cell.trans HX.out) 2 rfl, cell_at7 (T6.out.cell.trans HX.out) 3 rfl⟩ | exact ⟨cell_at7 (T7.out.cell.trans HX.out) 1 rfl, cell_at7 (T7.out.cell.trans HX.out) 2 rfl, cell_at7 (T7.out.cell.trans HX.out) 3 rfl⟩)
          (first
          | (go_at_call 28; (with_reducible refine (TD.out.bwrite F.out aa nn vv).mono ?_); rintro e w6 ⟨rfl, T6⟩; replace T6 := Lib.hid T6)
          | (go_at_call 39; (with_reducible refine (T6.out.rwrite F.out aa nn vv).mono ?_); rintro e w7 ⟨rfl, T7⟩; replace T7 := Lib.hid T7))
        have F7 := Lib.hid (fine_write F.out aa nn vv)
        clear T6 T TD F
        generalize bwS S aa nn vv = S1 at *
        generalize bwOk aa nn = O1 at *
        go_wp2_with fail
        have key : Calls Try.prog 28 #[.pointer (some ⟨cc, 0, none⟩), .int .u64 61696, .int .i64 1, .int .u64 99] _ _ := T7.out.cwrite FC.out 61696#64 1 99#64
        have oc : bwOk 61696#64 1 = true := by decide +kernel
        rw [oc] at key
        clear oc
        (with_reducible refine key.mono ?_)
        clear key
        rintro e w8 ⟨rfl, T8⟩
        have T8 := Lib.hid T8
        have FD := Lib.hid (outs_write FC.out 61696#64 1 99#64)
        generalize bwS Sc 61696#64 1 99#64 = Sd at *
        go_wp2_with fail
        have key : Calls Try.prog 28 #[.pointer (some ⟨cc, 0, none⟩), .int .u64 0, .int .i64 8, .int .u64 77] _ _ := T8.out.cwrite FD.out 0#64 8 77#64
        (with_reducible refine key.mono ?_)
        clear key
        rintro e w9 ⟨rfl, T9⟩
        have T9 := Lib.hid T9
        clear T7 T8 FC FD
        go_wp2_with fail
        go_loopw [12] (fun i wr2 => ∃ j : Nat, j ≤ 4 ∧ i = .int .i64 j ∧ Trio w wr2 b rb q h cc k X S1 (bwS Sd 0#64 8 77#64) (rbOf S1)) (fun i _ => 4 - (intOf i).toNat)
        case atStart => exact ⟨0, by omega, rfl, T9.out⟩
        case round =>
          clear T9
          obtain ⟨j, hj, rfl, T9⟩ := hrel
          have T9 := Lib.hid T9
          by_cases hj4 : j < 4
          · have KF := Lib.hid (show ∀ (s : Beyond wr), Calls Try.prog 29 #[.pointer (some ⟨b, 0, none⟩), .int .i64 j] s.to fun e w'' => e = .returned (.string ⟨(S1.ls (2 * j + 1)).toArray⟩) ∧ ∃ s' : Beyond wr, w'' = s'.to from
              fun s => (boutput b _ j S1 s.to (T9.out.b1.below s.ok) hj4).mono fun e w'' ⟨h1, h2⟩ => ⟨h1, s, h2.symm⟩)
            have KR : ∀ s : Beyond wr, s.to.cell? ⟨rb, 11 + j, none⟩ = some (.string ⟨(S1.ls (2 * j + 1)).toArray⟩) := fun s => (T9.out.below s.ok).r1.cout j hj4
            have j4 : (j : Int) < 4 := by omega
            generalize (⟨(S1.ls (2 * j + 1)).toArray⟩ : ByteArray) = O at *
            have oo : (O.toList == O.toList) = true := by simp
            go_wp2_with fail
            refine wp_region_below (W := wr) (by kernel_rfl) (by kernel_rfl) (Below.refl _ _) ?_
            repeat (go_big_quiet_step ((go_at_call 29; with_reducible exact (KF.out _))))
            refine wpQuiet_nil ?_
            intro w10 hb10
            have T10 := Lib.hid (T9.out.below hb10)
            clear hb10 KF KR
            go_wp2
            go_roundw
            case rel => exact ⟨j + 1, by omega, by go_num, T10.out⟩
            case measure => simp [intOf]; omega
          · go_wp2_with fail
            have KT := Lib.hid (show ∀ (s : Beyond wr), Calls Try.prog 31 #[.pointer (some ⟨b, 0, none⟩)] s.to fun e w'' => e = .returned (.bool (decide (S1.al.toNat ≤ S1.t.toNat))) ∧ ∃ s' : Beyond wr, w'' = s'.to from
              fun s => (btimer b _ S1 s.to (T9.out.b1.below s.ok)).mono fun e w'' ⟨h1, kd, h2⟩ => ⟨h1, ⟨w'', by rw [h2]; exact HBstep s.ok (Below.of_drew kd)⟩, rfl⟩)
            have KU := Lib.hid (show ∀ (s : Beyond wr), Calls Try.prog 41 #[.pointer (some ⟨rb, 0, none⟩)] s.to fun e w'' => e = .returned (.bool (decide (S1.al.toNat ≤ S1.t.toNat))) ∧ ∃ s' : Beyond wr, w'' = s'.to from
              fun s => (rtimer rb s.to (T9.out.below s.ok).r1).mono fun e w'' ⟨h1, kd, h2⟩ => ⟨h1, ⟨w'', by rw [h2]; exact HBstep s.ok (Below.of_drew kd)⟩, rfl⟩)
            have KD := Lib.hid (show ∀ (s : Beyond wr), Calls Try.prog 32 #[.pointer (some ⟨b, 0, none⟩), U aa] s.to fun e w'' => e = .returned (.bool (decide (61440 ≤ aa.toNat ∧ aa.toNat < 62720))) ∧ ∃ s' : Beyond wr, w'' = s'.to from
              fun s => (bdevice b aa s.to).mono fun e w'' ⟨h1, h2⟩ => ⟨h1, s, h2.symm⟩)
            have KE := Lib.hid (show ∀ (s : Beyond wr), Calls Try.prog 42 #[.pointer (some ⟨rb, 0, none⟩), U aa] s.to fun e w'' => e = .returned (.bool (decide (61440 ≤ aa.toNat ∧ aa.toNat < 62720))) ∧ ∃ s' : Beyond wr, w'' = s'.to from
              fun s => (rdevice rb aa s.to (T9.out.below s.ok).r1).mono fun e w'' ⟨h1, h2⟩ => ⟨by rw [h1, ← Bool.decide_and], s, h2.symm⟩)
            obtain ⟨p, hp⟩ := T9.out.mem_at
            have KM := Lib.hid (fun s : Beyond wr => (hp s.to s.ok).1)
            have KF := Lib.hid (fun (j : Int) (s : Beyond wr) => (hp s.to s.ok).2 j)
            have KQ := Lib.hid (show ∀ (j : Int) (s : Beyond wr), Calls Try.prog 44 #[.pointer (some ⟨q, 0, none⟩), .int .i64 j] s.to fun e w'' => e = .returned (.string (frF S1.f j)) ∧ ∃ s' : Beyond wr, w'' = s'.to from
              fun j s => (rframe_all j s.to (T9.out.below s.ok).r1.mem).mono fun e w'' ⟨h1, h2⟩ => ⟨h1, s, h2.symm⟩)
            have C2 : ∀ s : Beyond wr, s.to.cell? ⟨k, 2, none⟩ = some (U aa) := fun s => cell_at7 ((T9.out.below s.ok).cell.trans HX.out) 2 rfl
            have R0 : ∀ s : Beyond wr, s.to.cell? ⟨rb, 0, none⟩ = some (.pointer (some ⟨q, 0, none⟩)) := fun s => (T9.out.below s.ok).r1.cell 0
            clear hp
            generalize decide (S1.al.toNat ≤ S1.t.toNat) = d1 at *
            generalize decide (61440 ≤ aa.toNat ∧ aa.toNat < 62720) = d2 at *
            have o1 : (d1 != d1) = false := by simp
            have o2 : (d2 != d2) = false := by simp
            have xw : IntKind.i64.wrap ((aa.toNat : Int) / 256 % 128) = (aa.toNat : Int) / 256 % 128 := IntWalk.i64_in _ ⟨by omega, by omega⟩
            refine wp_region_below (W := wr) (by kernel_rfl) (by kernel_rfl) (Below.refl _ _) ?_
            repeat (go_big_quiet_step ((first | (go_at_call 31; with_reducible exact (KT.out _)) | (go_at_call 41; with_reducible exact (KU.out _)) | (go_at_call 32; with_reducible exact (KD.out _)) | (go_at_call 42; with_reducible exact (KE.out _)) | (go_at_call 34; with_reducible exact (KM.out _)) | (go_at_call 43; with_reducible exact (KF.out _ _)) | (go_at_call 44; with_reducible exact (KQ.out _ _)))))
            refine wpQuiet_nil ?_
            intro w10 hb10
            have T10 := Lib.hid (T9.out.below hb10)
            clear hb10 C2 R0 KT KU KD KE KM KF KQ
            go_wp2
            exact ⟨⟨m + 1, by omega, by go_num, S1, T10.out.duo, F7.out⟩, by simp [intOf]; omega⟩
      · skip
        go_wp2_with fail
        clear e0 e1 e2 e3 e4
        have TD := Lib.hid (T.out.below (Below.refl _ _).drew)
        have qq : (bwOk aa nn != bwOk aa nn) = false := by simp
        go_region_held3 (fun w' => w'.cell? ⟨k, 1, none⟩ = some (.int .i64 nn) ∧ w'.cell? ⟨k, 2, none⟩ = some (U aa) ∧ w'.cell? ⟨k, 3, none⟩ = some (U vv))
          (first | exact ⟨cell_at7 (TD.out.cell.trans HX.out) 1 rfl, cell_at7 (TD.out.cell.trans HX.out) 2 rfl, cell_at7 (TD.out.cell.trans HX.out) 3 rfl⟩ | exact ⟨cell_at7 (T6.out.cell.trans HX.out) 1 rfl, cell_at7 (T6.out.cell.trans HX.out) 2 rfl, cell_at7 (T6.out.cell.trans HX.out) 3 rfl⟩ | exact ⟨cell_at7 (T7.out.cell.trans HX.out) 1 rfl, cell_at7 (T7.out.cell.trans HX.out) 2 rfl, cell_at7 (T7.out.cell.trans HX.out) 3 rfl⟩)
          (first
          | (go_at_call 28; (with_reducible refine (TD.out.bwrite F.out aa nn vv).mono ?_); rintro e w6 ⟨rfl, T6⟩; replace T6 := Lib.hid T6)
          | (go_at_call 39; (with_reducible refine (T6.out.rwrite F.out aa nn vv).mono ?_); rintro e w7 ⟨rfl, T7⟩; replace T7 := Lib.hid T7))
        have F7 := Lib.hid (fine_write F.out aa nn vv)
        clear T6 T TD F
        generalize bwS S aa nn vv = S1 at *
        generalize bwOk aa nn = O1 at *
        go_wp2_with fail
        have key : Calls Try.prog 28 #[.pointer (some ⟨cc, 0, none⟩), .int .u64 61696, .int .i64 1, .int .u64 99] _ _ := T7.out.cwrite FC.out 61696#64 1 99#64
        have oc : bwOk 61696#64 1 = true := by decide +kernel
        rw [oc] at key
        clear oc
        (with_reducible refine key.mono ?_)
        clear key
        rintro e w8 ⟨rfl, T8⟩
        have T8 := Lib.hid T8
        have FD := Lib.hid (outs_write FC.out 61696#64 1 99#64)
        generalize bwS Sc 61696#64 1 99#64 = Sd at *
        go_wp2_with fail
        have key : Calls Try.prog 28 #[.pointer (some ⟨cc, 0, none⟩), .int .u64 0, .int .i64 8, .int .u64 77] _ _ := T8.out.cwrite FD.out 0#64 8 77#64
        (with_reducible refine key.mono ?_)
        clear key
        rintro e w9 ⟨rfl, T9⟩
        have T9 := Lib.hid T9
        clear T7 T8 FC FD
        go_wp2_with fail
        go_loopw [12] (fun i wr2 => ∃ j : Nat, j ≤ 4 ∧ i = .int .i64 j ∧ Trio w wr2 b rb q h cc k X S1 (bwS Sd 0#64 8 77#64) (rbOf S1)) (fun i _ => 4 - (intOf i).toNat)
        case atStart => exact ⟨0, by omega, rfl, T9.out⟩
        case round =>
          clear T9
          obtain ⟨j, hj, rfl, T9⟩ := hrel
          have T9 := Lib.hid T9
          by_cases hj4 : j < 4
          · have KF := Lib.hid (show ∀ (s : Beyond wr), Calls Try.prog 29 #[.pointer (some ⟨b, 0, none⟩), .int .i64 j] s.to fun e w'' => e = .returned (.string ⟨(S1.ls (2 * j + 1)).toArray⟩) ∧ ∃ s' : Beyond wr, w'' = s'.to from
              fun s => (boutput b _ j S1 s.to (T9.out.b1.below s.ok) hj4).mono fun e w'' ⟨h1, h2⟩ => ⟨h1, s, h2.symm⟩)
            have KR : ∀ s : Beyond wr, s.to.cell? ⟨rb, 11 + j, none⟩ = some (.string ⟨(S1.ls (2 * j + 1)).toArray⟩) := fun s => (T9.out.below s.ok).r1.cout j hj4
            have j4 : (j : Int) < 4 := by omega
            generalize (⟨(S1.ls (2 * j + 1)).toArray⟩ : ByteArray) = O at *
            have oo : (O.toList == O.toList) = true := by simp
            go_wp2_with fail
            refine wp_region_below (W := wr) (by kernel_rfl) (by kernel_rfl) (Below.refl _ _) ?_
            repeat (go_big_quiet_step ((go_at_call 29; with_reducible exact (KF.out _))))
            refine wpQuiet_nil ?_
            intro w10 hb10
            have T10 := Lib.hid (T9.out.below hb10)
            clear hb10 KF KR
            go_wp2
            go_roundw
            case rel => exact ⟨j + 1, by omega, by go_num, T10.out⟩
            case measure => simp [intOf]; omega
          · go_wp2_with fail
            have KT := Lib.hid (show ∀ (s : Beyond wr), Calls Try.prog 31 #[.pointer (some ⟨b, 0, none⟩)] s.to fun e w'' => e = .returned (.bool (decide (S1.al.toNat ≤ S1.t.toNat))) ∧ ∃ s' : Beyond wr, w'' = s'.to from
              fun s => (btimer b _ S1 s.to (T9.out.b1.below s.ok)).mono fun e w'' ⟨h1, kd, h2⟩ => ⟨h1, ⟨w'', by rw [h2]; exact HBstep s.ok (Below.of_drew kd)⟩, rfl⟩)
            have KU := Lib.hid (show ∀ (s : Beyond wr), Calls Try.prog 41 #[.pointer (some ⟨rb, 0, none⟩)] s.to fun e w'' => e = .returned (.bool (decide (S1.al.toNat ≤ S1.t.toNat))) ∧ ∃ s' : Beyond wr, w'' = s'.to from
              fun s => (rtimer rb s.to (T9.out.below s.ok).r1).mono fun e w'' ⟨h1, kd, h2⟩ => ⟨h1, ⟨w'', by rw [h2]; exact HBstep s.ok (Below.of_drew kd)⟩, rfl⟩)
            have KD := Lib.hid (show ∀ (s : Beyond wr), Calls Try.prog 32 #[.pointer (some ⟨b, 0, none⟩), U aa] s.to fun e w'' => e = .returned (.bool (decide (61440 ≤ aa.toNat ∧ aa.toNat < 62720))) ∧ ∃ s' : Beyond wr, w'' = s'.to from
              fun s => (bdevice b aa s.to).mono fun e w'' ⟨h1, h2⟩ => ⟨h1, s, h2.symm⟩)
            have KE := Lib.hid (show ∀ (s : Beyond wr), Calls Try.prog 42 #[.pointer (some ⟨rb, 0, none⟩), U aa] s.to fun e w'' => e = .returned (.bool (decide (61440 ≤ aa.toNat ∧ aa.toNat < 62720))) ∧ ∃ s' : Beyond wr, w'' = s'.to from
              fun s => (rdevice rb aa s.to (T9.out.below s.ok).r1).mono fun e w'' ⟨h1, h2⟩ => ⟨by rw [h1, ← Bool.decide_and], s, h2.symm⟩)
            obtain ⟨p, hp⟩ := T9.out.mem_at
            have KM := Lib.hid (fun s : Beyond wr => (hp s.to s.ok).1)
            have KF := Lib.hid (fun (j : Int) (s : Beyond wr) => (hp s.to s.ok).2 j)
            have KQ := Lib.hid (show ∀ (j : Int) (s : Beyond wr), Calls Try.prog 44 #[.pointer (some ⟨q, 0, none⟩), .int .i64 j] s.to fun e w'' => e = .returned (.string (frF S1.f j)) ∧ ∃ s' : Beyond wr, w'' = s'.to from
              fun j s => (rframe_all j s.to (T9.out.below s.ok).r1.mem).mono fun e w'' ⟨h1, h2⟩ => ⟨h1, s, h2.symm⟩)
            have C2 : ∀ s : Beyond wr, s.to.cell? ⟨k, 2, none⟩ = some (U aa) := fun s => cell_at7 ((T9.out.below s.ok).cell.trans HX.out) 2 rfl
            have R0 : ∀ s : Beyond wr, s.to.cell? ⟨rb, 0, none⟩ = some (.pointer (some ⟨q, 0, none⟩)) := fun s => (T9.out.below s.ok).r1.cell 0
            clear hp
            generalize decide (S1.al.toNat ≤ S1.t.toNat) = d1 at *
            generalize decide (61440 ≤ aa.toNat ∧ aa.toNat < 62720) = d2 at *
            have o1 : (d1 != d1) = false := by simp
            have o2 : (d2 != d2) = false := by simp
            have xw : IntKind.i64.wrap ((aa.toNat : Int) / 256 % 128) = (aa.toNat : Int) / 256 % 128 := IntWalk.i64_in _ ⟨by omega, by omega⟩
            refine wp_region_below (W := wr) (by kernel_rfl) (by kernel_rfl) (Below.refl _ _) ?_
            repeat (go_big_quiet_step ((first | (go_at_call 31; with_reducible exact (KT.out _)) | (go_at_call 41; with_reducible exact (KU.out _)) | (go_at_call 32; with_reducible exact (KD.out _)) | (go_at_call 42; with_reducible exact (KE.out _)) | (go_at_call 34; with_reducible exact (KM.out _)) | (go_at_call 43; with_reducible exact (KF.out _ _)) | (go_at_call 44; with_reducible exact (KQ.out _ _)))))
            refine wpQuiet_nil ?_
            intro w10 hb10
            have T10 := Lib.hid (T9.out.below hb10)
            clear hb10 C2 R0 KT KU KD KE KM KF KQ
            go_wp2
            exact ⟨⟨m + 1, by omega, by go_num, S1, T10.out.duo, F7.out⟩, by simp [intOf]; omega⟩
      · skip
        by_cases hr : 0 ≤ nn ∧ nn < 4
        · obtain ⟨j, rfl⟩ : ∃ j : Nat, nn = (j : Int) := ⟨nn.toNat, by omega⟩
          have hj := Lib.hid (show j < 4 by omega)
          have hbs := Lib.hid (show bb.size ≤ 1000 by have := hb3.out; omega)
          clear hr
          go_wp2_with fail
          (with_reducible refine (T.out.btype F.out j hj.out bb hbs.out).mono ?_)
          rintro e w6 ⟨rfl, T6⟩
          have T6 := Lib.hid T6
          clear e0 e1 e2 e3 e4
          have e1 := cell_at7 (T6.out.cell.trans HX.out) 1 rfl
          have e4 := cell_at7 (T6.out.cell.trans HX.out) 4 rfl
          go_wp2_with fail
          (with_reducible refine (T6.out.rtype F.out j hj.out bb hbs.out).mono ?_)
          rintro e w7 ⟨rfl, T7⟩
          have T7 := Lib.hid T7
          have F7 := Lib.hid (fine_typ F.out j hj.out bb)
          clear e1 e4 T6 T F
          generalize typS S j bb = S1 at *
          clear hj hbs
          generalize ((j : Nat) : Int) = nn at *
          go_wp2_with fail
          have key : Calls Try.prog 28 #[.pointer (some ⟨cc, 0, none⟩), .int .u64 61696, .int .i64 1, .int .u64 99] _ _ := T7.out.cwrite FC.out 61696#64 1 99#64
          have oc : bwOk 61696#64 1 = true := by decide +kernel
          rw [oc] at key
          clear oc
          (with_reducible refine key.mono ?_)
          clear key
          rintro e w8 ⟨rfl, T8⟩
          have T8 := Lib.hid T8
          have FD := Lib.hid (outs_write FC.out 61696#64 1 99#64)
          generalize bwS Sc 61696#64 1 99#64 = Sd at *
          go_wp2_with fail
          have key : Calls Try.prog 28 #[.pointer (some ⟨cc, 0, none⟩), .int .u64 0, .int .i64 8, .int .u64 77] _ _ := T8.out.cwrite FD.out 0#64 8 77#64
          (with_reducible refine key.mono ?_)
          clear key
          rintro e w9 ⟨rfl, T9⟩
          have T9 := Lib.hid T9
          clear T7 T8 FC FD
          go_wp2_with fail
          go_loopw [12] (fun i wr2 => ∃ j : Nat, j ≤ 4 ∧ i = .int .i64 j ∧ Trio w wr2 b rb q h cc k X S1 (bwS Sd 0#64 8 77#64) (rbOf S1)) (fun i _ => 4 - (intOf i).toNat)
          case atStart => exact ⟨0, by omega, rfl, T9.out⟩
          case round =>
            clear T9
            obtain ⟨j, hj, rfl, T9⟩ := hrel
            have T9 := Lib.hid T9
            by_cases hj4 : j < 4
            · have KF := Lib.hid (show ∀ (s : Beyond wr), Calls Try.prog 29 #[.pointer (some ⟨b, 0, none⟩), .int .i64 j] s.to fun e w'' => e = .returned (.string ⟨(S1.ls (2 * j + 1)).toArray⟩) ∧ ∃ s' : Beyond wr, w'' = s'.to from
                fun s => (boutput b _ j S1 s.to (T9.out.b1.below s.ok) hj4).mono fun e w'' ⟨h1, h2⟩ => ⟨h1, s, h2.symm⟩)
              have KR : ∀ s : Beyond wr, s.to.cell? ⟨rb, 11 + j, none⟩ = some (.string ⟨(S1.ls (2 * j + 1)).toArray⟩) := fun s => (T9.out.below s.ok).r1.cout j hj4
              have j4 : (j : Int) < 4 := by omega
              generalize (⟨(S1.ls (2 * j + 1)).toArray⟩ : ByteArray) = O at *
              have oo : (O.toList == O.toList) = true := by simp
              go_wp2_with fail
              refine wp_region_below (W := wr) (by kernel_rfl) (by kernel_rfl) (Below.refl _ _) ?_
              repeat (go_big_quiet_step ((go_at_call 29; with_reducible exact (KF.out _))))
              refine wpQuiet_nil ?_
              intro w10 hb10
              have T10 := Lib.hid (T9.out.below hb10)
              clear hb10 KF KR
              go_wp2
              go_roundw
              case rel => exact ⟨j + 1, by omega, by go_num, T10.out⟩
              case measure => simp [intOf]; omega
            · go_wp2_with fail
              have KT := Lib.hid (show ∀ (s : Beyond wr), Calls Try.prog 31 #[.pointer (some ⟨b, 0, none⟩)] s.to fun e w'' => e = .returned (.bool (decide (S1.al.toNat ≤ S1.t.toNat))) ∧ ∃ s' : Beyond wr, w'' = s'.to from
                fun s => (btimer b _ S1 s.to (T9.out.b1.below s.ok)).mono fun e w'' ⟨h1, kd, h2⟩ => ⟨h1, ⟨w'', by rw [h2]; exact HBstep s.ok (Below.of_drew kd)⟩, rfl⟩)
              have KU := Lib.hid (show ∀ (s : Beyond wr), Calls Try.prog 41 #[.pointer (some ⟨rb, 0, none⟩)] s.to fun e w'' => e = .returned (.bool (decide (S1.al.toNat ≤ S1.t.toNat))) ∧ ∃ s' : Beyond wr, w'' = s'.to from
                fun s => (rtimer rb s.to (T9.out.below s.ok).r1).mono fun e w'' ⟨h1, kd, h2⟩ => ⟨h1, ⟨w'', by rw [h2]; exact HBstep s.ok (Below.of_drew kd)⟩, rfl⟩)
              have KD := Lib.hid (show ∀ (s : Beyond wr), Calls Try.prog 32 #[.pointer (some ⟨b, 0, none⟩), U aa] s.to fun e w'' => e = .returned (.bool (decide (61440 ≤ aa.toNat ∧ aa.toNat < 62720))) ∧ ∃ s' : Beyond wr, w'' = s'.to from
                fun s => (bdevice b aa s.to).mono fun e w'' ⟨h1, h2⟩ => ⟨h1, s, h2.symm⟩)
              have KE := Lib.hid (show ∀ (s : Beyond wr), Calls Try.prog 42 #[.pointer (some ⟨rb, 0, none⟩), U aa] s.to fun e w'' => e = .returned (.bool (decide (61440 ≤ aa.toNat ∧ aa.toNat < 62720))) ∧ ∃ s' : Beyond wr, w'' = s'.to from
                fun s => (rdevice rb aa s.to (T9.out.below s.ok).r1).mono fun e w'' ⟨h1, h2⟩ => ⟨by rw [h1, ← Bool.decide_and], s, h2.symm⟩)
              obtain ⟨p, hp⟩ := T9.out.mem_at
              have KM := Lib.hid (fun s : Beyond wr => (hp s.to s.ok).1)
              have KF := Lib.hid (fun (j : Int) (s : Beyond wr) => (hp s.to s.ok).2 j)
              have KQ := Lib.hid (show ∀ (j : Int) (s : Beyond wr), Calls Try.prog 44 #[.pointer (some ⟨q, 0, none⟩), .int .i64 j] s.to fun e w'' => e = .returned (.string (frF S1.f j)) ∧ ∃ s' : Beyond wr, w'' = s'.to from
                fun j s => (rframe_all j s.to (T9.out.below s.ok).r1.mem).mono fun e w'' ⟨h1, h2⟩ => ⟨h1, s, h2.symm⟩)
              have C2 : ∀ s : Beyond wr, s.to.cell? ⟨k, 2, none⟩ = some (U aa) := fun s => cell_at7 ((T9.out.below s.ok).cell.trans HX.out) 2 rfl
              have R0 : ∀ s : Beyond wr, s.to.cell? ⟨rb, 0, none⟩ = some (.pointer (some ⟨q, 0, none⟩)) := fun s => (T9.out.below s.ok).r1.cell 0
              clear hp
              generalize decide (S1.al.toNat ≤ S1.t.toNat) = d1 at *
              generalize decide (61440 ≤ aa.toNat ∧ aa.toNat < 62720) = d2 at *
              have o1 : (d1 != d1) = false := by simp
              have o2 : (d2 != d2) = false := by simp
              have xw : IntKind.i64.wrap ((aa.toNat : Int) / 256 % 128) = (aa.toNat : Int) / 256 % 128 := IntWalk.i64_in _ ⟨by omega, by omega⟩
              refine wp_region_below (W := wr) (by kernel_rfl) (by kernel_rfl) (Below.refl _ _) ?_
              repeat (go_big_quiet_step ((first | (go_at_call 31; with_reducible exact (KT.out _)) | (go_at_call 41; with_reducible exact (KU.out _)) | (go_at_call 32; with_reducible exact (KD.out _)) | (go_at_call 42; with_reducible exact (KE.out _)) | (go_at_call 34; with_reducible exact (KM.out _)) | (go_at_call 43; with_reducible exact (KF.out _ _)) | (go_at_call 44; with_reducible exact (KQ.out _ _)))))
              refine wpQuiet_nil ?_
              intro w10 hb10
              have T10 := Lib.hid (T9.out.below hb10)
              clear hb10 C2 R0 KT KU KD KE KM KF KQ
              go_wp2
              exact ⟨⟨m + 1, by omega, by go_num, S1, T10.out.duo, F7.out⟩, by simp [intOf]; omega⟩
        · have hn := Lib.hid (show nn < 0 ∨ 4 ≤ nn by omega)
          clear hr
          go_wp2_with fail
          (with_reducible refine (ttype_no b nn bb w5 hn.out NB.out).mono ?_)
          rintro e w6 ⟨rfl, rfl⟩
          go_wp2_with fail
          (with_reducible refine (rtype_no rb nn bb w5 T.out.r1 hn.out).mono ?_)
          rintro e w7 ⟨rfl, rfl⟩
          have T7 := T
          have F7 := F
          clear e0 e1 e2 e3 e4 T F
          obtain ⟨S1, hS1⟩ : ∃ S1, S1 = S := ⟨_, rfl⟩
          subst hS1
          go_wp2_with fail
          have key : Calls Try.prog 28 #[.pointer (some ⟨cc, 0, none⟩), .int .u64 61696, .int .i64 1, .int .u64 99] _ _ := T7.out.cwrite FC.out 61696#64 1 99#64
          have oc : bwOk 61696#64 1 = true := by decide +kernel
          rw [oc] at key
          clear oc
          (with_reducible refine key.mono ?_)
          clear key
          rintro e w8 ⟨rfl, T8⟩
          have T8 := Lib.hid T8
          have FD := Lib.hid (outs_write FC.out 61696#64 1 99#64)
          generalize bwS Sc 61696#64 1 99#64 = Sd at *
          go_wp2_with fail
          have key : Calls Try.prog 28 #[.pointer (some ⟨cc, 0, none⟩), .int .u64 0, .int .i64 8, .int .u64 77] _ _ := T8.out.cwrite FD.out 0#64 8 77#64
          (with_reducible refine key.mono ?_)
          clear key
          rintro e w9 ⟨rfl, T9⟩
          have T9 := Lib.hid T9
          clear T7 T8 FC FD
          go_wp2_with fail
          go_loopw [12] (fun i wr2 => ∃ j : Nat, j ≤ 4 ∧ i = .int .i64 j ∧ Trio w wr2 b rb q h cc k X S1 (bwS Sd 0#64 8 77#64) (rbOf S1)) (fun i _ => 4 - (intOf i).toNat)
          case atStart => exact ⟨0, by omega, rfl, T9.out⟩
          case round =>
            clear T9
            obtain ⟨j, hj, rfl, T9⟩ := hrel
            have T9 := Lib.hid T9
            by_cases hj4 : j < 4
            · have KF := Lib.hid (show ∀ (s : Beyond wr), Calls Try.prog 29 #[.pointer (some ⟨b, 0, none⟩), .int .i64 j] s.to fun e w'' => e = .returned (.string ⟨(S1.ls (2 * j + 1)).toArray⟩) ∧ ∃ s' : Beyond wr, w'' = s'.to from
                fun s => (boutput b _ j S1 s.to (T9.out.b1.below s.ok) hj4).mono fun e w'' ⟨h1, h2⟩ => ⟨h1, s, h2.symm⟩)
              have KR : ∀ s : Beyond wr, s.to.cell? ⟨rb, 11 + j, none⟩ = some (.string ⟨(S1.ls (2 * j + 1)).toArray⟩) := fun s => (T9.out.below s.ok).r1.cout j hj4
              have j4 : (j : Int) < 4 := by omega
              generalize (⟨(S1.ls (2 * j + 1)).toArray⟩ : ByteArray) = O at *
              have oo : (O.toList == O.toList) = true := by simp
              go_wp2_with fail
              refine wp_region_below (W := wr) (by kernel_rfl) (by kernel_rfl) (Below.refl _ _) ?_
              repeat (go_big_quiet_step ((go_at_call 29; with_reducible exact (KF.out _))))
              refine wpQuiet_nil ?_
              intro w10 hb10
              have T10 := Lib.hid (T9.out.below hb10)
              clear hb10 KF KR
              go_wp2
              go_roundw
              case rel => exact ⟨j + 1, by omega, by go_num, T10.out⟩
              case measure => simp [intOf]; omega
            · go_wp2_with fail
              have KT := Lib.hid (show ∀ (s : Beyond wr), Calls Try.prog 31 #[.pointer (some ⟨b, 0, none⟩)] s.to fun e w'' => e = .returned (.bool (decide (S1.al.toNat ≤ S1.t.toNat))) ∧ ∃ s' : Beyond wr, w'' = s'.to from
                fun s => (btimer b _ S1 s.to (T9.out.b1.below s.ok)).mono fun e w'' ⟨h1, kd, h2⟩ => ⟨h1, ⟨w'', by rw [h2]; exact HBstep s.ok (Below.of_drew kd)⟩, rfl⟩)
              have KU := Lib.hid (show ∀ (s : Beyond wr), Calls Try.prog 41 #[.pointer (some ⟨rb, 0, none⟩)] s.to fun e w'' => e = .returned (.bool (decide (S1.al.toNat ≤ S1.t.toNat))) ∧ ∃ s' : Beyond wr, w'' = s'.to from
                fun s => (rtimer rb s.to (T9.out.below s.ok).r1).mono fun e w'' ⟨h1, kd, h2⟩ => ⟨h1, ⟨w'', by rw [h2]; exact HBstep s.ok (Below.of_drew kd)⟩, rfl⟩)
              have KD := Lib.hid (show ∀ (s : Beyond wr), Calls Try.prog 32 #[.pointer (some ⟨b, 0, none⟩), U aa] s.to fun e w'' => e = .returned (.bool (decide (61440 ≤ aa.toNat ∧ aa.toNat < 62720))) ∧ ∃ s' : Beyond wr, w'' = s'.to from
                fun s => (bdevice b aa s.to).mono fun e w'' ⟨h1, h2⟩ => ⟨h1, s, h2.symm⟩)
              have KE := Lib.hid (show ∀ (s : Beyond wr), Calls Try.prog 42 #[.pointer (some ⟨rb, 0, none⟩), U aa] s.to fun e w'' => e = .returned (.bool (decide (61440 ≤ aa.toNat ∧ aa.toNat < 62720))) ∧ ∃ s' : Beyond wr, w'' = s'.to from
                fun s => (rdevice rb aa s.to (T9.out.below s.ok).r1).mono fun e w'' ⟨h1, h2⟩ => ⟨by rw [h1, ← Bool.decide_and], s, h2.symm⟩)
              obtain ⟨p, hp⟩ := T9.out.mem_at
              have KM := Lib.hid (fun s : Beyond wr => (hp s.to s.ok).1)
              have KF := Lib.hid (fun (j : Int) (s : Beyond wr) => (hp s.to s.ok).2 j)
              have KQ := Lib.hid (show ∀ (j : Int) (s : Beyond wr), Calls Try.prog 44 #[.pointer (some ⟨q, 0, none⟩), .int .i64 j] s.to fun e w'' => e = .returned (.string (frF S1.f j)) ∧ ∃ s' : Beyond wr, w'' = s'.to from
                fun j s => (rframe_all j s.to (T9.out.below s.ok).r1.mem).mono fun e w'' ⟨h1, h2⟩ => ⟨h1, s, h2.symm⟩)
              have C2 : ∀ s : Beyond wr, s.to.cell? ⟨k, 2, none⟩ = some (U aa) := fun s => cell_at7 ((T9.out.below s.ok).cell.trans HX.out) 2 rfl
              have R0 : ∀ s : Beyond wr, s.to.cell? ⟨rb, 0, none⟩ = some (.pointer (some ⟨q, 0, none⟩)) := fun s => (T9.out.below s.ok).r1.cell 0
              clear hp
              generalize decide (S1.al.toNat ≤ S1.t.toNat) = d1 at *
              generalize decide (61440 ≤ aa.toNat ∧ aa.toNat < 62720) = d2 at *
              have o1 : (d1 != d1) = false := by simp
              have o2 : (d2 != d2) = false := by simp
              have xw : IntKind.i64.wrap ((aa.toNat : Int) / 256 % 128) = (aa.toNat : Int) / 256 % 128 := IntWalk.i64_in _ ⟨by omega, by omega⟩
              refine wp_region_below (W := wr) (by kernel_rfl) (by kernel_rfl) (Below.refl _ _) ?_
              repeat (go_big_quiet_step ((first | (go_at_call 31; with_reducible exact (KT.out _)) | (go_at_call 41; with_reducible exact (KU.out _)) | (go_at_call 32; with_reducible exact (KD.out _)) | (go_at_call 42; with_reducible exact (KE.out _)) | (go_at_call 34; with_reducible exact (KM.out _)) | (go_at_call 43; with_reducible exact (KF.out _ _)) | (go_at_call 44; with_reducible exact (KQ.out _ _)))))
              refine wpQuiet_nil ?_
              intro w10 hb10
              have T10 := Lib.hid (T9.out.below hb10)
              clear hb10 C2 R0 KT KU KD KE KM KF KQ
              go_wp2
              exact ⟨⟨m + 1, by omega, by go_num, S1, T10.out.duo, F7.out⟩, by simp [intOf]; omega⟩
      · skip
        go_wp2_with fail
        (with_reducible refine (T.out.bset vv).mono ?_)
        rintro e w6 ⟨rfl, T6⟩
        have T6 := Lib.hid T6
        clear e0 e1 e2 e3 e4
        have e3 := cell_at7 (T6.out.cell.trans HX.out) 3 rfl
        have c1 := T6.out.r1.cell 1
        have f1 := T6.out.r1.free 1
        have T7 := Lib.hid (T6.out.rset vv)
        have F7 := Lib.hid (show Fine { S with t := vv } from ⟨F.out.inn, F.out.out, F.out.ns⟩)
        obtain ⟨W7, hW7⟩ : ∃ W7, W7 = w6.setCell ⟨rb, 1, none⟩ (U vv) := ⟨_, rfl⟩
        rw [← hW7] at T7
        have HW7 := Lib.hid hW7
        clear T6 T F hW7
        generalize ({ S with t := vv } : BusV) = S1 at *
        go_wp2_with fail
        rw [← HW7.out]
        have key : Calls Try.prog 28 #[.pointer (some ⟨cc, 0, none⟩), .int .u64 61696, .int .i64 1, .int .u64 99] _ _ := T7.out.cwrite FC.out 61696#64 1 99#64
        have oc : bwOk 61696#64 1 = true := by decide +kernel
        rw [oc] at key
        clear oc
        (with_reducible refine key.mono ?_)
        clear key
        rintro e w8 ⟨rfl, T8⟩
        have T8 := Lib.hid T8
        have FD := Lib.hid (outs_write FC.out 61696#64 1 99#64)
        generalize bwS Sc 61696#64 1 99#64 = Sd at *
        go_wp2_with fail
        have key : Calls Try.prog 28 #[.pointer (some ⟨cc, 0, none⟩), .int .u64 0, .int .i64 8, .int .u64 77] _ _ := T8.out.cwrite FD.out 0#64 8 77#64
        (with_reducible refine key.mono ?_)
        clear key
        rintro e w9 ⟨rfl, T9⟩
        have T9 := Lib.hid T9
        clear T7 T8 FC FD
        go_wp2_with fail
        go_loopw [12] (fun i wr2 => ∃ j : Nat, j ≤ 4 ∧ i = .int .i64 j ∧ Trio w wr2 b rb q h cc k X S1 (bwS Sd 0#64 8 77#64) (rbOf S1)) (fun i _ => 4 - (intOf i).toNat)
        case atStart => exact ⟨0, by omega, rfl, T9.out⟩
        case round =>
          clear T9
          obtain ⟨j, hj, rfl, T9⟩ := hrel
          have T9 := Lib.hid T9
          by_cases hj4 : j < 4
          · have KF := Lib.hid (show ∀ (s : Beyond wr), Calls Try.prog 29 #[.pointer (some ⟨b, 0, none⟩), .int .i64 j] s.to fun e w'' => e = .returned (.string ⟨(S1.ls (2 * j + 1)).toArray⟩) ∧ ∃ s' : Beyond wr, w'' = s'.to from
              fun s => (boutput b _ j S1 s.to (T9.out.b1.below s.ok) hj4).mono fun e w'' ⟨h1, h2⟩ => ⟨h1, s, h2.symm⟩)
            have KR : ∀ s : Beyond wr, s.to.cell? ⟨rb, 11 + j, none⟩ = some (.string ⟨(S1.ls (2 * j + 1)).toArray⟩) := fun s => (T9.out.below s.ok).r1.cout j hj4
            have j4 : (j : Int) < 4 := by omega
            generalize (⟨(S1.ls (2 * j + 1)).toArray⟩ : ByteArray) = O at *
            have oo : (O.toList == O.toList) = true := by simp
            go_wp2_with fail
            refine wp_region_below (W := wr) (by kernel_rfl) (by kernel_rfl) (Below.refl _ _) ?_
            repeat (go_big_quiet_step ((go_at_call 29; with_reducible exact (KF.out _))))
            refine wpQuiet_nil ?_
            intro w10 hb10
            have T10 := Lib.hid (T9.out.below hb10)
            clear hb10 KF KR
            go_wp2
            go_roundw
            case rel => exact ⟨j + 1, by omega, by go_num, T10.out⟩
            case measure => simp [intOf]; omega
          · go_wp2_with fail
            have KT := Lib.hid (show ∀ (s : Beyond wr), Calls Try.prog 31 #[.pointer (some ⟨b, 0, none⟩)] s.to fun e w'' => e = .returned (.bool (decide (S1.al.toNat ≤ S1.t.toNat))) ∧ ∃ s' : Beyond wr, w'' = s'.to from
              fun s => (btimer b _ S1 s.to (T9.out.b1.below s.ok)).mono fun e w'' ⟨h1, kd, h2⟩ => ⟨h1, ⟨w'', by rw [h2]; exact HBstep s.ok (Below.of_drew kd)⟩, rfl⟩)
            have KU := Lib.hid (show ∀ (s : Beyond wr), Calls Try.prog 41 #[.pointer (some ⟨rb, 0, none⟩)] s.to fun e w'' => e = .returned (.bool (decide (S1.al.toNat ≤ S1.t.toNat))) ∧ ∃ s' : Beyond wr, w'' = s'.to from
              fun s => (rtimer rb s.to (T9.out.below s.ok).r1).mono fun e w'' ⟨h1, kd, h2⟩ => ⟨h1, ⟨w'', by rw [h2]; exact HBstep s.ok (Below.of_drew kd)⟩, rfl⟩)
            have KD := Lib.hid (show ∀ (s : Beyond wr), Calls Try.prog 32 #[.pointer (some ⟨b, 0, none⟩), U aa] s.to fun e w'' => e = .returned (.bool (decide (61440 ≤ aa.toNat ∧ aa.toNat < 62720))) ∧ ∃ s' : Beyond wr, w'' = s'.to from
              fun s => (bdevice b aa s.to).mono fun e w'' ⟨h1, h2⟩ => ⟨h1, s, h2.symm⟩)
            have KE := Lib.hid (show ∀ (s : Beyond wr), Calls Try.prog 42 #[.pointer (some ⟨rb, 0, none⟩), U aa] s.to fun e w'' => e = .returned (.bool (decide (61440 ≤ aa.toNat ∧ aa.toNat < 62720))) ∧ ∃ s' : Beyond wr, w'' = s'.to from
              fun s => (rdevice rb aa s.to (T9.out.below s.ok).r1).mono fun e w'' ⟨h1, h2⟩ => ⟨by rw [h1, ← Bool.decide_and], s, h2.symm⟩)
            obtain ⟨p, hp⟩ := T9.out.mem_at
            have KM := Lib.hid (fun s : Beyond wr => (hp s.to s.ok).1)
            have KF := Lib.hid (fun (j : Int) (s : Beyond wr) => (hp s.to s.ok).2 j)
            have KQ := Lib.hid (show ∀ (j : Int) (s : Beyond wr), Calls Try.prog 44 #[.pointer (some ⟨q, 0, none⟩), .int .i64 j] s.to fun e w'' => e = .returned (.string (frF S1.f j)) ∧ ∃ s' : Beyond wr, w'' = s'.to from
              fun j s => (rframe_all j s.to (T9.out.below s.ok).r1.mem).mono fun e w'' ⟨h1, h2⟩ => ⟨h1, s, h2.symm⟩)
            have C2 : ∀ s : Beyond wr, s.to.cell? ⟨k, 2, none⟩ = some (U aa) := fun s => cell_at7 ((T9.out.below s.ok).cell.trans HX.out) 2 rfl
            have R0 : ∀ s : Beyond wr, s.to.cell? ⟨rb, 0, none⟩ = some (.pointer (some ⟨q, 0, none⟩)) := fun s => (T9.out.below s.ok).r1.cell 0
            clear hp
            generalize decide (S1.al.toNat ≤ S1.t.toNat) = d1 at *
            generalize decide (61440 ≤ aa.toNat ∧ aa.toNat < 62720) = d2 at *
            have o1 : (d1 != d1) = false := by simp
            have o2 : (d2 != d2) = false := by simp
            have xw : IntKind.i64.wrap ((aa.toNat : Int) / 256 % 128) = (aa.toNat : Int) / 256 % 128 := IntWalk.i64_in _ ⟨by omega, by omega⟩
            refine wp_region_below (W := wr) (by kernel_rfl) (by kernel_rfl) (Below.refl _ _) ?_
            repeat (go_big_quiet_step ((first | (go_at_call 31; with_reducible exact (KT.out _)) | (go_at_call 41; with_reducible exact (KU.out _)) | (go_at_call 32; with_reducible exact (KD.out _)) | (go_at_call 42; with_reducible exact (KE.out _)) | (go_at_call 34; with_reducible exact (KM.out _)) | (go_at_call 43; with_reducible exact (KF.out _ _)) | (go_at_call 44; with_reducible exact (KQ.out _ _)))))
            refine wpQuiet_nil ?_
            intro w10 hb10
            have T10 := Lib.hid (T9.out.below hb10)
            clear hb10 C2 R0 KT KU KD KE KM KF KQ
            go_wp2
            exact ⟨⟨m + 1, by omega, by go_num, S1, T10.out.duo, F7.out⟩, by simp [intOf]; omega⟩
    · go_wp2_with fail
      go_ret
      exact ⟨rfl, D.hb⟩
theorem walkBusPlays (a : Option Addr) (n c : Nat) (w : World) (hS : Steps7 w a n) :
    Calls Try.prog 12 #[.slice a n c] w fun e w' => e = .returned (.bool true) ∧ Below w.heap.size w w' := by
  by_cases hn : n ≤ 40
  · exact bplays_few a n c w hS hn
  · exact bplays_many a n c w hn
end Go.Proofs.Ytkjbhjmjfacjcaa
