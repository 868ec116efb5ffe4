/- The walk of MemPlays; no condition but the steps' cells. -/
import Derived.Test.YtkhiegmjdflkmaaMemL
namespace Go.Proofs.Ytkhiegmjdflkmaa
open Go.RowKit Go.BigFrame
set_option linter.unusedSimpArgs false
set_option linter.unusedVariables false
set_option maxRecDepth 100000

theorem cell_at6 {w : World} {b : Nat} {cs : Array Value} {T : TypeId} (h : w.heap[b]? = some (.cells cs T (0, 0))) (j : Nat) {v : Value} (hv : cs[j]? = some v) : w.cell? ⟨b, j, none⟩ = some v := by simp [World.cell?, h, hv]
/-- What a slice of steps holds. -/
def Steps6 (w : World) (a : Option Addr) (n : Nat) : Prop := 0 < n → ∃ (b o : Nat) (W N : Nat → Int) (A V : Nat → BitVec 64) (B : Nat → ByteArray), a = some ⟨b, o, none⟩ ∧ b < w.heap.size ∧ ∀ j, j < n →
  w.cell? ⟨b, o + j * 5, none⟩ = some (.int .i64 (W j)) ∧ w.cell? ⟨b, o + j * 5 + 1, none⟩ = some (.int .i64 (N j)) ∧ w.cell? ⟨b, o + j * 5 + 2, none⟩ = some (U (A j)) ∧ w.cell? ⟨b, o + j * 5 + 3, none⟩ = some (U (V j)) ∧
  w.cell? ⟨b, o + j * 5 + 4, none⟩ = some (.string (B j)) ∧ (B j).size ≤ maxLen
/-- Two memories with the same bytes. -/
structure Twin6 (w W : World) (p g q h : Nat) (f : Nat → UInt8) : Prop where
  m : IsMem W p g 45 f
  r : IsMem W q h 47 f
  hb : Below w.heap.size w W
theorem Twin6.below {w W W' : World} {p g q h : Nat} {f : Nat → UInt8} (t : Twin6 w W p g q h f) (b : Below W.heap.size W W') : Twin6 w W' p g q h f := ⟨t.m.below b, t.r.below b, HBstep t.hb b⟩
structure Apart6 (w : World) (p g q h : Nat) : Prop where
  pg : w.heap.size ≤ g
  qh : w.heap.size ≤ h
  n1 : p ≠ h
  n2 : g ≠ h
  n3 : q ≠ g
theorem plays_many (v1 : Value) (a : Option Addr) (n c : Nat) (w : World) (hn : ¬ n ≤ 40) :
    Calls Try.prog 3 #[.slice a n c, v1] w fun e w' => e = .returned (.bool true) ∧ Below w.heap.size w w' := by
  have d : decide ((40 : Int) < (n : Int)) = true := decide_eq_true (by omega)
  clear hn
  go_enter Try.func3, Try.ntmps3
  go_wp2_with fail
  (with_reducible refine (known6_b.run _).mono ?_)
  rintro e w1 ⟨rfl, HB0⟩
  have HB0 := Lib.hid HB0
  go_wp2
  go_ret
  exact ⟨rfl, HB0.out⟩
set_option maxHeartbeats 8000000 in
theorem plays_few (fr : Int) (a : Option Addr) (n c : Nat) (w : World) (hS : Steps6 w a n) (hn : n ≤ 40) :
    Calls Try.prog 3 #[.slice a n c, .int .i64 fr] w fun e w' => e = .returned (.bool true) ∧ Below w.heap.size w w' := by
  have HS := Lib.hid hS
  have d40 : decide ((40 : Int) < (n : Int)) = false := decide_eq_false (by omega)
  clear hS
  go_enter Try.func3, Try.ntmps3
  go_wp2_with fail
  (with_reducible refine (known6_b.run _).mono ?_)
  rintro e w0 ⟨rfl, HB0⟩
  have HB0 := Lib.hid HB0
  go_wp2_with fail
  refine (new_all _).mono ?_
  rintro e w1 ⟨p, g, rfl, hp, hg, hpl, hgl, M, hb⟩
  go_wp2_with fail
  refine (rnew_all _).mono ?_
  rintro e w2 ⟨q, h, rfl, hq, hh, hql, hhl, N, hb2⟩
  have AP := Lib.hid (show Apart6 w p g q h from ⟨by have := HB0.out.size; omega, by have := HB0.out.size; have := hb.size; omega, by omega, by omega, by omega⟩)
  have TW := Lib.hid (show Twin6 w w2 p g q h _ from ⟨M.below hb2, N, HBstep (HBstep HB0.out hb) hb2⟩)
  clear hp hg hpl hgl M hb hq hh hql hhl N hb2 HB0
  go_wp2_with fail
  go_loopw [7] (fun i wr => ∃ m : Nat, m ≤ n ∧ i = .int .i64 m ∧ ∃ f, Twin6 w wr p g q h f) (fun i _ => n - (intOf i).toNat)
  case atStart => exact ⟨0, by omega, rfl, _, TW.out⟩
  case round =>
    clear TW
    obtain ⟨m, hm, rfl, f, TW⟩ := hrel
    by_cases hmn : m < n
    · obtain ⟨b, o, Wh, Nn, Aa, Vv, Bb, rfl, hb, hc⟩ := HS.out (by omega)
      obtain ⟨c0, c1, c2, c3, c4, hsz⟩ := hc m hmn
      clear hc
      rw [← TW.hb.cell (p := ⟨b, o + m * 5, none⟩) hb] at c0
      rw [← TW.hb.cell (p := ⟨b, o + m * 5 + 1, none⟩) hb] at c1
      rw [← TW.hb.cell (p := ⟨b, o + m * 5 + 2, none⟩) hb] at c2
      rw [← TW.hb.cell (p := ⟨b, o + m * 5 + 3, none⟩) hb] at c3
      rw [← TW.hb.cell (p := ⟨b, o + m * 5 + 4, none⟩) hb] at c4
      have TW := Lib.hid TW
      generalize Wh m = wh at *
      generalize Nn m = nn at *
      generalize Aa m = aa at *
      generalize Vv m = vv at *
      generalize Bb m = bb at *
      clear hb
      by_cases h300 : 300 < bb.size
      · have d3 : decide ((300 : Int) < (bb.size : Int)) = true := decide_eq_true (by omega)
        clear h300 hsz
        go_wp2
        go_ret
        exact ⟨rfl, TW.out.hb.alloc TW.out.hb.size _⟩
      have d3 : decide ((300 : Int) < (bb.size : Int)) = false := decide_eq_false (by omega)
      have hb3 := Lib.hid (show bb.size ≤ 300 by omega)
      clear h300 hsz
      go_wp2_with fail
      have TW2 := TW.out.below ((Below.refl _ _).alloc (Nat.le_refl _) (.cells #[.int .i64 wh, .int .i64 nn, U aa, U vv, .string bb] 30))
      have s4 : (wr.alloc (.cells #[.int .i64 wh, .int .i64 nn, U aa, U vv, .string bb] 30)).heap[wr.heap.size]? = _ := (MapKept.heap_alloc wr _).1
      have hl : wr.heap.size < (wr.alloc (.cells #[.int .i64 wh, .int .i64 nn, U aa, U vv, .string bb] 30)).heap.size := by simp
      generalize wr.alloc (.cells #[.int .i64 wh, .int .i64 nn, U aa, U vv, .string bb] 30) = W at s4 hl TW2 ⊢
      obtain ⟨k, hk⟩ : ∃ k, k = wr.heap.size := ⟨_, rfl⟩
      have hwk : k ≠ g ∧ k ≠ h := by
        have := TW.out.m.g_lt
        have := TW.out.r.g_lt
        omega
      have hwl : w.heap.size ≤ W.heap.size := TW2.hb.size
      rw [← hk] at s4 hl ⊢
      clear hk TW c0 c1 c2 c3 c4
      (with_reducible refine (copy_any W TW2.m).mono ?_)
      rintro e w5 ⟨pc, gc, rfl, hpc, hgc, MC, hb5⟩
      have AC := Lib.hid (show k ≠ gc ∧ p ≠ gc ∧ g ≠ gc ∧ q ≠ gc ∧ h ≠ gc ∧ w.heap.size ≤ gc ∧ pc ≠ g ∧ pc ≠ h ∧ gc ≠ g ∧ gc ≠ h from by
        have h1 := TW2.m.p_lt
        have h2 := TW2.m.g_lt
        have h3 := TW2.r.p_lt
        have h4 := TW2.r.g_lt
        omega)
      have S5 := Lib.hid ((hb5.block k hl).trans s4)
      have TW5 := Lib.hid (TW2.below hb5)
      have MC := Lib.hid MC
      have KG := Lib.hid hwk
      clear hpc hgc hb5 s4 hl TW2 hwk hwl
      have e1 := cell_at6 S5.out 1 rfl
      have e2 := cell_at6 S5.out 2 rfl
      go_wp2_with fail
      (with_reducible refine (rcode_any aa nn w5 TW5.out.r).mono ?_)
      rintro e w6 ⟨rfl, rfl⟩
      obtain ⟨cd, hcd⟩ : ∃ cd, cd = codeOf aa nn := ⟨_, rfl⟩
      rw [← hcd]
      have HC := Lib.hid hcd
      clear hcd
      have e0 := cell_at6 S5.out 0 rfl
      have e3 := cell_at6 S5.out 3 rfl
      have e4 := cell_at6 S5.out 4 rfl
      by_cases hw : wh ≤ 2
      · skip
        have d2 : decide (wh ≤ 2) = true := decide_eq_true hw
        clear hw
        go_wp2_with fail
        have key := write_all aa nn vv w5 TW5.out.m
        rw [← HC.out] at key
        (with_reducible refine key.mono ?_)
        clear key
        rintro e w6 ⟨rfl, hu, M6⟩
        have N6 := Lib.hid (TW5.out.r.upd hu AP.out.n3 (fun e => AP.out.n2 e.symm))
        have HB6 := Lib.hid (Upd.below TW5.out.hb hu TW5.out.hb.size AP.out.pg)
        have C6 := Lib.hid (MC.out.upd hu AC.out.2.2.2.2.2.2.1 AC.out.2.2.2.2.2.2.2.2.1)
        have S6 := Lib.hid ((hu.block k (blk_lt S5.out) KG.out.1).trans S5.out)
        have M6 := Lib.hid M6
        clear hu e0 e1 e2 e3 e4
        have e1 := cell_at6 S6.out 1 rfl
        have e2 := cell_at6 S6.out 2 rfl
        have e3 := cell_at6 S6.out 3 rfl
        have e0 : True := trivial
        have e4 : True := trivial
        have cb : (cd != cd) = false := by simp
        by_cases hz : cd = 0
        · have hz2 : (cd == 0) = true := by simp [hz]
          have hcd := HC.out
          rw [hz] at hcd
          obtain ⟨nk, rfl⟩ : ∃ nk : Nat, nn = (nk : Int) := ⟨nn.toNat, by have := (codeOf_zero hcd.symm).1; omega⟩
          have HZ := Lib.hid hcd
          clear hcd hz
          go_wp2_with fail
          (with_reducible refine (rwrite_any aa nk vv w6 N6.out HZ.out.symm).mono ?_)
          rintro e w7 ⟨rfl, hu, N7⟩
          have hw : wrF f aa (nk : Int) vv = putF f aa.toNat (bytesL vv nk) := by unfold wrF; rw [if_pos HZ.out.symm]; rfl
          rw [hw] at M6
          have TT := Lib.hid (show Twin6 w w7 p g q h (putF f aa.toNat (bytesL vv nk)) from ⟨M6.out.upd hu AP.out.n1 AP.out.n2, N7, Upd.below HB6.out hu HB6.out.size AP.out.qh⟩)
          have CM := Lib.hid (C6.out.upd hu AC.out.2.2.2.2.2.2.2.1 AC.out.2.2.2.2.2.2.2.2.2)
          have SS := Lib.hid ((hu.block k (blk_lt S6.out) KG.out.2).trans S6.out)
          clear hu N7 hw e0 e1 e2 e3 e4
          have e0 : True := trivial
          have e1 : True := trivial
          have e3 : True := trivial
          have e4 : True := trivial
          have e2 := cell_at6 SS.out 2 rfl
          go_wp2_with fail
          have keyc : Calls Try.prog 9 #[.pointer (some ⟨pc, 0, none⟩), .int .u64 0, .int .i64 8, .int .u64 12345] _ _ := write_all 0#64 8 12345#64 _ CM.out
          (with_reducible refine keyc.mono ?_)
          clear keyc
          rintro e w8 ⟨rfl, hu, _⟩
          have T8 := Lib.hid (show Twin6 w w8 p g q h (putF f aa.toNat (bytesL vv nk)) from ⟨TT.out.m.upd hu AC.out.2.1 AC.out.2.2.1, TT.out.r.upd hu AC.out.2.2.2.1 AC.out.2.2.2.2.1, Upd.below TT.out.hb hu TT.out.hb.size AC.out.2.2.2.2.2.1⟩)
          have S8 := Lib.hid ((hu.block k (blk_lt SS.out) AC.out.1).trans SS.out)
          clear hu e0 e1 e2 e3 e4 CM
          have e2 : ∀ s : Beyond w8, s.to.cell? ⟨k, 2, none⟩ = some (U aa) := fun s => cell_at6 ((s.ok.block k (blk_lt S8.out)).trans S8.out) 2 rfl
          have KF := Lib.hid (show ∀ (j : Int) (s : Beyond w8), Calls Try.prog 15 #[.pointer (some ⟨p, 0, none⟩), .int .i64 j] s.to fun e w'' => e = .returned (.string (frF (putF f aa.toNat (bytesL vv nk)) j)) ∧ ∃ s' : Beyond w8, w'' = s'.to from
            fun j s => (frame_all j s.to (T8.out.m.below s.ok)).mono fun e w'' ⟨h1, h2⟩ => ⟨h1, ⟨w'', HBstep s.ok h2⟩, rfl⟩)
          have KR := Lib.hid (show ∀ (j : Int) (s : Beyond w8), Calls Try.prog 16 #[.pointer (some ⟨q, 0, none⟩), .int .i64 j] s.to fun e w'' => e = .returned (.string (frF (putF f aa.toNat (bytesL vv nk)) j)) ∧ ∃ s' : Beyond w8, w'' = s'.to from
            fun j s => (rframe_all j s.to (T8.out.r.below s.ok)).mono fun e w'' ⟨h1, h2⟩ => ⟨h1, ⟨w'', by rw [← h2]; exact s.ok⟩, rfl⟩)
          generalize (putF f aa.toNat (bytesL vv nk)) = F at *
          have hca : (decide ((aa.toNat : Int) < 32768) = true ∧ IntKind.i64.wrap ((aa.toNat : Int) / 256) = (aa.toNat : Int) / 256) ∨ decide ((aa.toNat : Int) < 32768) = false := by
            by_cases c : aa.toNat < 32768
            · exact .inl ⟨decide_eq_true (by omega), IntWalk.i64_in _ ⟨by omega, by omega⟩⟩
            · exact .inr (decide_eq_false (by omega))
          rcases hca with ⟨da, wa⟩ | da
          all_goals (
            go_wp2_with fail
            refine wp_region_below (W := w8) (by kernel_rfl) (by kernel_rfl) (Below.refl _ _) ?_
            repeat (go_big_quiet_step ((first | (go_at_call 15; with_reducible exact (KF.out _ _)) | (go_at_call 16; with_reducible exact (KR.out _ _)))))
            refine wpQuiet_nil ?_
            intro w9 hb9
            have T9 := Lib.hid (T8.out.below hb9)
            clear hb9 e2 KF KR
            go_wp2
            go_roundw
            case rel => exact ⟨m + 1, by omega, by go_num, _, T9.out⟩
            case measure => simp [intOf]; omega)
        · have hz2 : (cd == 0) = false := by simpa using hz
          have hw : wrF f aa nn vv = f := by unfold wrF; rw [if_neg (by rw [← HC.out]; exact hz)]
          rw [hw] at M6
          clear hz hw
          have TT := Lib.hid (show Twin6 w w6 p g q h f from ⟨M6.out, N6.out, HB6.out⟩)
          have CM := C6
          have SS := S6
          have e2 := cell_at6 SS.out 2 rfl
          go_wp2_with fail
          have keyc : Calls Try.prog 9 #[.pointer (some ⟨pc, 0, none⟩), .int .u64 0, .int .i64 8, .int .u64 12345] _ _ := write_all 0#64 8 12345#64 _ CM.out
          (with_reducible refine keyc.mono ?_)
          clear keyc
          rintro e w8 ⟨rfl, hu, _⟩
          have T8 := Lib.hid (show Twin6 w w8 p g q h f from ⟨TT.out.m.upd hu AC.out.2.1 AC.out.2.2.1, TT.out.r.upd hu AC.out.2.2.2.1 AC.out.2.2.2.2.1, Upd.below TT.out.hb hu TT.out.hb.size AC.out.2.2.2.2.2.1⟩)
          have S8 := Lib.hid ((hu.block k (blk_lt SS.out) AC.out.1).trans SS.out)
          clear hu e0 e1 e2 e3 e4 CM
          have e2 : ∀ s : Beyond w8, s.to.cell? ⟨k, 2, none⟩ = some (U aa) := fun s => cell_at6 ((s.ok.block k (blk_lt S8.out)).trans S8.out) 2 rfl
          have KF := Lib.hid (show ∀ (j : Int) (s : Beyond w8), Calls Try.prog 15 #[.pointer (some ⟨p, 0, none⟩), .int .i64 j] s.to fun e w'' => e = .returned (.string (frF f j)) ∧ ∃ s' : Beyond w8, w'' = s'.to from
            fun j s => (frame_all j s.to (T8.out.m.below s.ok)).mono fun e w'' ⟨h1, h2⟩ => ⟨h1, ⟨w'', HBstep s.ok h2⟩, rfl⟩)
          have KR := Lib.hid (show ∀ (j : Int) (s : Beyond w8), Calls Try.prog 16 #[.pointer (some ⟨q, 0, none⟩), .int .i64 j] s.to fun e w'' => e = .returned (.string (frF f j)) ∧ ∃ s' : Beyond w8, w'' = s'.to from
            fun j s => (rframe_all j s.to (T8.out.r.below s.ok)).mono fun e w'' ⟨h1, h2⟩ => ⟨h1, ⟨w'', by rw [← h2]; exact s.ok⟩, rfl⟩)
          generalize f = F at *
          have hca : (decide ((aa.toNat : Int) < 32768) = true ∧ IntKind.i64.wrap ((aa.toNat : Int) / 256) = (aa.toNat : Int) / 256) ∨ decide ((aa.toNat : Int) < 32768) = false := by
            by_cases c : aa.toNat < 32768
            · exact .inl ⟨decide_eq_true (by omega), IntWalk.i64_in _ ⟨by omega, by omega⟩⟩
            · exact .inr (decide_eq_false (by omega))
          rcases hca with ⟨da, wa⟩ | da
          all_goals (
            go_wp2_with fail
            refine wp_region_below (W := w8) (by kernel_rfl) (by kernel_rfl) (Below.refl _ _) ?_
            repeat (go_big_quiet_step ((first | (go_at_call 15; with_reducible exact (KF.out _ _)) | (go_at_call 16; with_reducible exact (KR.out _ _)))))
            refine wpQuiet_nil ?_
            intro w9 hb9
            have T9 := Lib.hid (T8.out.below hb9)
            clear hb9 e2 KF KR
            go_wp2
            go_roundw
            case rel => exact ⟨m + 1, by omega, by go_num, _, T9.out⟩
            case measure => simp [intOf]; omega)
      by_cases hw4 : wh ≤ 4
      · skip
        have d2 : decide (wh ≤ 2) = false := decide_eq_false hw
        have d4 : decide (wh ≤ 4) = true := decide_eq_true hw4
        clear hw hw4
        go_wp2_with fail
        have key := read_all aa nn w5 TW5.out.m
        rw [← HC.out] at key
        have hv : cd = 0 → rdF f aa nn = readF f aa.toNat nn := fun hz => by unfold rdF; rw [if_pos (by rw [← HC.out]; exact hz)]
        have hv0 : cd ≠ 0 → rdF f aa nn = 0#64 := fun hz => by unfold rdF; rw [if_neg (by rw [← HC.out]; exact hz)]
        generalize rdF f aa nn = rv at key hv hv0
        have HV := Lib.hid hv
        have HV0 := Lib.hid hv0
        clear hv hv0
        (with_reducible refine key.mono ?_)
        clear key
        rintro e w6 ⟨rfl, hb6⟩
        have TT := Lib.hid (TW5.out.below hb6)
        have CM := Lib.hid (MC.out.below hb6)
        have SS := Lib.hid ((hb6.block k (blk_lt S5.out)).trans S5.out)
        clear hb6 e0 e1 e2 e3 e4
        have e1 := cell_at6 SS.out 1 rfl
        have e2 := cell_at6 SS.out 2 rfl
        have e0 : True := trivial
        have e3 : True := trivial
        have e4 : True := trivial
        have cb : (cd != cd) = false := by simp
        by_cases hz : cd = 0
        · have hz2 : (cd == 0) = true := by simp [hz]
          have hcd := HC.out
          rw [hz] at hcd
          have HVz := Lib.hid (HV.out hz)
          obtain ⟨nk, rfl⟩ : ∃ nk : Nat, nn = (nk : Int) := ⟨nn.toNat, by have := (codeOf_zero hcd.symm).1; omega⟩
          have HZ := Lib.hid hcd
          clear hcd hz
          go_wp2_with fail
          have key := rread_any aa nk w6 TT.out.r HZ.out.symm
          rw [← HVz.out] at key
          (with_reducible refine key.mono ?_)
          clear key
          rintro e w7 ⟨rfl, rfl⟩
          have e2 := cell_at6 SS.out 2 rfl
          go_wp2_with fail
          have keyc : Calls Try.prog 9 #[.pointer (some ⟨pc, 0, none⟩), .int .u64 0, .int .i64 8, .int .u64 12345] _ _ := write_all 0#64 8 12345#64 _ CM.out
          (with_reducible refine keyc.mono ?_)
          clear keyc
          rintro e w8 ⟨rfl, hu, _⟩
          have T8 := Lib.hid (show Twin6 w w8 p g q h f from ⟨TT.out.m.upd hu AC.out.2.1 AC.out.2.2.1, TT.out.r.upd hu AC.out.2.2.2.1 AC.out.2.2.2.2.1, Upd.below TT.out.hb hu TT.out.hb.size AC.out.2.2.2.2.2.1⟩)
          have S8 := Lib.hid ((hu.block k (blk_lt SS.out) AC.out.1).trans SS.out)
          clear hu e0 e1 e2 e3 e4 CM
          have e2 : ∀ s : Beyond w8, s.to.cell? ⟨k, 2, none⟩ = some (U aa) := fun s => cell_at6 ((s.ok.block k (blk_lt S8.out)).trans S8.out) 2 rfl
          have KF := Lib.hid (show ∀ (j : Int) (s : Beyond w8), Calls Try.prog 15 #[.pointer (some ⟨p, 0, none⟩), .int .i64 j] s.to fun e w'' => e = .returned (.string (frF f j)) ∧ ∃ s' : Beyond w8, w'' = s'.to from
            fun j s => (frame_all j s.to (T8.out.m.below s.ok)).mono fun e w'' ⟨h1, h2⟩ => ⟨h1, ⟨w'', HBstep s.ok h2⟩, rfl⟩)
          have KR := Lib.hid (show ∀ (j : Int) (s : Beyond w8), Calls Try.prog 16 #[.pointer (some ⟨q, 0, none⟩), .int .i64 j] s.to fun e w'' => e = .returned (.string (frF f j)) ∧ ∃ s' : Beyond w8, w'' = s'.to from
            fun j s => (rframe_all j s.to (T8.out.r.below s.ok)).mono fun e w'' ⟨h1, h2⟩ => ⟨h1, ⟨w'', by rw [← h2]; exact s.ok⟩, rfl⟩)
          generalize f = F at *
          have hca : (decide ((aa.toNat : Int) < 32768) = true ∧ IntKind.i64.wrap ((aa.toNat : Int) / 256) = (aa.toNat : Int) / 256) ∨ decide ((aa.toNat : Int) < 32768) = false := by
            by_cases c : aa.toNat < 32768
            · exact .inl ⟨decide_eq_true (by omega), IntWalk.i64_in _ ⟨by omega, by omega⟩⟩
            · exact .inr (decide_eq_false (by omega))
          rcases hca with ⟨da, wa⟩ | da
          all_goals (
            go_wp2_with fail
            refine wp_region_below (W := w8) (by kernel_rfl) (by kernel_rfl) (Below.refl _ _) ?_
            repeat (go_big_quiet_step ((first | (go_at_call 15; with_reducible exact (KF.out _ _)) | (go_at_call 16; with_reducible exact (KR.out _ _)))))
            refine wpQuiet_nil ?_
            intro w9 hb9
            have T9 := Lib.hid (T8.out.below hb9)
            clear hb9 e2 KF KR
            go_wp2
            go_roundw
            case rel => exact ⟨m + 1, by omega, by go_num, _, T9.out⟩
            case measure => simp [intOf]; omega)
        · have hz2 : (cd == 0) = false := by simpa using hz
          have hv := HV0.out hz
          subst hv
          clear hz
          have e2 := cell_at6 SS.out 2 rfl
          go_wp2_with fail
          have keyc : Calls Try.prog 9 #[.pointer (some ⟨pc, 0, none⟩), .int .u64 0, .int .i64 8, .int .u64 12345] _ _ := write_all 0#64 8 12345#64 _ CM.out
          (with_reducible refine keyc.mono ?_)
          clear keyc
          rintro e w8 ⟨rfl, hu, _⟩
          have T8 := Lib.hid (show Twin6 w w8 p g q h f from ⟨TT.out.m.upd hu AC.out.2.1 AC.out.2.2.1, TT.out.r.upd hu AC.out.2.2.2.1 AC.out.2.2.2.2.1, Upd.below TT.out.hb hu TT.out.hb.size AC.out.2.2.2.2.2.1⟩)
          have S8 := Lib.hid ((hu.block k (blk_lt SS.out) AC.out.1).trans SS.out)
          clear hu e0 e1 e2 e3 e4 CM
          have e2 : ∀ s : Beyond w8, s.to.cell? ⟨k, 2, none⟩ = some (U aa) := fun s => cell_at6 ((s.ok.block k (blk_lt S8.out)).trans S8.out) 2 rfl
          have KF := Lib.hid (show ∀ (j : Int) (s : Beyond w8), Calls Try.prog 15 #[.pointer (some ⟨p, 0, none⟩), .int .i64 j] s.to fun e w'' => e = .returned (.string (frF f j)) ∧ ∃ s' : Beyond w8, w'' = s'.to from
            fun j s => (frame_all j s.to (T8.out.m.below s.ok)).mono fun e w'' ⟨h1, h2⟩ => ⟨h1, ⟨w'', HBstep s.ok h2⟩, rfl⟩)
          have KR := Lib.hid (show ∀ (j : Int) (s : Beyond w8), Calls Try.prog 16 #[.pointer (some ⟨q, 0, none⟩), .int .i64 j] s.to fun e w'' => e = .returned (.string (frF f j)) ∧ ∃ s' : Beyond w8, w'' = s'.to from
            fun j s => (rframe_all j s.to (T8.out.r.below s.ok)).mono fun e w'' ⟨h1, h2⟩ => ⟨h1, ⟨w'', by rw [← h2]; exact s.ok⟩, rfl⟩)
          generalize f = F at *
          have hca : (decide ((aa.toNat : Int) < 32768) = true ∧ IntKind.i64.wrap ((aa.toNat : Int) / 256) = (aa.toNat : Int) / 256) ∨ decide ((aa.toNat : Int) < 32768) = false := by
            by_cases c : aa.toNat < 32768
            · exact .inl ⟨decide_eq_true (by omega), IntWalk.i64_in _ ⟨by omega, by omega⟩⟩
            · exact .inr (decide_eq_false (by omega))
          rcases hca with ⟨da, wa⟩ | da
          all_goals (
            go_wp2_with fail
            refine wp_region_below (W := w8) (by kernel_rfl) (by kernel_rfl) (Below.refl _ _) ?_
            repeat (go_big_quiet_step ((first | (go_at_call 15; with_reducible exact (KF.out _ _)) | (go_at_call 16; with_reducible exact (KR.out _ _)))))
            refine wpQuiet_nil ?_
            intro w9 hb9
            have T9 := Lib.hid (T8.out.below hb9)
            clear hb9 e2 KF KR
            go_wp2
            go_roundw
            case rel => exact ⟨m + 1, by omega, by go_num, _, T9.out⟩
            case measure => simp [intOf]; omega)
      have d2 : decide (wh ≤ 2) = false := decide_eq_false (by omega)
      have d4 : decide (wh ≤ 4) = false := decide_eq_false hw4
      clear hw hw4
      go_wp2_with fail
      have key := lay_all aa bb w5 TW5.out.m (by have := hb3.out; simp only [maxLen]; omega)
      have KL := Lib.hid (fun (W : World) (M : IsMem W q h 47 f) => rlay_all aa bb W M hb3.out)
      generalize layFits aa bb = lf at key KL
      generalize layF f aa bb = ff at key KL
      cases lf
      · rw [if_neg (by simp)] at key
        (with_reducible refine key.mono ?_)
        clear key
        rintro e w6 ⟨rfl, hu, M6⟩
        have N6 := Lib.hid (TW5.out.r.upd hu AP.out.n3 (fun e => AP.out.n2 e.symm))
        have HB6 := Lib.hid (Upd.below TW5.out.hb hu TW5.out.hb.size AP.out.pg)
        have C6 := Lib.hid (MC.out.upd hu AC.out.2.2.2.2.2.2.1 AC.out.2.2.2.2.2.2.2.2.1)
        have S6 := Lib.hid ((hu.block k (blk_lt S5.out) KG.out.1).trans S5.out)
        have M6 := Lib.hid M6
        clear hu e0 e1 e2 e3 e4
        have e2 := cell_at6 S6.out 2 rfl
        have e4 := cell_at6 S6.out 4 rfl
        go_wp2_with fail
        (with_reducible refine (KL.out w6 N6.out).mono ?_)
        rintro e w7 ⟨rfl, hu, N7⟩
        have TT := Lib.hid (show Twin6 w w7 p g q h ff from ⟨M6.out.upd hu AP.out.n1 AP.out.n2, N7, Upd.below HB6.out hu HB6.out.size AP.out.qh⟩)
        have CM := Lib.hid (C6.out.upd hu AC.out.2.2.2.2.2.2.2.1 AC.out.2.2.2.2.2.2.2.2.2)
        have SS := Lib.hid ((hu.block k (blk_lt S6.out) KG.out.2).trans S6.out)
        clear hu N7 e2 e4
        have e0 : True := trivial
        have e1 : True := trivial
        have e3 : True := trivial
        have e4 : True := trivial
        have e2 := cell_at6 SS.out 2 rfl
        go_wp2_with fail
        have keyc : Calls Try.prog 9 #[.pointer (some ⟨pc, 0, none⟩), .int .u64 0, .int .i64 8, .int .u64 12345] _ _ := write_all 0#64 8 12345#64 _ CM.out
        (with_reducible refine keyc.mono ?_)
        clear keyc
        rintro e w8 ⟨rfl, hu, _⟩
        have T8 := Lib.hid (show Twin6 w w8 p g q h ff from ⟨TT.out.m.upd hu AC.out.2.1 AC.out.2.2.1, TT.out.r.upd hu AC.out.2.2.2.1 AC.out.2.2.2.2.1, Upd.below TT.out.hb hu TT.out.hb.size AC.out.2.2.2.2.2.1⟩)
        have S8 := Lib.hid ((hu.block k (blk_lt SS.out) AC.out.1).trans SS.out)
        clear hu e0 e1 e2 e3 e4 CM
        have e2 : ∀ s : Beyond w8, s.to.cell? ⟨k, 2, none⟩ = some (U aa) := fun s => cell_at6 ((s.ok.block k (blk_lt S8.out)).trans S8.out) 2 rfl
        have KF := Lib.hid (show ∀ (j : Int) (s : Beyond w8), Calls Try.prog 15 #[.pointer (some ⟨p, 0, none⟩), .int .i64 j] s.to fun e w'' => e = .returned (.string (frF ff j)) ∧ ∃ s' : Beyond w8, w'' = s'.to from
          fun j s => (frame_all j s.to (T8.out.m.below s.ok)).mono fun e w'' ⟨h1, h2⟩ => ⟨h1, ⟨w'', HBstep s.ok h2⟩, rfl⟩)
        have KR := Lib.hid (show ∀ (j : Int) (s : Beyond w8), Calls Try.prog 16 #[.pointer (some ⟨q, 0, none⟩), .int .i64 j] s.to fun e w'' => e = .returned (.string (frF ff j)) ∧ ∃ s' : Beyond w8, w'' = s'.to from
          fun j s => (rframe_all j s.to (T8.out.r.below s.ok)).mono fun e w'' ⟨h1, h2⟩ => ⟨h1, ⟨w'', by rw [← h2]; exact s.ok⟩, rfl⟩)
        generalize ff = F at *
        have hca : (decide ((aa.toNat : Int) < 32768) = true ∧ IntKind.i64.wrap ((aa.toNat : Int) / 256) = (aa.toNat : Int) / 256) ∨ decide ((aa.toNat : Int) < 32768) = false := by
          by_cases c : aa.toNat < 32768
          · exact .inl ⟨decide_eq_true (by omega), IntWalk.i64_in _ ⟨by omega, by omega⟩⟩
          · exact .inr (decide_eq_false (by omega))
        rcases hca with ⟨da, wa⟩ | da
        all_goals (
          go_wp2_with fail
          refine wp_region_below (W := w8) (by kernel_rfl) (by kernel_rfl) (Below.refl _ _) ?_
          repeat (go_big_quiet_step ((first | (go_at_call 15; with_reducible exact (KF.out _ _)) | (go_at_call 16; with_reducible exact (KR.out _ _)))))
          refine wpQuiet_nil ?_
          intro w9 hb9
          have T9 := Lib.hid (T8.out.below hb9)
          clear hb9 e2 KF KR
          go_wp2
          go_roundw
          case rel => exact ⟨m + 1, by omega, by go_num, _, T9.out⟩
          case measure => simp [intOf]; omega)
      · rw [if_pos rfl] at key
        (with_reducible refine key.mono ?_)
        clear key
        rintro e w6 ⟨rfl, hu, M6⟩
        have N6 := Lib.hid (TW5.out.r.upd hu AP.out.n3 (fun e => AP.out.n2 e.symm))
        have HB6 := Lib.hid (Upd.below TW5.out.hb hu TW5.out.hb.size AP.out.pg)
        have C6 := Lib.hid (MC.out.upd hu AC.out.2.2.2.2.2.2.1 AC.out.2.2.2.2.2.2.2.2.1)
        have S6 := Lib.hid ((hu.block k (blk_lt S5.out) KG.out.1).trans S5.out)
        have M6 := Lib.hid M6
        clear hu e0 e1 e2 e3 e4
        have e2 := cell_at6 S6.out 2 rfl
        have e4 := cell_at6 S6.out 4 rfl
        go_wp2_with fail
        (with_reducible refine (KL.out w6 N6.out).mono ?_)
        rintro e w7 ⟨rfl, hu, N7⟩
        have TT := Lib.hid (show Twin6 w w7 p g q h ff from ⟨M6.out.upd hu AP.out.n1 AP.out.n2, N7, Upd.below HB6.out hu HB6.out.size AP.out.qh⟩)
        have CM := Lib.hid (C6.out.upd hu AC.out.2.2.2.2.2.2.2.1 AC.out.2.2.2.2.2.2.2.2.2)
        have SS := Lib.hid ((hu.block k (blk_lt S6.out) KG.out.2).trans S6.out)
        clear hu N7 e2 e4
        have e0 : True := trivial
        have e1 : True := trivial
        have e3 : True := trivial
        have e4 : True := trivial
        have e2 := cell_at6 SS.out 2 rfl
        go_wp2_with fail
        have keyc : Calls Try.prog 9 #[.pointer (some ⟨pc, 0, none⟩), .int .u64 0, .int .i64 8, .int .u64 12345] _ _ := write_all 0#64 8 12345#64 _ CM.out
        (with_reducible refine keyc.mono ?_)
        clear keyc
        rintro e w8 ⟨rfl, hu, _⟩
        have T8 := Lib.hid (show Twin6 w w8 p g q h ff from ⟨TT.out.m.upd hu AC.out.2.1 AC.out.2.2.1, TT.out.r.upd hu AC.out.2.2.2.1 AC.out.2.2.2.2.1, Upd.below TT.out.hb hu TT.out.hb.size AC.out.2.2.2.2.2.1⟩)
        have S8 := Lib.hid ((hu.block k (blk_lt SS.out) AC.out.1).trans SS.out)
        clear hu e0 e1 e2 e3 e4 CM
        have e2 : ∀ s : Beyond w8, s.to.cell? ⟨k, 2, none⟩ = some (U aa) := fun s => cell_at6 ((s.ok.block k (blk_lt S8.out)).trans S8.out) 2 rfl
        have KF := Lib.hid (show ∀ (j : Int) (s : Beyond w8), Calls Try.prog 15 #[.pointer (some ⟨p, 0, none⟩), .int .i64 j] s.to fun e w'' => e = .returned (.string (frF ff j)) ∧ ∃ s' : Beyond w8, w'' = s'.to from
          fun j s => (frame_all j s.to (T8.out.m.below s.ok)).mono fun e w'' ⟨h1, h2⟩ => ⟨h1, ⟨w'', HBstep s.ok h2⟩, rfl⟩)
        have KR := Lib.hid (show ∀ (j : Int) (s : Beyond w8), Calls Try.prog 16 #[.pointer (some ⟨q, 0, none⟩), .int .i64 j] s.to fun e w'' => e = .returned (.string (frF ff j)) ∧ ∃ s' : Beyond w8, w'' = s'.to from
          fun j s => (rframe_all j s.to (T8.out.r.below s.ok)).mono fun e w'' ⟨h1, h2⟩ => ⟨h1, ⟨w'', by rw [← h2]; exact s.ok⟩, rfl⟩)
        generalize ff = F at *
        have hca : (decide ((aa.toNat : Int) < 32768) = true ∧ IntKind.i64.wrap ((aa.toNat : Int) / 256) = (aa.toNat : Int) / 256) ∨ decide ((aa.toNat : Int) < 32768) = false := by
          by_cases c : aa.toNat < 32768
          · exact .inl ⟨decide_eq_true (by omega), IntWalk.i64_in _ ⟨by omega, by omega⟩⟩
          · exact .inr (decide_eq_false (by omega))
        rcases hca with ⟨da, wa⟩ | da
        all_goals (
          go_wp2_with fail
          refine wp_region_below (W := w8) (by kernel_rfl) (by kernel_rfl) (Below.refl _ _) ?_
          repeat (go_big_quiet_step ((first | (go_at_call 15; with_reducible exact (KF.out _ _)) | (go_at_call 16; with_reducible exact (KR.out _ _)))))
          refine wpQuiet_nil ?_
          intro w9 hb9
          have T9 := Lib.hid (T8.out.below hb9)
          clear hb9 e2 KF KR
          go_wp2
          go_roundw
          case rel => exact ⟨m + 1, by omega, by go_num, _, T9.out⟩
          case measure => simp [intOf]; omega)
    · skip
      have TW := Lib.hid TW
      go_wp2_with fail
      (with_reducible refine (copy_any wr TW.out.m).mono ?_)
      rintro e w5 ⟨pc, gc, rfl, hpc, hgc, MC, hb5⟩
      have M5 := TW.out.m.below hb5
      have HB5 := Lib.hid (HBstep TW.out.hb hb5)
      clear hb5 hpc hgc
      go_wp2_with fail
      have key := same_any w5 M5 MC
      rw [same_true] at key
      (with_reducible refine key.mono ?_)
      clear key
      rintro e w6 ⟨rfl, kd, rfl⟩
      go_wp2
      go_ret
      exact ⟨rfl, HBstep HB5.out (Below.of_drew kd)⟩
theorem walkMemPlays (a : Option Addr) (n c : Nat) (fr : Int) (w : World) (hS : Steps6 w a n) :
    Calls Try.prog 3 #[.slice a n c, .int .i64 fr] w fun e w' => e = .returned (.bool true) ∧ Below w.heap.size w w' := by
  by_cases hn : n ≤ 40
  · exact plays_few fr a n c w hS hn
  · exact plays_many _ a n c w hn
end Go.Proofs.Ytkhiegmjdflkmaa
