/- The document's Read; no condition but the state. -/
import Derived.Test.YtkjbhjmjfacjcaaRefBusD
import Derived.Deep.RegionLaw
namespace Go.Proofs.Ytkjbhjmjfacjcaa
open Go.RowKit Go.BigFrame
set_option linter.unusedSimpArgs false
set_option linter.unusedVariables false
set_option maxRecDepth 100000

theorem rread_mem {q h : Nat} {R : RbV} (b : Nat) (a : BitVec 64) (n : Int) (w : World) (H : IsRb w b q h R) (hc : codeOf a n = 0) :
    Calls Try.prog 38 #[.pointer (some ⟨b, 0, none⟩), U a, .int .i64 n] w fun e w' => e = .returned (.tuple #[U (readF R.f a.toNat n), .bool true]) ∧ w = w' := by
  have c0 : w.cell? ⟨b, 0, none⟩ = some (.pointer (some ⟨q, 0, none⟩)) := H.cell 0
  obtain ⟨m, rfl⟩ : ∃ m : Nat, n = m := ⟨n.toNat, by have := (codeOf_zero hc).1; omega⟩
  have kc := rcode_any a m w H.mem
  rw [hc] at kc
  have kr := rread_any a m w H.mem hc
  generalize readF R.f a.toNat m = v at *
  clear H hc
  go_enter Try.func38, Try.ntmps38
  go_wp2_with fail
  (with_reducible refine kc.mono ?_)
  rintro e w1 ⟨rfl, rfl⟩
  go_wp2_with fail
  (with_reducible refine kr.mono ?_)
  rintro e w1 ⟨rfl, rfl⟩
  go_wp2
  go_ret2
  exact ⟨rfl, rfl⟩
/-- Where no memory is. -/
theorem rread_dev {q h : Nat} {R : RbV} (b : Nat) (a : BitVec 64) (n : Int) (w : World) (H : IsRb w b q h R) (hc : codeOf a n ≠ 0) (hn : ¬ (0 ≤ pOf a ∧ n = 1)) :
    Calls Try.prog 38 #[.pointer (some ⟨b, 0, none⟩), U a, .int .i64 n] w fun e w' =>
      e = .returned (.tuple #[bif ((a.toNat : Int) == 61440) && (n == 8) then U R.t else bif ((a.toNat : Int) == 61448) && (n == 8) then U R.al else .int .u64 0, .bool (((a.toNat : Int) == 61440) && (n == 8) || ((a.toNat : Int) == 61448) && (n == 8))]) ∧ w = w' := by
  have c0 : w.cell? ⟨b, 0, none⟩ = some (.pointer (some ⟨q, 0, none⟩)) := H.cell 0
  have c1 : w.cell? ⟨b, 1, none⟩ = some (U R.t) := H.cell 1
  have c2 : w.cell? ⟨b, 2, none⟩ = some (U R.al) := H.cell 2
  have c15 : w.cell? ⟨b, 15, none⟩ = some (.bool false) := H.cell 15
  have kc := rcode_any a n w H.mem
  have kp := rport a w
  have e0 : (codeOf a n == 0) = false := by rw [beq_eq_false_iff_ne]; exact hc
  have hx : (((a.toNat : Int) == 61440) && ((a.toNat : Int) == 61448)) = false := by rw [Bool.eq_false_iff]; intro e; rw [Bool.and_eq_true, beq_iff_eq, beq_iff_eq] at e; omega
  have hy : ((n == 8) && (n == 1)) = false := by rw [Bool.eq_false_iff]; intro e; rw [Bool.and_eq_true, beq_iff_eq, beq_iff_eq] at e; omega
  generalize pOf a = p at *
  have hz : (decide (0 ≤ p) && (n == 1)) = false := by rw [Bool.eq_false_iff]; intro e; rw [Bool.and_eq_true, decide_eq_true_iff, beq_iff_eq] at e; exact hn e
  generalize codeOf a n = c at *
  generalize hb1 : ((a.toNat : Int) == 61440) = b1 at *
  generalize hb2 : ((a.toNat : Int) == 61448) = b2 at *
  generalize hb3 : (n == 8) = b3 at *
  generalize hb4 : (n == 1) = b4 at *
  generalize hb5 : decide (0 ≤ p) = b5 at *
  clear H hc hn
  go_enter Try.func38, Try.ntmps38
  cases b1 <;> cases b2 <;> cases b3 <;> cases b4 <;> cases b5 <;> first
    | (exact absurd hx (by decide)) | (exact absurd hy (by decide)) | (exact absurd hz (by decide))
    | (clear hx hy hz
       go_wp2_with fail
       (with_reducible refine kc.mono ?_)
       rintro e w1 ⟨rfl, rfl⟩
       go_wp2_with fail
       (with_reducible refine kp.mono ?_)
       rintro e w2 ⟨rfl, rfl⟩
       go_wp2
       go_ret2
       exact ⟨rfl, rfl⟩)
theorem con_bits {a : BitVec 64} {k : Nat} (hc : conOf a 1 = some k) : ((a.toNat : Int) == 61440) = false ∧ ((a.toNat : Int) == 61448) = false ∧ codeOf a 1 = 60 ∧ pOf a = k ∧ k < 4 := by
  obtain ⟨hk, _, ha⟩ := con_lt hc
  refine ⟨(at_con ha hk).1, (at_con ha hk).2, ?_, ?_, hk⟩
  · unfold codeOf; rw [if_neg (by omega), if_pos (by omega)]
  · unfold pOf; rw [hc]
theorem rread_con0 {q h : Nat} {R : RbV} (b k : Nat) (a : BitVec 64) (w : World) (H : IsRb w b q h R) (hc : conOf a 1 = some k) (he : R.ins k = ⟨#[]⟩) :
    Calls Try.prog 38 #[.pointer (some ⟨b, 0, none⟩), U a, .int .i64 1] w fun e w' => e = .returned (.tuple #[.int .u64 0, .bool true]) ∧ w = w' := by
  obtain ⟨t1, t2, cd, ep, hk⟩ := con_bits hc
  have c0 : w.cell? ⟨b, 0, none⟩ = some (.pointer (some ⟨q, 0, none⟩)) := H.cell 0
  have c15 : w.cell? ⟨b, 15, none⟩ = some (.bool false) := H.cell 15
  have ci := H.cin k hk
  rw [he] at ci
  have kc := rcode_any a 1 w H.mem
  rw [cd] at kc
  have kp := rport a w
  rw [ep] at kp
  have k4 : (k : Int) < 4 := by omega
  clear H hc he cd ep hk
  go_enter Try.func38, Try.ntmps38
  go_wp2_with fail
  (with_reducible refine kc.mono ?_)
  rintro e w1 ⟨rfl, rfl⟩
  go_wp2_with fail
  (with_reducible refine kp.mono ?_)
  rintro e w2 ⟨rfl, rfl⟩
  go_wp2
  go_ret2
  exact ⟨rfl, rfl⟩
set_option maxHeartbeats 1000000 in
theorem rread_con {q h : Nat} {R : RbV} (b k : Nat) (a : BitVec 64) (x : UInt8) (l : List UInt8) (w : World) (H : IsRb w b q h R) (hc : conOf a 1 = some k) (he : R.ins k = ⟨(x :: l).toArray⟩) :
    Calls Try.prog 38 #[.pointer (some ⟨b, 0, none⟩), U a, .int .i64 1] w fun e w' => e = .returned (.tuple #[.int .u64 (x.toNat : Int), .bool true]) ∧ Upd w w' b ∧ IsRb w' b q h { R with ins := updN R.ins k ⟨l.toArray⟩ } := by
  obtain ⟨t1, t2, cd, ep, hk⟩ := con_bits hc
  have c0 : w.cell? ⟨b, 0, none⟩ = some (.pointer (some ⟨q, 0, none⟩)) := H.cell 0
  have c15 : w.cell? ⟨b, 15, none⟩ = some (.bool false) := H.cell 15
  have ci := H.cin k hk
  have fz := H.free (3 + k)
  have kc := rcode_any a 1 w H.mem
  rw [cd] at kc
  have kp := rport a w
  rw [ep] at kp
  have k4 : (k : Int) < 4 := by omega
  have FIN := Lib.hid (show Upd w (w.setCell ⟨b, 3 + k, none⟩ (.string ⟨l.toArray⟩)) b ∧ IsRb (w.setCell ⟨b, 3 + k, none⟩ (.string ⟨l.toArray⟩)) b q h { R with ins := updN R.ins k ⟨l.toArray⟩ } from
    ⟨set_upd _ _ _ _, H.set (R' := { R with ins := updN R.ins k ⟨l.toArray⟩ }) (3 + k) _ (by omega) rfl (rb_in q R k hk _)⟩)
  obtain ⟨s, hs⟩ : ∃ s, s = R.ins k := ⟨_, rfl⟩
  rw [← hs] at ci he
  obtain ⟨s2, hs2⟩ : ∃ s2 : ByteArray, s2 = ⟨l.toArray⟩ := ⟨_, rfl⟩
  rw [← hs2] at FIN ⊢
  have hsz : s.size = l.length + 1 := by rw [he]; rfl
  have hx1 : s.extract 1 s.size = s2 := by
    rw [hsz, he, hs2]
    apply ByteArray.ext
    simp [ByteArray.data_extract]
  have hsl : ∀ W, (Instr.slice 9 (.string s) (some (.int .i64 1)) none none).run Try.prog W = .ok (.string s2) W := fun W => by
    rw [run_slice_string_l (P := Try.prog) W 9 s Try.underlying9 .i64 1 (by omega) (by omega)]
    rw [← hx1]; rfl
  have hne : s.toList.isEmpty = false := by rw [he, ByteArray.toList_eq]; rfl
  have h0 : 0 < s.size := by omega
  have hs0 : s[0]'h0 = x := by subst he; rfl
  have xw : IntKind.u64.wrap (x.toNat : Int) = (x.toNat : Int) := IntWalk.u64_in _ ⟨by omega, by have := x.toNat_lt; omega⟩
  have hs0' := Lib.hid hs0
  clear H hc he cd ep hk hs hs2 hsz hx1 hs0
  go_enter Try.func38, Try.ntmps38
  go_wp2_with fail
  (with_reducible refine kc.mono ?_)
  rintro e w1 ⟨rfl, rfl⟩
  go_wp2_with fail
  (with_reducible refine kp.mono ?_)
  rintro e w2 ⟨rfl, rfl⟩
  go_wp2_with fail
  go_region
  all_goals (try go_wp2)
  have e0 := hs0'.out
  simp only [e0, xw]
  go_ret2
  have U1 := (Below.refl (w.setCell ⟨b, 3 + k, none⟩ (.string s2)).heap.size (w.setCell ⟨b, 3 + k, none⟩ (.string s2))).drew
  exact ⟨rfl, FIN.out.1.trans (Upd.of_below U1 b), FIN.out.2.below U1⟩
/-- Write into memory. -/
theorem rwrite_mem {q h : Nat} {R : RbV} (b : Nat) (a : BitVec 64) (n : Int) (x : BitVec 64) (w : World) (H : IsRb w b q h R) (hc : codeOf a n = 0) :
    Calls Try.prog 39 #[.pointer (some ⟨b, 0, none⟩), U a, .int .i64 n, U x] w fun e w' => e = .returned (.bool true) ∧ Upd w w' h ∧ IsRb w' b q h { R with f := wrF R.f a n x } := by
  have c0 : w.cell? ⟨b, 0, none⟩ = some (.pointer (some ⟨q, 0, none⟩)) := H.cell 0
  obtain ⟨m, rfl⟩ : ∃ m : Nat, n = m := ⟨n.toNat, by have := (codeOf_zero hc).1; omega⟩
  have kc := rcode_any a m w H.mem
  rw [hc] at kc
  have HH := Lib.hid H
  have kr := rwrite_any a m x w H.mem hc
  have ef : wrF R.f a m x = putF R.f a.toNat (bytesL x m) := by unfold wrF; rw [if_pos hc]; rfl
  rw [← ef] at kr
  generalize wrF R.f a m x = f' at *
  clear ef
  clear H hc
  go_enter Try.func39, Try.ntmps39
  go_wp2_with fail
  (with_reducible refine kc.mono ?_)
  rintro e w1 ⟨rfl, rfl⟩
  go_wp2_with fail
  (with_reducible refine kr.mono ?_)
  rintro e w1 ⟨rfl, hu, hM⟩
  go_wp2
  go_ret
  exact ⟨rfl, hu, ⟨(hu.block b (blk_lt HH.out.blk) HH.out.bh).trans HH.out.blk, hM, HH.out.bq, HH.out.bh⟩⟩
theorem rwrite_alarm {q h : Nat} {R : RbV} (b : Nat) (a x : BitVec 64) (w : World) (H : IsRb w b q h R) (ha : a.toNat = 61448) :
    Calls Try.prog 39 #[.pointer (some ⟨b, 0, none⟩), U a, .int .i64 8, U x] w fun e w' => e = .returned (.bool true) ∧ Upd w w' b ∧ IsRb w' b q h { R with al := x } := by
  have c0 : w.cell? ⟨b, 0, none⟩ = some (.pointer (some ⟨q, 0, none⟩)) := H.cell 0
  have c15 : w.cell? ⟨b, 15, none⟩ = some (.bool false) := H.cell 15
  have fz := H.free 2
  have c2 : w.cell? ⟨b, 2, none⟩ = some (U R.al) := H.cell 2
  have kc := rcode_any a 8 w H.mem
  have ec : codeOf a 8 = 60 := by unfold codeOf; rw [if_neg (by omega), if_pos (by omega)]
  rw [ec] at kc
  have kp := rport a w
  have t2 : ((a.toNat : Int) == 61448) = true := by rw [beq_iff_eq]; omega
  generalize pOf a = p at *
  have FIN := Lib.hid (show Upd w (w.setCell ⟨b, 2, none⟩ (U x)) b ∧ IsRb (w.setCell ⟨b, 2, none⟩ (U x)) b q h { R with al := x } from
    ⟨set_upd _ _ _ _, H.set (R' := { R with al := x }) 2 _ (by omega) rfl (rb_al q R x)⟩)
  clear H ha ec
  go_enter Try.func39, Try.ntmps39
  go_wp2_with fail
  (with_reducible refine kc.mono ?_)
  rintro e w1 ⟨rfl, rfl⟩
  go_wp2_with fail
  (with_reducible refine kp.mono ?_)
  rintro e w2 ⟨rfl, rfl⟩
  go_wp2
  go_ret
  exact ⟨rfl, FIN.out⟩
theorem rwrite_no {q h : Nat} {R : RbV} (b : Nat) (a x : BitVec 64) (n : Int) (w : World) (H : IsRb w b q h R) (hc : codeOf a n ≠ 0) (hn : ¬ (0 ≤ pOf a ∧ n = 1)) (ha : ¬ (a.toNat = 61448 ∧ n = 8)) :
    Calls Try.prog 39 #[.pointer (some ⟨b, 0, none⟩), U a, .int .i64 n, U x] w fun e w' => e = .returned (.bool false) ∧ w = w' := by
  have c0 : w.cell? ⟨b, 0, none⟩ = some (.pointer (some ⟨q, 0, none⟩)) := H.cell 0
  have c15 : w.cell? ⟨b, 15, none⟩ = some (.bool false) := H.cell 15
  have kc := rcode_any a n w H.mem
  have kp := rport a w
  have e0 : (codeOf a n == 0) = false := by rw [beq_eq_false_iff_ne]; exact hc
  have hx : (((a.toNat : Int) == 61448) && (n == 8)) = false := by rw [Bool.eq_false_iff]; intro e; rw [Bool.and_eq_true, beq_iff_eq, beq_iff_eq] at e; omega
  generalize pOf a = p at *
  have hz : (decide (0 ≤ p) && (n == 1)) = false := by rw [Bool.eq_false_iff]; intro e; rw [Bool.and_eq_true, decide_eq_true_iff, beq_iff_eq] at e; exact hn e
  generalize codeOf a n = c at *
  generalize hb2 : ((a.toNat : Int) == 61448) = b2 at *
  generalize hb3 : (n == 8) = b3 at *
  generalize hb4 : (n == 1) = b4 at *
  generalize hb5 : decide (0 ≤ p) = b5 at *
  clear H hc hn ha
  go_enter Try.func39, Try.ntmps39
  cases b2 <;> cases b3 <;> cases b4 <;> cases b5 <;> first
    | (exact absurd hx (by decide)) | (exact absurd hz (by decide))
    | (clear hx hz
       go_wp2_with fail
       (with_reducible refine kc.mono ?_)
       rintro e w1 ⟨rfl, rfl⟩
       go_wp2_with fail
       (with_reducible refine kp.mono ?_)
       rintro e w2 ⟨rfl, rfl⟩
       go_wp2
       go_ret
       exact ⟨rfl, rfl⟩)
theorem rwrite_con {q h : Nat} {R : RbV} (b k : Nat) (a x : BitVec 64) (w : World) (H : IsRb w b q h R) (hc : conOf a 1 = some k) (hl : (R.outs k).size ≤ 64) :
    Calls Try.prog 39 #[.pointer (some ⟨b, 0, none⟩), U a, .int .i64 1, U x] w fun e w' => e = .returned (.bool true) ∧ Upd w w' b ∧ IsRb w' b q h { R with outs := updN R.outs k (putB (R.outs k) (UInt8.ofNat x.toNat)) } := by
  obtain ⟨t1, t2, cd, ep, hk⟩ := con_bits hc
  have c0 : w.cell? ⟨b, 0, none⟩ = some (.pointer (some ⟨q, 0, none⟩)) := H.cell 0
  have c15 : w.cell? ⟨b, 15, none⟩ = some (.bool false) := H.cell 15
  have kc := rcode_any a 1 w H.mem
  rw [cd] at kc
  have kp := rport a w
  rw [ep] at kp
  obtain ⟨xb, hxb⟩ : ∃ xb : UInt8, xb = UInt8.ofNat x.toNat := ⟨_, rfl⟩
  have hxw : IntKind.u8.wrap (x.toNat : Int) = (xb.toNat : Int) := by rw [hxb]; simp [go_sem, IntKind.wrap, IntKind.signed, IntKind.bits]
  rw [← hxb]
  have kr := rput b k xb w H hk hl
  generalize updN R.outs k (putB (R.outs k) xb) = o' at *
  have k0 : (0 : Int) ≤ k := by omega
  clear H hc cd ep hk hl hxb
  go_enter Try.func39, Try.ntmps39
  go_wp2_with fail
  (with_reducible refine kc.mono ?_)
  rintro e w1 ⟨rfl, rfl⟩
  go_wp2_with fail
  (with_reducible refine kp.mono ?_)
  rintro e w2 ⟨rfl, rfl⟩
  go_wp2_with fail
  (with_reducible refine kr.mono ?_)
  rintro e w2 ⟨rfl, hu, hI⟩
  go_wp2
  go_ret
  exact ⟨rfl, hu, hI⟩
end Go.Proofs.Ytkjbhjmjfacjcaa
