/- The bus: Read and Write where no console is; no condition but the state. -/
import Derived.Test.YtkjbhjmjfacjcaaBusB
namespace Go.Proofs.Ytkjbhjmjfacjcaa
open Go.RowKit Go.BigFrame
set_option linter.unusedSimpArgs false
set_option linter.unusedVariables false
set_option maxRecDepth 100000

theorem bread_time (b B : Nat) (S : BusV) (w : World) (h : Bus w B b S) :
    Calls Try.prog 27 #[.pointer (some ⟨b, 0, none⟩), .int .u64 61440, .int .i64 8] w fun e w' => e = .returned (.tuple #[U S.t, .bool true]) ∧ w = w' := by
  obtain ⟨p, g, ks, vs, h⟩ := h
  have key := aload b 1 S.t w h.c1
  generalize S.t = t at *
  clear h
  go_enter Try.func27, Try.ntmps27
  go_wp2_with fail
  (with_reducible refine key.mono ?_)
  rintro e w1 ⟨rfl, rfl⟩
  go_wp2
  go_ret2
  exact ⟨rfl, rfl⟩
theorem bread_alarm (b B : Nat) (S : BusV) (w : World) (h : Bus w B b S) :
    Calls Try.prog 27 #[.pointer (some ⟨b, 0, none⟩), .int .u64 61448, .int .i64 8] w fun e w' => e = .returned (.tuple #[U S.al, .bool true]) ∧ w = w' := by
  obtain ⟨p, g, ks, vs, h⟩ := h
  have key := h.c2
  generalize S.al = t at *
  clear h
  go_enter Try.func27, Try.ntmps27
  go_wp2
  go_ret2
  exact ⟨rfl, rfl⟩
theorem bread_mem (b B : Nat) (S : BusV) (a : BitVec 64) (n : Int) (w : World) (h : Bus w B b S) (hc : conOf a n = none) (h1 : ¬ (a.toNat = 61440 ∧ n = 8)) (h2 : ¬ (a.toNat = 61448 ∧ n = 8)) :
    Calls Try.prog 27 #[.pointer (some ⟨b, 0, none⟩), U a, .int .i64 n] w fun e w' => e = .returned (.tuple #[U (rdF S.f a n), .bool (codeOf a n == 0)]) ∧ Below w.heap.size w w' := by
  obtain ⟨p, g, ks, vs, h⟩ := h
  have hp := h.c0
  have kc := bcon b a n w
  rw [hc] at kc
  have kr := read_all a n w h.mem
  generalize rdF S.f a n = v at *
  have e1 : (((a.toNat : Int) == 61440) && (n == 8)) = false := by rw [Bool.eq_false_iff]; intro e; rw [Bool.and_eq_true, beq_iff_eq, beq_iff_eq] at e; omega
  have e2 : (((a.toNat : Int) == 61448) && (n == 8)) = false := by rw [Bool.eq_false_iff]; intro e; rw [Bool.and_eq_true, beq_iff_eq, beq_iff_eq] at e; omega
  generalize hb1 : ((a.toNat : Int) == 61440) = b1 at *
  generalize hb2 : ((a.toNat : Int) == 61448) = b2 at *
  generalize hb3 : (n == 8) = b3 at *
  generalize codeOf a n = c at *
  clear h h1 h2 hc
  go_enter Try.func27, Try.ntmps27
  cases b1 <;> cases b2 <;> cases b3 <;> first
    | (exact absurd e1 (by decide)) | (exact absurd e2 (by decide))
    | (go_wp2_with fail
       (with_reducible refine kc.mono ?_)
       rintro e w1 ⟨rfl, rfl⟩
       go_wp2_with fail
       (with_reducible refine kr.mono ?_)
       rintro e w2 ⟨rfl, hb⟩
       go_wp2
       go_ret2
       exact ⟨rfl, hb⟩)
theorem bwrite_alarm (b B : Nat) (S : BusV) (x : BitVec 64) (w : World) (h : Bus w B b S) :
    Calls Try.prog 28 #[.pointer (some ⟨b, 0, none⟩), .int .u64 61448, .int .i64 8, U x] w fun e w' => e = .returned (.bool true) ∧ Upd w w' b ∧ Bus w' B b { S with al := x } := by
  obtain ⟨p, g, ks, vs, h⟩ := h
  have c2 := h.c2
  have f2 := h.free 2
  have fin := Lib.hid (show Upd w (w.setCell ⟨b, 2, none⟩ (U x)) b ∧ Bus (w.setCell ⟨b, 2, none⟩ (U x)) B b { S with al := x } from
    ⟨set_upd _ _ _ _, p, g, ks, vs, h.turn (set_upd _ _ _ _) S.t x S.ns (set_block h.blk (show 2 < 15 by decide))⟩)
  generalize S.al = t at *
  clear h
  go_enter Try.func28, Try.ntmps28
  go_wp2
  go_ret
  exact ⟨rfl, fin.out⟩
/-- The memory behind the bus has turned. -/
theorem IsBus.mem_turn {w w' : World} {B b p g : Nat} {ks : Nat → Option Nat} {vs : Nat → Value} {S : BusV} {f : Nat → UInt8} (h : IsBus w B b p g ks vs S) (u : Upd w w' g) (hM : IsMem w' p g 88 f) :
    IsBus w' B b p g ks vs { S with f := f } :=
  { h with
    blk := by rw [u.block b (blk_lt h.blk) h.bg]; exact h.blk
    mem := hM
    row := fun i hi => (h.row i hi).same fun k hk hl => u.block k hl (fun e => (h.far i hi).1 (by rw [hk, e])) }
theorem bwrite_mem (b B : Nat) (S : BusV) (a : BitVec 64) (n : Int) (x : BitVec 64) (w : World) (h : Bus w B b S) (hc : conOf a n = none) (h2 : ¬ (a.toNat = 61448 ∧ n = 8)) :
    Calls Try.prog 28 #[.pointer (some ⟨b, 0, none⟩), U a, .int .i64 n, U x] w fun e w' => e = .returned (.bool (codeOf a n == 0)) ∧ (B ≤ w.heap.size → Below B w w') ∧ w.heap.size ≤ w'.heap.size ∧ Bus w' B b { S with f := wrF S.f a n x } := by
  obtain ⟨p, g, ks, vs, h⟩ := h
  have hp := h.c0
  have kc := bcon b a n w
  rw [hc] at kc
  have kr := write_all a n x w h.mem
  have H := Lib.hid h
  generalize wrF S.f a n x = f' at *
  have e2 : (((a.toNat : Int) == 61448) && (n == 8)) = false := by rw [Bool.eq_false_iff]; intro e; rw [Bool.and_eq_true, beq_iff_eq, beq_iff_eq] at e; omega
  generalize hb2 : ((a.toNat : Int) == 61448) = b2 at *
  generalize hb3 : (n == 8) = b3 at *
  generalize codeOf a n = c at *
  clear h h2 hc
  go_enter Try.func28, Try.ntmps28
  cases b2 <;> cases b3 <;> first
    | (exact absurd e2 (by decide))
    | (go_wp2_with fail
       (with_reducible refine kc.mono ?_)
       rintro e w1 ⟨rfl, rfl⟩
       go_wp2_with fail
       (with_reducible refine kr.mono ?_)
       rintro e w2 ⟨rfl, hu, hM⟩
       go_wp2
       go_ret
       exact ⟨rfl, fun hB => Upd.below (Below.refl B w) hu hB H.out.lg, hu.size, p, g, ks, vs, H.out.mem_turn hu hM⟩)
end Go.Proofs.Ytkjbhjmjfacjcaa
