/- A walk through two tables, by what reads an entry; no condition but what the reads tell. -/
import Derived.Test.YtkjbhjmjfacjcaaTables
import Derived.WalkMore
namespace Go.Proofs.Ytkjbhjmjfacjcaa
open Go.RowKit Go.BigFrame
set_option linter.unusedSimpArgs false
set_option linter.unusedVariables false
set_option maxRecDepth 100000

/-- A read, in whatever world lies beyond. -/
def Reads (w : World) (fn : FuncId) (b : Nat) (x k : Int) (v : BitVec 64) (c : Int) : Prop :=
  ∀ w', Below w.heap.size w w' → Calls Try.prog fn #[.int .i64 x, .int .i64 k, .pointer (some ⟨b, 0, none⟩)] w' fun e w'' => e = .returned (.tuple #[U v, .int .i64 c]) ∧ Below w'.heap.size w' w''
def Through (w : World) (b : Nat) (root : Int) (at_ v : BitVec 64) (c : Int) : Prop :=
  Calls Try.prog 47 #[.func (.func 48) #[] #[.pointer (some ⟨b, 0, none⟩)], .int .i64 root, U at_] w fun e w' => e = .returned (.tuple #[U v, .int .i64 c]) ∧ Below w.heap.size w w'
theorem two_ix0 (x y : Value) (w : World) : (Instr.index 109 (.agg #[x, y]) (.int .i64 0)).run Try.prog w = .ok x w := by kernel_rfl
theorem two_ix1 (x y : Value) (w : World) : (Instr.index 109 (.agg #[x, y]) (.int .i64 1)).run Try.prog w = .ok y w := by kernel_rfl
theorem u_ne (x y : BitVec 64) : ((x.toNat : Int) != (y.toNat : Int)) = !(x == y) := congrArg Bool.not (u_beq x y)

set_option maxHeartbeats 2000000 in
theorem thr_far (w : World) (b : Nat) (root : Int) (at_ : BitVec 64) (h : 65536 ≤ at_.toNat) : Through w b root at_ 0#64 1 := by
  have HB := Below.refl w.heap.size w
  have h2 : decide ((65536 : Int) ≤ (at_.toNat : Int)) = true := decide_eq_true (by omega)
  clear h
  unfold Through
  go_enter Try.func47, Try.ntmps47
  go_wp2
  go_step3
  go_wp2
  try rw [Exit.noGoto_ret]
  go_ret2
  exact ⟨rfl, HB⟩
set_option maxHeartbeats 2000000 in
theorem thr_code (w : World) (b : Nat) (root : Int) (at_ n0 : BitVec 64) (h : at_.toNat < 65536) (c : Int) (r0 : Reads w 48 b root ((bitsB at_ 12 4).toNat : Int) n0 c) (hc : c ≠ 0) : Through w b root at_ 0#64 c := by
  have HB := Below.refl w.heap.size w
  have h2 : decide ((65536 : Int) ≤ (at_.toNat : Int)) = false := decide_eq_false (by omega)
  have q0 := i64_of_u64 (bitsB at_ 12 4) (by have := bits_lt at_ 12 4 (by omega); omega)
  have q1 := i64_of_u64 (bitsB at_ 8 4) (by have := bits_lt at_ 8 4 (by omega); omega)
  have s0 := bits_b at_ 8 4
  have s1 := bits_b at_ 12 4
  rw [l8, n84] at s0
  rw [l12, n124] at s1
  have t0 : (c != 0) = true := bne_iff_ne.2 hc
  generalize bitsB at_ 12 4 = i0 at *
  generalize bitsB at_ 8 4 = i1 at *
  have ix0 := two_ix0 (U i0) (U i1)
  have ix1 := two_ix1 (U i0) (U i1)
  unfold Reads at *
  unfold Through
  have R0 := Lib.hid r0
  clear h r0 hc
  go_enter Try.func47, Try.ntmps47
  go_wp2
  go_step3
  go_wp2_with fail
  (with_reducible refine (s0.on HB).mono ?_)
  rintro e w1 ⟨rfl, HB⟩
  go_wp2_with fail
  go_step3
  go_wp2_with fail
  (with_reducible refine (s1.on HB).mono ?_)
  rintro e w2 ⟨rfl, HB⟩
  go_wp2_with fail
  refine wp_loop_rounds 3 ?_
  rw [rounds_succ]
  go_wp2_with (go_at_call 48; (with_reducible refine (R0.out _ HB).mono ?_); rintro e w3 ⟨rfl, hb⟩; replace HB := HBstep HB hb; clear hb)
  try rw [Exit.noGoto_ret]
  go_ret2
  exact ⟨rfl, HB⟩
set_option maxHeartbeats 2000000 in
theorem thr_none (w : World) (b : Nat) (root : Int) (at_ n0 : BitVec 64) (h : at_.toNat < 65536) (r0 : Reads w 48 b root ((bitsB at_ 12 4).toNat : Int) n0 0) (hs0 : isB n0 = false) : Through w b root at_ 0#64 1 := by
  have HB := Below.refl w.heap.size w
  have h2 : decide ((65536 : Int) ≤ (at_.toNat : Int)) = false := decide_eq_false (by omega)
  have q0 := i64_of_u64 (bitsB at_ 12 4) (by have := bits_lt at_ 12 4 (by omega); omega)
  have q1 := i64_of_u64 (bitsB at_ 8 4) (by have := bits_lt at_ 8 4 (by omega); omega)
  have s0 := bits_b at_ 8 4
  have s1 := bits_b at_ 12 4
  rw [l8, n84] at s0
  rw [l12, n124] at s1
  have p0 := pis_b n0
  rw [hs0] at p0
  generalize bitsB at_ 12 4 = i0 at *
  generalize bitsB at_ 8 4 = i1 at *
  have ix0 := two_ix0 (U i0) (U i1)
  have ix1 := two_ix1 (U i0) (U i1)
  unfold Reads at *
  unfold Through
  have R0 := Lib.hid r0
  clear h r0 hs0
  go_enter Try.func47, Try.ntmps47
  go_wp2
  go_step3
  go_wp2_with fail
  (with_reducible refine (s0.on HB).mono ?_)
  rintro e w1 ⟨rfl, HB⟩
  go_wp2_with fail
  go_step3
  go_wp2_with fail
  (with_reducible refine (s1.on HB).mono ?_)
  rintro e w2 ⟨rfl, HB⟩
  go_wp2_with fail
  refine wp_loop_rounds 3 ?_
  rw [rounds_succ]
  go_wp2_with (go_at_call 48; (with_reducible refine (R0.out _ HB).mono ?_); rintro e w3 ⟨rfl, hb⟩; replace HB := HBstep HB hb; clear hb)
  (with_reducible refine (p0.on HB).mono ?_)
  rintro e w4 ⟨rfl, HB⟩
  go_wp2_with fail
  try rw [Exit.noGoto_ret]
  go_ret2
  exact ⟨rfl, HB⟩
set_option maxHeartbeats 2000000 in
theorem thr_great_no (w : World) (b : Nat) (root : Int) (at_ n0 : BitVec 64) (h : at_.toNat < 65536) (r0 : Reads w 48 b root ((bitsB at_ 12 4).toNat : Int) n0 0) (hs0 : isB n0 = true) (lf0 : leafB n0 = true) (hz : bitsB n0 8 4 ≠ 0#64) : Through w b root at_ 0#64 1 := by
  have HB := Below.refl w.heap.size w
  have h2 : decide ((65536 : Int) ≤ (at_.toNat : Int)) = false := decide_eq_false (by omega)
  have q0 := i64_of_u64 (bitsB at_ 12 4) (by have := bits_lt at_ 12 4 (by omega); omega)
  have q1 := i64_of_u64 (bitsB at_ 8 4) (by have := bits_lt at_ 8 4 (by omega); omega)
  have s0 := bits_b at_ 8 4
  have s1 := bits_b at_ 12 4
  rw [l8, n84] at s0
  rw [l12, n124] at s1
  have p0 := pis_b n0
  rw [hs0] at p0
  have f0 := pleaf_b n0
  rw [lf0] at f0
  have sb := bits_b n0 8 4
  rw [l8, n84] at sb
  have t0 : (((bitsB n0 8 4).toNat : Int) != 0) = true := (u_ne (bitsB n0 8 4) 0#64).trans (by simpa using hz)
  generalize bitsB at_ 12 4 = i0 at *
  generalize bitsB at_ 8 4 = i1 at *
  have ix0 := two_ix0 (U i0) (U i1)
  have ix1 := two_ix1 (U i0) (U i1)
  generalize bitsB n0 8 4 = bb at *
  unfold Reads at *
  unfold Through
  have R0 := Lib.hid r0
  clear h r0 hz hs0 lf0
  go_enter Try.func47, Try.ntmps47
  go_wp2
  go_step3
  go_wp2_with fail
  (with_reducible refine (s0.on HB).mono ?_)
  rintro e w1 ⟨rfl, HB⟩
  go_wp2_with fail
  go_step3
  go_wp2_with fail
  (with_reducible refine (s1.on HB).mono ?_)
  rintro e w2 ⟨rfl, HB⟩
  go_wp2_with fail
  refine wp_loop_rounds 3 ?_
  rw [rounds_succ]
  go_wp2_with (go_at_call 48; (with_reducible refine (R0.out _ HB).mono ?_); rintro e w3 ⟨rfl, hb⟩; replace HB := HBstep HB hb; clear hb)
  (with_reducible refine (p0.on HB).mono ?_)
  rintro e w4 ⟨rfl, HB⟩
  go_wp2_with fail
  (with_reducible refine (f0.on HB).mono ?_)
  rintro e w5 ⟨rfl, HB⟩
  go_wp2_with fail
  (with_reducible refine (sb.on HB).mono ?_)
  rintro e w6 ⟨rfl, HB⟩
  go_wp2_with fail
  try rw [Exit.noGoto_ret]
  go_ret2
  exact ⟨rfl, HB⟩
set_option maxHeartbeats 2000000 in
theorem thr_great (w : World) (b : Nat) (root : Int) (at_ n0 : BitVec 64) (h : at_.toNat < 65536) (r0 : Reads w 48 b root ((bitsB at_ 12 4).toNat : Int) n0 0) (hs0 : isB n0 = true) (lf0 : leafB n0 = true) (hz : bitsB n0 8 4 = 0#64) : Through w b root at_ (setB n0 8 4 (bitsB at_ 8 4)) 0 := by
  have HB := Below.refl w.heap.size w
  have h2 : decide ((65536 : Int) ≤ (at_.toNat : Int)) = false := decide_eq_false (by omega)
  have q0 := i64_of_u64 (bitsB at_ 12 4) (by have := bits_lt at_ 12 4 (by omega); omega)
  have q1 := i64_of_u64 (bitsB at_ 8 4) (by have := bits_lt at_ 8 4 (by omega); omega)
  have s0 := bits_b at_ 8 4
  have s1 := bits_b at_ 12 4
  rw [l8, n84] at s0
  rw [l12, n124] at s1
  have p0 := pis_b n0
  rw [hs0] at p0
  have f0 := pleaf_b n0
  rw [lf0] at f0
  have sb := bits_b n0 8 4
  rw [l8, n84] at sb
  have ss := set_b n0 8 4 (bitsB at_ 8 4)
  rw [l8, n84] at ss
  have t0 : (((bitsB n0 8 4).toNat : Int) != 0) = false := by rw [hz]; rfl
  generalize bitsB at_ 12 4 = i0 at *
  generalize bitsB at_ 8 4 = i1 at *
  have ix0 := two_ix0 (U i0) (U i1)
  have ix1 := two_ix1 (U i0) (U i1)
  generalize bitsB n0 8 4 = bb at *
  unfold Reads at *
  unfold Through
  have R0 := Lib.hid r0
  clear h r0 hz hs0 lf0
  go_enter Try.func47, Try.ntmps47
  go_wp2
  go_step3
  go_wp2_with fail
  (with_reducible refine (s0.on HB).mono ?_)
  rintro e w1 ⟨rfl, HB⟩
  go_wp2_with fail
  go_step3
  go_wp2_with fail
  (with_reducible refine (s1.on HB).mono ?_)
  rintro e w2 ⟨rfl, HB⟩
  go_wp2_with fail
  refine wp_loop_rounds 3 ?_
  rw [rounds_succ]
  go_wp2_with (go_at_call 48; (with_reducible refine (R0.out _ HB).mono ?_); rintro e w3 ⟨rfl, hb⟩; replace HB := HBstep HB hb; clear hb)
  (with_reducible refine (p0.on HB).mono ?_)
  rintro e w4 ⟨rfl, HB⟩
  go_wp2_with fail
  (with_reducible refine (f0.on HB).mono ?_)
  rintro e w5 ⟨rfl, HB⟩
  go_wp2_with fail
  (with_reducible refine (sb.on HB).mono ?_)
  rintro e w6 ⟨rfl, HB⟩
  go_wp2_with fail
  (with_reducible refine (ss.on HB).mono ?_)
  rintro e w7 ⟨rfl, HB⟩
  go_wp2_with fail
  try rw [Exit.noGoto_ret]
  go_ret2
  exact ⟨rfl, HB⟩
set_option maxHeartbeats 2000000 in
theorem thr_code2 (w : World) (b : Nat) (root : Int) (at_ n0 : BitVec 64) (h : at_.toNat < 65536) (n1 : BitVec 64) (c : Int) (r0 : Reads w 48 b root ((bitsB at_ 12 4).toNat : Int) n0 0) (hs0 : isB n0 = true) (lf0 : leafB n0 = false) (r1 : Reads w 48 b (frameB n0 : Int) ((bitsB at_ 8 4).toNat : Int) n1 c) (hc : c ≠ 0) : Through w b root at_ 0#64 c := by
  have HB := Below.refl w.heap.size w
  have h2 : decide ((65536 : Int) ≤ (at_.toNat : Int)) = false := decide_eq_false (by omega)
  have q0 := i64_of_u64 (bitsB at_ 12 4) (by have := bits_lt at_ 12 4 (by omega); omega)
  have q1 := i64_of_u64 (bitsB at_ 8 4) (by have := bits_lt at_ 8 4 (by omega); omega)
  have s0 := bits_b at_ 8 4
  have s1 := bits_b at_ 12 4
  rw [l8, n84] at s0
  rw [l12, n124] at s1
  have p0 := pis_b n0
  rw [hs0] at p0
  have f0 := pleaf_b n0
  rw [lf0] at f0
  have fr := pframe_b n0
  have R1 := Lib.hid r1
  have t0 : (c != 0) = true := bne_iff_ne.2 hc
  generalize bitsB at_ 12 4 = i0 at *
  generalize bitsB at_ 8 4 = i1 at *
  have ix0 := two_ix0 (U i0) (U i1)
  have ix1 := two_ix1 (U i0) (U i1)
  generalize frameB n0 = fn0 at *
  unfold Reads at *
  unfold Through
  have R0 := Lib.hid r0
  clear h r0 hc hs0 lf0 r1
  go_enter Try.func47, Try.ntmps47
  go_wp2
  go_step3
  go_wp2_with fail
  (with_reducible refine (s0.on HB).mono ?_)
  rintro e w1 ⟨rfl, HB⟩
  go_wp2_with fail
  go_step3
  go_wp2_with fail
  (with_reducible refine (s1.on HB).mono ?_)
  rintro e w2 ⟨rfl, HB⟩
  go_wp2_with fail
  refine wp_loop_rounds 3 ?_
  rw [rounds_succ]
  go_wp2_with (go_at_call 48; (with_reducible refine (R0.out _ HB).mono ?_); rintro e w3 ⟨rfl, hb⟩; replace HB := HBstep HB hb; clear hb)
  (with_reducible refine (p0.on HB).mono ?_)
  rintro e w4 ⟨rfl, HB⟩
  go_wp2_with fail
  (with_reducible refine (f0.on HB).mono ?_)
  rintro e w5 ⟨rfl, HB⟩
  go_wp2_with fail
  (with_reducible refine (fr.on HB).mono ?_)
  rintro e w6 ⟨rfl, HB⟩
  go_wp2_with fail
  rw [rounds_succ]
  go_wp2_with (go_at_call 48; (with_reducible refine (R1.out _ HB).mono ?_); rintro e w7 ⟨rfl, hb⟩; replace HB := HBstep HB hb; clear hb)
  try rw [Exit.noGoto_ret]
  go_ret2
  exact ⟨rfl, HB⟩
set_option maxHeartbeats 2000000 in
theorem thr_none2 (w : World) (b : Nat) (root : Int) (at_ n0 : BitVec 64) (h : at_.toNat < 65536) (n1 : BitVec 64) (r0 : Reads w 48 b root ((bitsB at_ 12 4).toNat : Int) n0 0) (hs0 : isB n0 = true) (lf0 : leafB n0 = false) (r1 : Reads w 48 b (frameB n0 : Int) ((bitsB at_ 8 4).toNat : Int) n1 0) (hs1 : isB n1 = false) : Through w b root at_ 0#64 1 := by
  have HB := Below.refl w.heap.size w
  have h2 : decide ((65536 : Int) ≤ (at_.toNat : Int)) = false := decide_eq_false (by omega)
  have q0 := i64_of_u64 (bitsB at_ 12 4) (by have := bits_lt at_ 12 4 (by omega); omega)
  have q1 := i64_of_u64 (bitsB at_ 8 4) (by have := bits_lt at_ 8 4 (by omega); omega)
  have s0 := bits_b at_ 8 4
  have s1 := bits_b at_ 12 4
  rw [l8, n84] at s0
  rw [l12, n124] at s1
  have p0 := pis_b n0
  rw [hs0] at p0
  have f0 := pleaf_b n0
  rw [lf0] at f0
  have fr := pframe_b n0
  have R1 := Lib.hid r1
  have p1 := pis_b n1
  rw [hs1] at p1
  generalize bitsB at_ 12 4 = i0 at *
  generalize bitsB at_ 8 4 = i1 at *
  have ix0 := two_ix0 (U i0) (U i1)
  have ix1 := two_ix1 (U i0) (U i1)
  generalize frameB n0 = fn0 at *
  unfold Reads at *
  unfold Through
  have R0 := Lib.hid r0
  clear h r0 hs0 lf0 r1 hs1
  go_enter Try.func47, Try.ntmps47
  go_wp2
  go_step3
  go_wp2_with fail
  (with_reducible refine (s0.on HB).mono ?_)
  rintro e w1 ⟨rfl, HB⟩
  go_wp2_with fail
  go_step3
  go_wp2_with fail
  (with_reducible refine (s1.on HB).mono ?_)
  rintro e w2 ⟨rfl, HB⟩
  go_wp2_with fail
  refine wp_loop_rounds 3 ?_
  rw [rounds_succ]
  go_wp2_with (go_at_call 48; (with_reducible refine (R0.out _ HB).mono ?_); rintro e w3 ⟨rfl, hb⟩; replace HB := HBstep HB hb; clear hb)
  (with_reducible refine (p0.on HB).mono ?_)
  rintro e w4 ⟨rfl, HB⟩
  go_wp2_with fail
  (with_reducible refine (f0.on HB).mono ?_)
  rintro e w5 ⟨rfl, HB⟩
  go_wp2_with fail
  (with_reducible refine (fr.on HB).mono ?_)
  rintro e w6 ⟨rfl, HB⟩
  go_wp2_with fail
  rw [rounds_succ]
  go_wp2_with (go_at_call 48; (with_reducible refine (R1.out _ HB).mono ?_); rintro e w7 ⟨rfl, hb⟩; replace HB := HBstep HB hb; clear hb)
  (with_reducible refine (p1.on HB).mono ?_)
  rintro e w8 ⟨rfl, HB⟩
  go_wp2_with fail
  try rw [Exit.noGoto_ret]
  go_ret2
  exact ⟨rfl, HB⟩
set_option maxHeartbeats 2000000 in
theorem thr_ptr2 (w : World) (b : Nat) (root : Int) (at_ n0 : BitVec 64) (h : at_.toNat < 65536) (n1 : BitVec 64) (r0 : Reads w 48 b root ((bitsB at_ 12 4).toNat : Int) n0 0) (hs0 : isB n0 = true) (lf0 : leafB n0 = false) (r1 : Reads w 48 b (frameB n0 : Int) ((bitsB at_ 8 4).toNat : Int) n1 0) (hs1 : isB n1 = true) (lf1 : leafB n1 = false) : Through w b root at_ 0#64 1 := by
  have HB := Below.refl w.heap.size w
  have h2 : decide ((65536 : Int) ≤ (at_.toNat : Int)) = false := decide_eq_false (by omega)
  have q0 := i64_of_u64 (bitsB at_ 12 4) (by have := bits_lt at_ 12 4 (by omega); omega)
  have q1 := i64_of_u64 (bitsB at_ 8 4) (by have := bits_lt at_ 8 4 (by omega); omega)
  have s0 := bits_b at_ 8 4
  have s1 := bits_b at_ 12 4
  rw [l8, n84] at s0
  rw [l12, n124] at s1
  have p0 := pis_b n0
  rw [hs0] at p0
  have f0 := pleaf_b n0
  rw [lf0] at f0
  have fr := pframe_b n0
  have R1 := Lib.hid r1
  have p1 := pis_b n1
  rw [hs1] at p1
  have f1 := pleaf_b n1
  rw [lf1] at f1
  have fr1 := pframe_b n1
  generalize bitsB at_ 12 4 = i0 at *
  generalize bitsB at_ 8 4 = i1 at *
  have ix0 := two_ix0 (U i0) (U i1)
  have ix1 := two_ix1 (U i0) (U i1)
  generalize frameB n0 = fn0 at *
  generalize frameB n1 = fn1 at *
  unfold Reads at *
  unfold Through
  have R0 := Lib.hid r0
  clear h r0 hs0 lf0 r1 hs1 lf1
  go_enter Try.func47, Try.ntmps47
  go_wp2
  go_step3
  go_wp2_with fail
  (with_reducible refine (s0.on HB).mono ?_)
  rintro e w1 ⟨rfl, HB⟩
  go_wp2_with fail
  go_step3
  go_wp2_with fail
  (with_reducible refine (s1.on HB).mono ?_)
  rintro e w2 ⟨rfl, HB⟩
  go_wp2_with fail
  refine wp_loop_rounds 3 ?_
  rw [rounds_succ]
  go_wp2_with (go_at_call 48; (with_reducible refine (R0.out _ HB).mono ?_); rintro e w3 ⟨rfl, hb⟩; replace HB := HBstep HB hb; clear hb)
  (with_reducible refine (p0.on HB).mono ?_)
  rintro e w4 ⟨rfl, HB⟩
  go_wp2_with fail
  (with_reducible refine (f0.on HB).mono ?_)
  rintro e w5 ⟨rfl, HB⟩
  go_wp2_with fail
  (with_reducible refine (fr.on HB).mono ?_)
  rintro e w6 ⟨rfl, HB⟩
  go_wp2_with fail
  rw [rounds_succ]
  go_wp2_with (go_at_call 48; (with_reducible refine (R1.out _ HB).mono ?_); rintro e w7 ⟨rfl, hb⟩; replace HB := HBstep HB hb; clear hb)
  (with_reducible refine (p1.on HB).mono ?_)
  rintro e w8 ⟨rfl, HB⟩
  go_wp2_with fail
  (with_reducible refine (f1.on HB).mono ?_)
  rintro e w9 ⟨rfl, HB⟩
  go_wp2_with fail
  (with_reducible refine (fr1.on HB).mono ?_)
  rintro e w10 ⟨rfl, HB⟩
  go_wp2_with fail
  rw [rounds_succ]
  go_wp2_with fail
  try rw [Exit.noGoto_ret]
  go_ret2
  exact ⟨rfl, HB⟩
set_option maxHeartbeats 2000000 in
theorem thr_page (w : World) (b : Nat) (root : Int) (at_ n0 : BitVec 64) (h : at_.toNat < 65536) (n1 : BitVec 64) (r0 : Reads w 48 b root ((bitsB at_ 12 4).toNat : Int) n0 0) (hs0 : isB n0 = true) (lf0 : leafB n0 = false) (r1 : Reads w 48 b (frameB n0 : Int) ((bitsB at_ 8 4).toNat : Int) n1 0) (hs1 : isB n1 = true) (lf1 : leafB n1 = true) : Through w b root at_ n1 0 := by
  have HB := Below.refl w.heap.size w
  have h2 : decide ((65536 : Int) ≤ (at_.toNat : Int)) = false := decide_eq_false (by omega)
  have q0 := i64_of_u64 (bitsB at_ 12 4) (by have := bits_lt at_ 12 4 (by omega); omega)
  have q1 := i64_of_u64 (bitsB at_ 8 4) (by have := bits_lt at_ 8 4 (by omega); omega)
  have s0 := bits_b at_ 8 4
  have s1 := bits_b at_ 12 4
  rw [l8, n84] at s0
  rw [l12, n124] at s1
  have p0 := pis_b n0
  rw [hs0] at p0
  have f0 := pleaf_b n0
  rw [lf0] at f0
  have fr := pframe_b n0
  have R1 := Lib.hid r1
  have p1 := pis_b n1
  rw [hs1] at p1
  have f1 := pleaf_b n1
  rw [lf1] at f1
  generalize bitsB at_ 12 4 = i0 at *
  generalize bitsB at_ 8 4 = i1 at *
  have ix0 := two_ix0 (U i0) (U i1)
  have ix1 := two_ix1 (U i0) (U i1)
  generalize frameB n0 = fn0 at *
  unfold Reads at *
  unfold Through
  have R0 := Lib.hid r0
  clear h r0 hs0 lf0 r1 hs1 lf1
  go_enter Try.func47, Try.ntmps47
  go_wp2
  go_step3
  go_wp2_with fail
  (with_reducible refine (s0.on HB).mono ?_)
  rintro e w1 ⟨rfl, HB⟩
  go_wp2_with fail
  go_step3
  go_wp2_with fail
  (with_reducible refine (s1.on HB).mono ?_)
  rintro e w2 ⟨rfl, HB⟩
  go_wp2_with fail
  refine wp_loop_rounds 3 ?_
  rw [rounds_succ]
  go_wp2_with (go_at_call 48; (with_reducible refine (R0.out _ HB).mono ?_); rintro e w3 ⟨rfl, hb⟩; replace HB := HBstep HB hb; clear hb)
  (with_reducible refine (p0.on HB).mono ?_)
  rintro e w4 ⟨rfl, HB⟩
  go_wp2_with fail
  (with_reducible refine (f0.on HB).mono ?_)
  rintro e w5 ⟨rfl, HB⟩
  go_wp2_with fail
  (with_reducible refine (fr.on HB).mono ?_)
  rintro e w6 ⟨rfl, HB⟩
  go_wp2_with fail
  rw [rounds_succ]
  go_wp2_with (go_at_call 48; (with_reducible refine (R1.out _ HB).mono ?_); rintro e w7 ⟨rfl, hb⟩; replace HB := HBstep HB hb; clear hb)
  (with_reducible refine (p1.on HB).mono ?_)
  rintro e w8 ⟨rfl, HB⟩
  go_wp2_with fail
  (with_reducible refine (f1.on HB).mono ?_)
  rintro e w9 ⟨rfl, HB⟩
  go_wp2_with fail
  try rw [Exit.noGoto_ret]
  go_ret2
  exact ⟨rfl, HB⟩
end Go.Proofs.Ytkjbhjmjfacjcaa
