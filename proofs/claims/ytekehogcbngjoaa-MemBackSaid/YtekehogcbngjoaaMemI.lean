/- The walk of MemBack. -/
import Derived.Test.YtekehogcbngjoaaMemH
namespace Go.Proofs.Ytekehogcbngjoaa
open Go.RowKit Go.BigFrame
set_option linter.unusedSimpArgs false
set_option linter.unusedVariables false

theorem code_in (a : Nat) (n : Int) (hn : n = 1 ∨ n = 2 ∨ n = 4 ∨ n = 8) (hd : (a : Int) % n = 0) (ha : a < 32768) : codeOf (BitVec.ofNat 64 a) n = 0 := by
  unfold codeOf
  rw [ofNat_toNat a (by omega), if_neg, if_neg (by omega)]
  rintro (h | h)
  · omega
  · exact h hd
theorem Gives.run {P : Program} {f : FuncId} {args : Array Value} {v : Value} (h : Gives P f args v) (w : World) : Calls P f args w fun e w' => e = .returned v ∧ Below w.heap.size w w' := h w
theorem un_xor (v : BitVec 64) : Op.unary .xor (.int .u64 (v.toNat : Int)) = (pure (.int .u64 ((~~~v).toNat : Int)) : Sem Value) := by
  have e : bits .xor .u64 (18446744073709551615 : Int) (v.toNat : Int) = ((~~~v).toNat : Int) := by
    have e1 := u_xor (BitVec.allOnes 64) v
    have e2 : ((BitVec.allOnes 64).toNat : Int) = 18446744073709551615 := rfl
    rw [e2] at e1
    rw [e1, BitVec.allOnes_xor]
  rw [← e]; rfl
theorem u_not (v : BitVec 64) : ((~~~v).toNat : Int) = 18446744073709551615 - (v.toNat : Int) := by
  rw [BitVec.toNat_not]; have := v.isLt; omega

set_option maxHeartbeats 1000000 in
set_option maxRecDepth 100000 in
theorem back1 (x a n : Nat) (v : BitVec 64) (w : World) (ex : bits .andNot .u64 ((x : Int) % 32752) 7 = (a : Int)) (ha8 : a % 8 = 0) (ha : a ≤ 32744) (en : ((n : Int) % 4) = 0) (hn : n < 256) (hx : x < 65536) :
    Calls Try.prog 12 #[.int .u16 x, U v, .int .u8 n] w fun e w' => e = .returned (.bool true) ∧ Below w.heap.size w w' := by
  have HB := Below.refl w.heap.size w
  obtain ⟨u, hux⟩ : ∃ u : BitVec 64, Op.unary .xor (.int .u64 (v.toNat : Int)) = (pure (.int .u64 (u.toNat : Int)) : Sem Value) := ⟨_, un_xor v⟩
  have d0 : IntKind.u64.wrap (x : Int) = (x : Int) := IntWalk.u64_in _ ⟨by omega, by omega⟩
  have d1 : IntKind.u64.wrap ((a : Int) + 8) = (a : Int) + 8 := IntWalk.u64_in _ ⟨by omega, by omega⟩
  have UA := Lib.hid (U_of a (by omega))
  have UA8 := Lib.hid (U_of (a + 8) (by omega))
  have AC := Lib.hid (show ((a + 8 : Nat) : Int) = (a : Int) + 8 by omega)
  have CA := Lib.hid (code_in a 8 (by omega) (by omega) (by omega))
  have CA8 := Lib.hid (code_in (a + 8) 8 (by omega) (by omega) (by omega))
  have CK := Lib.hid (code_in a 1 (by omega) (by omega) (by omega))
  have AB := Lib.hid ha
  have FR := Lib.hid (show ∀ i, i % 1 = 0 → i < 8 → codeOf (BitVec.ofNat 64 (a + i)) 1 = 0 from fun i hi h8 => code_in (a + i) 1 (by omega) (by omega) (by omega))
  have W1 := Lib.hid (show wrF (fun _ => 0) (BitVec.ofNat 64 a) 8 v = putF (fun _ => 0) a (bytesL v 8) by unfold wrF; rw [if_pos (code_in a 8 (by omega) (by omega) (by omega)), ofNat_toNat a (by omega)]; rfl)
  have W2 := Lib.hid (show wrF (putF (fun _ => 0) a (bytesL v 8)) (BitVec.ofNat 64 (a + 8)) 8 u = two8 a v u by unfold wrF; rw [if_pos (code_in (a + 8) 8 (by omega) (by omega) (by omega)), ofNat_toNat (a + 8) (by omega)]; rfl)
  have W3 := Lib.hid (show wrF (two8 a v u) (BitVec.ofNat 64 a) 1 0#64 = putF (two8 a v u) a (bytesL 0#64 1) by unfold wrF; rw [if_pos (code_in a 1 (by omega) (by omega) (by omega)), ofNat_toNat a (by omega)]; rfl)
  have R1 := Lib.hid (show ∀ i, i % 1 = 0 → i < 8 → rdF (two8 a v u) (BitVec.ofNat 64 (a + i)) 1 = bitsB v (8 * i) (8 * 1) from fun i hi h8 => by unfold rdF; rw [if_pos (code_in (a + i) 1 (by omega) (by omega) (by omega)), ofNat_toNat _ (by omega)]; exact read_lo a v u i 1 (by omega))
  have R2 := Lib.hid (show rdF (two8 a v u) (BitVec.ofNat 64 (a + 8)) 8 = u by unfold rdF; rw [if_pos (code_in (a + 8) 8 (by omega) (by omega) (by omega)), ofNat_toNat _ (by omega)]; exact read_hi a v u)
  have R3 := Lib.hid (show rdF (two8 a v u) (BitVec.ofNat 64 a) 8 = v by unfold rdF; rw [if_pos (code_in a 8 (by omega) (by omega) (by omega)), ofNat_toNat _ (by omega)]; exact read_lo8 a v u)
  have S1 := Lib.hid (same_cut a v u 1 (by omega) (by omega))
  have z1 : wOf 8 = 8 := by decide
  clear ha8 ha
  go_enter Try.func12, Try.ntmps12
  go_wp2_with fail
  (with_reducible refine (known6_b.on HB).mono ?_)
  rintro e w1 ⟨rfl, HB1⟩
  replace HB := HB1
  clear HB1
  go_wp2_with fail
  refine (new_all _).mono ?_
  rintro e w2 ⟨p, g, rfl, hp, hg, hpl, hgl, M1, hb⟩
  have hg2 : w.heap.size ≤ g := Nat.le_trans HB.size hg
  replace HB := HBstep HB hb
  clear hb hg hp hpl hgl
  go_wp2_with fail
  have key := write_all (BitVec.ofNat 64 a) 8 v w2 M1
  rw [UA.out, CA.out, W1.out] at key
  (with_reducible refine key.mono ?_)
  clear key
  rintro e w3 ⟨rfl, hu, M2⟩
  replace HB := Upd.below HB hu HB.size hg2
  clear M1 hu
  go_wp2_with fail
  have key := write_all (BitVec.ofNat 64 (a + 8)) 8 u w3 M2
  rw [UA8.out, CA8.out, W2.out, AC.out] at key
  (with_reducible refine key.mono ?_)
  clear key
  rintro e w4 ⟨rfl, hu, M3⟩
  replace HB := Upd.below HB hu HB.size hg2
  clear M2 hu
  go_wp2_with fail
  go_loopw [10] (fun i wr => ∃ j : Nat, j ≤ 8 ∧ j % 1 = 0 ∧ i = .int .i64 (j : Int) ∧ IsMem wr p g 66 (two8 a v u) ∧ Below w.heap.size w wr) (fun i _ => 8 - (intOf i).toNat)
  case atStart => exact ⟨0, by omega, by omega, rfl, M3, HB⟩
  case round =>
    clear M3 HB
    obtain ⟨j, hj, hjm, rfl, M, HB⟩ := hrel
    by_cases hjs : j < 8
    · have hc := FR.out j hjm hjs
      have hv := R1.out j hjm hjs
      have HK := Lib.hid (U_of (a + j) (by have := AB.out; omega))
      have d4 : IntKind.u64.wrap ((a : Int) + (j : Int)) = (a : Int) + (j : Int) := IntWalk.u64_in _ ⟨by omega, by have := AB.out; omega⟩
      have L1 : loOf (8 * (j : Int)) = 8 * j := by rw [loOf_in (by omega) (by omega)]; omega
      have L2 : nOf (8 * (j : Int)) 8 = 8 := by unfold nOf; rw [L1]; unfold held; (repeat' split) <;> omega
      have HM := Lib.hid hjm
      clear hjm
      go_wp2_with fail
      have key := read_all (BitVec.ofNat 64 (a + j)) 1 wr M
      rw [HK.out, hv, hc, show ((a + j : Nat) : Int) = (a : Int) + (j : Int) by omega] at key
      clear hv hc
      (with_reducible refine key.mono ?_)
      clear key
      rintro e w5 ⟨rfl, hb⟩
      have M4 := M.below hb
      replace HB := HBstep HB hb
      clear M hb
      go_wp2_with fail
      (with_reducible refine ((rbits_b _ _ _).run _).mono ?_)
      rintro e w6 ⟨rfl, hb⟩
      have M5 := M4.below hb
      replace HB := HBstep HB hb
      clear M4 hb
      go_wp2
      go_roundw
      case rel => exact ⟨j + 1, by have := HM.out; omega, by have := HM.out; omega, by go_num, M5, HB⟩
      case measure => simp [intOf]; omega
    · go_wp2_with fail
      have key := read_all (BitVec.ofNat 64 (a + 8)) 8 wr M
      rw [UA8.out, R2.out, CA8.out, AC.out] at key
      (with_reducible refine key.mono ?_)
      clear key
      rintro e w5 ⟨rfl, hb⟩
      have M4 := M.below hb
      replace HB := HBstep HB hb
      clear M hb
      go_wp2_with fail
      have key := copy_any w5 M4
      (with_reducible refine key.mono ?_)
      clear key
      rintro e w6 ⟨p2, g2, rfl, hp2, hg2', N1, hb⟩
      have hne1 : p ≠ g2 := by have := M4.p_lt; omega
      have hne2 : g ≠ g2 := by have := M4.g_lt; omega
      have hg3 : w.heap.size ≤ g2 := Nat.le_trans HB.size hg2'
      have M5 := M4.below hb
      replace HB := HBstep HB hb
      clear M4 hb hp2 hg2'
      go_wp2_with fail
      have key := write_all (BitVec.ofNat 64 a) 1 0#64 w6 N1
      rw [UA.out, CK.out, W3.out, show U 0#64 = .int .u64 0 from rfl] at key
      (with_reducible refine key.mono ?_)
      clear key
      rintro e w7 ⟨rfl, hu, N2⟩
      have M6 := M5.upd hu hne1 hne2
      replace HB := Upd.below HB hu HB.size hg3
      clear M5 N1 hu hne1 hne2
      go_wp2_with fail
      have key := read_all (BitVec.ofNat 64 a) 8 w7 M6
      rw [UA.out, R3.out, CA.out] at key
      (with_reducible refine key.mono ?_)
      clear key
      rintro e w8 ⟨rfl, hb⟩
      have M7 := M6.below hb
      have N3 := N2.below hb
      replace HB := HBstep HB hb
      clear M6 N2 hb
      go_wp2_with fail
      have key := same_any w8 N3 M7
      rw [S1.out] at key
      (with_reducible refine key.mono ?_)
      clear key
      rintro e w9 ⟨rfl, nn, hw9⟩
      replace HB := HBstep HB (show Below w8.heap.size w8 w9 by rw [hw9]; exact Below.of_drew nn)
      clear hw9 M7 N3
      go_wp2_with fail
      (with_reducible refine ((rzext_b _ _).on HB).mono ?_)
      clear HB
      rintro e w10 ⟨rfl, HB⟩
      go_wp2
      go_ret
      have Z : (((zextB v 8).toNat : Int) == 0) = (zextB v 8 == 0#64) := u_beq _ 0#64
      exact ⟨ret_b (a := (zextB v 8 == 0#64) == (((zextB v 8).toNat : Int) == 0)) (by rw [Z]; simp), HB⟩

set_option maxHeartbeats 1000000 in
set_option maxRecDepth 100000 in
theorem back2 (x a n : Nat) (v : BitVec 64) (w : World) (ex : bits .andNot .u64 ((x : Int) % 32752) 7 = (a : Int)) (ha8 : a % 8 = 0) (ha : a ≤ 32744) (en : ((n : Int) % 4) = 1) (hn : n < 256) (hx : x < 65536) :
    Calls Try.prog 12 #[.int .u16 x, U v, .int .u8 n] w fun e w' => e = .returned (.bool true) ∧ Below w.heap.size w w' := by
  have HB := Below.refl w.heap.size w
  obtain ⟨u, hux⟩ : ∃ u : BitVec 64, Op.unary .xor (.int .u64 (v.toNat : Int)) = (pure (.int .u64 (u.toNat : Int)) : Sem Value) := ⟨_, un_xor v⟩
  have d0 : IntKind.u64.wrap (x : Int) = (x : Int) := IntWalk.u64_in _ ⟨by omega, by omega⟩
  have d1 : IntKind.u64.wrap ((a : Int) + 8) = (a : Int) + 8 := IntWalk.u64_in _ ⟨by omega, by omega⟩
  have UA := Lib.hid (U_of a (by omega))
  have UA8 := Lib.hid (U_of (a + 8) (by omega))
  have AC := Lib.hid (show ((a + 8 : Nat) : Int) = (a : Int) + 8 by omega)
  have CA := Lib.hid (code_in a 8 (by omega) (by omega) (by omega))
  have CA8 := Lib.hid (code_in (a + 8) 8 (by omega) (by omega) (by omega))
  have CK := Lib.hid (code_in a 2 (by omega) (by omega) (by omega))
  have AB := Lib.hid ha
  have FR := Lib.hid (show ∀ i, i % 2 = 0 → i < 8 → codeOf (BitVec.ofNat 64 (a + i)) 2 = 0 from fun i hi h8 => code_in (a + i) 2 (by omega) (by omega) (by omega))
  have W1 := Lib.hid (show wrF (fun _ => 0) (BitVec.ofNat 64 a) 8 v = putF (fun _ => 0) a (bytesL v 8) by unfold wrF; rw [if_pos (code_in a 8 (by omega) (by omega) (by omega)), ofNat_toNat a (by omega)]; rfl)
  have W2 := Lib.hid (show wrF (putF (fun _ => 0) a (bytesL v 8)) (BitVec.ofNat 64 (a + 8)) 8 u = two8 a v u by unfold wrF; rw [if_pos (code_in (a + 8) 8 (by omega) (by omega) (by omega)), ofNat_toNat (a + 8) (by omega)]; rfl)
  have W3 := Lib.hid (show wrF (two8 a v u) (BitVec.ofNat 64 a) 2 0#64 = putF (two8 a v u) a (bytesL 0#64 2) by unfold wrF; rw [if_pos (code_in a 2 (by omega) (by omega) (by omega)), ofNat_toNat a (by omega)]; rfl)
  have R1 := Lib.hid (show ∀ i, i % 2 = 0 → i < 8 → rdF (two8 a v u) (BitVec.ofNat 64 (a + i)) 2 = bitsB v (8 * i) (8 * 2) from fun i hi h8 => by unfold rdF; rw [if_pos (code_in (a + i) 2 (by omega) (by omega) (by omega)), ofNat_toNat _ (by omega)]; exact read_lo a v u i 2 (by omega))
  have R2 := Lib.hid (show rdF (two8 a v u) (BitVec.ofNat 64 (a + 8)) 8 = u by unfold rdF; rw [if_pos (code_in (a + 8) 8 (by omega) (by omega) (by omega)), ofNat_toNat _ (by omega)]; exact read_hi a v u)
  have R3 := Lib.hid (show rdF (two8 a v u) (BitVec.ofNat 64 a) 8 = v by unfold rdF; rw [if_pos (code_in a 8 (by omega) (by omega) (by omega)), ofNat_toNat _ (by omega)]; exact read_lo8 a v u)
  have S1 := Lib.hid (same_cut a v u 2 (by omega) (by omega))
  have z1 : wOf 16 = 16 := by decide
  clear ha8 ha
  go_enter Try.func12, Try.ntmps12
  go_wp2_with fail
  (with_reducible refine (known6_b.on HB).mono ?_)
  rintro e w1 ⟨rfl, HB1⟩
  replace HB := HB1
  clear HB1
  go_wp2_with fail
  refine (new_all _).mono ?_
  rintro e w2 ⟨p, g, rfl, hp, hg, hpl, hgl, M1, hb⟩
  have hg2 : w.heap.size ≤ g := Nat.le_trans HB.size hg
  replace HB := HBstep HB hb
  clear hb hg hp hpl hgl
  go_wp2_with fail
  have key := write_all (BitVec.ofNat 64 a) 8 v w2 M1
  rw [UA.out, CA.out, W1.out] at key
  (with_reducible refine key.mono ?_)
  clear key
  rintro e w3 ⟨rfl, hu, M2⟩
  replace HB := Upd.below HB hu HB.size hg2
  clear M1 hu
  go_wp2_with fail
  have key := write_all (BitVec.ofNat 64 (a + 8)) 8 u w3 M2
  rw [UA8.out, CA8.out, W2.out, AC.out] at key
  (with_reducible refine key.mono ?_)
  clear key
  rintro e w4 ⟨rfl, hu, M3⟩
  replace HB := Upd.below HB hu HB.size hg2
  clear M2 hu
  go_wp2_with fail
  go_loopw [10] (fun i wr => ∃ j : Nat, j ≤ 8 ∧ j % 2 = 0 ∧ i = .int .i64 (j : Int) ∧ IsMem wr p g 66 (two8 a v u) ∧ Below w.heap.size w wr) (fun i _ => 8 - (intOf i).toNat)
  case atStart => exact ⟨0, by omega, by omega, rfl, M3, HB⟩
  case round =>
    clear M3 HB
    obtain ⟨j, hj, hjm, rfl, M, HB⟩ := hrel
    by_cases hjs : j < 8
    · have hc := FR.out j hjm hjs
      have hv := R1.out j hjm hjs
      have HK := Lib.hid (U_of (a + j) (by have := AB.out; omega))
      have d4 : IntKind.u64.wrap ((a : Int) + (j : Int)) = (a : Int) + (j : Int) := IntWalk.u64_in _ ⟨by omega, by have := AB.out; omega⟩
      have L1 : loOf (8 * (j : Int)) = 8 * j := by rw [loOf_in (by omega) (by omega)]; omega
      have L2 : nOf (8 * (j : Int)) 16 = 16 := by unfold nOf; rw [L1]; unfold held; (repeat' split) <;> omega
      have HM := Lib.hid hjm
      clear hjm
      go_wp2_with fail
      have key := read_all (BitVec.ofNat 64 (a + j)) 2 wr M
      rw [HK.out, hv, hc, show ((a + j : Nat) : Int) = (a : Int) + (j : Int) by omega] at key
      clear hv hc
      (with_reducible refine key.mono ?_)
      clear key
      rintro e w5 ⟨rfl, hb⟩
      have M4 := M.below hb
      replace HB := HBstep HB hb
      clear M hb
      go_wp2_with fail
      (with_reducible refine ((rbits_b _ _ _).run _).mono ?_)
      rintro e w6 ⟨rfl, hb⟩
      have M5 := M4.below hb
      replace HB := HBstep HB hb
      clear M4 hb
      go_wp2
      go_roundw
      case rel => exact ⟨j + 2, by have := HM.out; omega, by have := HM.out; omega, by go_num, M5, HB⟩
      case measure => simp [intOf]; omega
    · go_wp2_with fail
      have key := read_all (BitVec.ofNat 64 (a + 8)) 8 wr M
      rw [UA8.out, R2.out, CA8.out, AC.out] at key
      (with_reducible refine key.mono ?_)
      clear key
      rintro e w5 ⟨rfl, hb⟩
      have M4 := M.below hb
      replace HB := HBstep HB hb
      clear M hb
      go_wp2_with fail
      have key := copy_any w5 M4
      (with_reducible refine key.mono ?_)
      clear key
      rintro e w6 ⟨p2, g2, rfl, hp2, hg2', N1, hb⟩
      have hne1 : p ≠ g2 := by have := M4.p_lt; omega
      have hne2 : g ≠ g2 := by have := M4.g_lt; omega
      have hg3 : w.heap.size ≤ g2 := Nat.le_trans HB.size hg2'
      have M5 := M4.below hb
      replace HB := HBstep HB hb
      clear M4 hb hp2 hg2'
      go_wp2_with fail
      have key := write_all (BitVec.ofNat 64 a) 2 0#64 w6 N1
      rw [UA.out, CK.out, W3.out, show U 0#64 = .int .u64 0 from rfl] at key
      (with_reducible refine key.mono ?_)
      clear key
      rintro e w7 ⟨rfl, hu, N2⟩
      have M6 := M5.upd hu hne1 hne2
      replace HB := Upd.below HB hu HB.size hg3
      clear M5 N1 hu hne1 hne2
      go_wp2_with fail
      have key := read_all (BitVec.ofNat 64 a) 8 w7 M6
      rw [UA.out, R3.out, CA.out] at key
      (with_reducible refine key.mono ?_)
      clear key
      rintro e w8 ⟨rfl, hb⟩
      have M7 := M6.below hb
      have N3 := N2.below hb
      replace HB := HBstep HB hb
      clear M6 N2 hb
      go_wp2_with fail
      have key := same_any w8 N3 M7
      rw [S1.out] at key
      (with_reducible refine key.mono ?_)
      clear key
      rintro e w9 ⟨rfl, nn, hw9⟩
      replace HB := HBstep HB (show Below w8.heap.size w8 w9 by rw [hw9]; exact Below.of_drew nn)
      clear hw9 M7 N3
      go_wp2_with fail
      (with_reducible refine ((rzext_b _ _).on HB).mono ?_)
      clear HB
      rintro e w10 ⟨rfl, HB⟩
      go_wp2
      go_ret
      have Z : (((zextB v 16).toNat : Int) == 0) = (zextB v 16 == 0#64) := u_beq _ 0#64
      exact ⟨ret_b (a := (zextB v 16 == 0#64) == (((zextB v 16).toNat : Int) == 0)) (by rw [Z]; simp), HB⟩

set_option maxHeartbeats 1000000 in
set_option maxRecDepth 100000 in
theorem back4 (x a n : Nat) (v : BitVec 64) (w : World) (ex : bits .andNot .u64 ((x : Int) % 32752) 7 = (a : Int)) (ha8 : a % 8 = 0) (ha : a ≤ 32744) (en : ((n : Int) % 4) = 2) (hn : n < 256) (hx : x < 65536) :
    Calls Try.prog 12 #[.int .u16 x, U v, .int .u8 n] w fun e w' => e = .returned (.bool true) ∧ Below w.heap.size w w' := by
  have HB := Below.refl w.heap.size w
  obtain ⟨u, hux⟩ : ∃ u : BitVec 64, Op.unary .xor (.int .u64 (v.toNat : Int)) = (pure (.int .u64 (u.toNat : Int)) : Sem Value) := ⟨_, un_xor v⟩
  have d0 : IntKind.u64.wrap (x : Int) = (x : Int) := IntWalk.u64_in _ ⟨by omega, by omega⟩
  have d1 : IntKind.u64.wrap ((a : Int) + 8) = (a : Int) + 8 := IntWalk.u64_in _ ⟨by omega, by omega⟩
  have UA := Lib.hid (U_of a (by omega))
  have UA8 := Lib.hid (U_of (a + 8) (by omega))
  have AC := Lib.hid (show ((a + 8 : Nat) : Int) = (a : Int) + 8 by omega)
  have CA := Lib.hid (code_in a 8 (by omega) (by omega) (by omega))
  have CA8 := Lib.hid (code_in (a + 8) 8 (by omega) (by omega) (by omega))
  have CK := Lib.hid (code_in a 4 (by omega) (by omega) (by omega))
  have AB := Lib.hid ha
  have FR := Lib.hid (show ∀ i, i % 4 = 0 → i < 8 → codeOf (BitVec.ofNat 64 (a + i)) 4 = 0 from fun i hi h8 => code_in (a + i) 4 (by omega) (by omega) (by omega))
  have W1 := Lib.hid (show wrF (fun _ => 0) (BitVec.ofNat 64 a) 8 v = putF (fun _ => 0) a (bytesL v 8) by unfold wrF; rw [if_pos (code_in a 8 (by omega) (by omega) (by omega)), ofNat_toNat a (by omega)]; rfl)
  have W2 := Lib.hid (show wrF (putF (fun _ => 0) a (bytesL v 8)) (BitVec.ofNat 64 (a + 8)) 8 u = two8 a v u by unfold wrF; rw [if_pos (code_in (a + 8) 8 (by omega) (by omega) (by omega)), ofNat_toNat (a + 8) (by omega)]; rfl)
  have W3 := Lib.hid (show wrF (two8 a v u) (BitVec.ofNat 64 a) 4 0#64 = putF (two8 a v u) a (bytesL 0#64 4) by unfold wrF; rw [if_pos (code_in a 4 (by omega) (by omega) (by omega)), ofNat_toNat a (by omega)]; rfl)
  have R1 := Lib.hid (show ∀ i, i % 4 = 0 → i < 8 → rdF (two8 a v u) (BitVec.ofNat 64 (a + i)) 4 = bitsB v (8 * i) (8 * 4) from fun i hi h8 => by unfold rdF; rw [if_pos (code_in (a + i) 4 (by omega) (by omega) (by omega)), ofNat_toNat _ (by omega)]; exact read_lo a v u i 4 (by omega))
  have R2 := Lib.hid (show rdF (two8 a v u) (BitVec.ofNat 64 (a + 8)) 8 = u by unfold rdF; rw [if_pos (code_in (a + 8) 8 (by omega) (by omega) (by omega)), ofNat_toNat _ (by omega)]; exact read_hi a v u)
  have R3 := Lib.hid (show rdF (two8 a v u) (BitVec.ofNat 64 a) 8 = v by unfold rdF; rw [if_pos (code_in a 8 (by omega) (by omega) (by omega)), ofNat_toNat _ (by omega)]; exact read_lo8 a v u)
  have S1 := Lib.hid (same_cut a v u 4 (by omega) (by omega))
  have z1 : wOf 32 = 32 := by decide
  clear ha8 ha
  go_enter Try.func12, Try.ntmps12
  go_wp2_with fail
  (with_reducible refine (known6_b.on HB).mono ?_)
  rintro e w1 ⟨rfl, HB1⟩
  replace HB := HB1
  clear HB1
  go_wp2_with fail
  refine (new_all _).mono ?_
  rintro e w2 ⟨p, g, rfl, hp, hg, hpl, hgl, M1, hb⟩
  have hg2 : w.heap.size ≤ g := Nat.le_trans HB.size hg
  replace HB := HBstep HB hb
  clear hb hg hp hpl hgl
  go_wp2_with fail
  have key := write_all (BitVec.ofNat 64 a) 8 v w2 M1
  rw [UA.out, CA.out, W1.out] at key
  (with_reducible refine key.mono ?_)
  clear key
  rintro e w3 ⟨rfl, hu, M2⟩
  replace HB := Upd.below HB hu HB.size hg2
  clear M1 hu
  go_wp2_with fail
  have key := write_all (BitVec.ofNat 64 (a + 8)) 8 u w3 M2
  rw [UA8.out, CA8.out, W2.out, AC.out] at key
  (with_reducible refine key.mono ?_)
  clear key
  rintro e w4 ⟨rfl, hu, M3⟩
  replace HB := Upd.below HB hu HB.size hg2
  clear M2 hu
  go_wp2_with fail
  go_loopw [10] (fun i wr => ∃ j : Nat, j ≤ 8 ∧ j % 4 = 0 ∧ i = .int .i64 (j : Int) ∧ IsMem wr p g 66 (two8 a v u) ∧ Below w.heap.size w wr) (fun i _ => 8 - (intOf i).toNat)
  case atStart => exact ⟨0, by omega, by omega, rfl, M3, HB⟩
  case round =>
    clear M3 HB
    obtain ⟨j, hj, hjm, rfl, M, HB⟩ := hrel
    by_cases hjs : j < 8
    · have hc := FR.out j hjm hjs
      have hv := R1.out j hjm hjs
      have HK := Lib.hid (U_of (a + j) (by have := AB.out; omega))
      have d4 : IntKind.u64.wrap ((a : Int) + (j : Int)) = (a : Int) + (j : Int) := IntWalk.u64_in _ ⟨by omega, by have := AB.out; omega⟩
      have L1 : loOf (8 * (j : Int)) = 8 * j := by rw [loOf_in (by omega) (by omega)]; omega
      have L2 : nOf (8 * (j : Int)) 32 = 32 := by unfold nOf; rw [L1]; unfold held; (repeat' split) <;> omega
      have HM := Lib.hid hjm
      clear hjm
      go_wp2_with fail
      have key := read_all (BitVec.ofNat 64 (a + j)) 4 wr M
      rw [HK.out, hv, hc, show ((a + j : Nat) : Int) = (a : Int) + (j : Int) by omega] at key
      clear hv hc
      (with_reducible refine key.mono ?_)
      clear key
      rintro e w5 ⟨rfl, hb⟩
      have M4 := M.below hb
      replace HB := HBstep HB hb
      clear M hb
      go_wp2_with fail
      (with_reducible refine ((rbits_b _ _ _).run _).mono ?_)
      rintro e w6 ⟨rfl, hb⟩
      have M5 := M4.below hb
      replace HB := HBstep HB hb
      clear M4 hb
      go_wp2
      go_roundw
      case rel => exact ⟨j + 4, by have := HM.out; omega, by have := HM.out; omega, by go_num, M5, HB⟩
      case measure => simp [intOf]; omega
    · go_wp2_with fail
      have key := read_all (BitVec.ofNat 64 (a + 8)) 8 wr M
      rw [UA8.out, R2.out, CA8.out, AC.out] at key
      (with_reducible refine key.mono ?_)
      clear key
      rintro e w5 ⟨rfl, hb⟩
      have M4 := M.below hb
      replace HB := HBstep HB hb
      clear M hb
      go_wp2_with fail
      have key := copy_any w5 M4
      (with_reducible refine key.mono ?_)
      clear key
      rintro e w6 ⟨p2, g2, rfl, hp2, hg2', N1, hb⟩
      have hne1 : p ≠ g2 := by have := M4.p_lt; omega
      have hne2 : g ≠ g2 := by have := M4.g_lt; omega
      have hg3 : w.heap.size ≤ g2 := Nat.le_trans HB.size hg2'
      have M5 := M4.below hb
      replace HB := HBstep HB hb
      clear M4 hb hp2 hg2'
      go_wp2_with fail
      have key := write_all (BitVec.ofNat 64 a) 4 0#64 w6 N1
      rw [UA.out, CK.out, W3.out, show U 0#64 = .int .u64 0 from rfl] at key
      (with_reducible refine key.mono ?_)
      clear key
      rintro e w7 ⟨rfl, hu, N2⟩
      have M6 := M5.upd hu hne1 hne2
      replace HB := Upd.below HB hu HB.size hg3
      clear M5 N1 hu hne1 hne2
      go_wp2_with fail
      have key := read_all (BitVec.ofNat 64 a) 8 w7 M6
      rw [UA.out, R3.out, CA.out] at key
      (with_reducible refine key.mono ?_)
      clear key
      rintro e w8 ⟨rfl, hb⟩
      have M7 := M6.below hb
      have N3 := N2.below hb
      replace HB := HBstep HB hb
      clear M6 N2 hb
      go_wp2_with fail
      have key := same_any w8 N3 M7
      rw [S1.out] at key
      (with_reducible refine key.mono ?_)
      clear key
      rintro e w9 ⟨rfl, nn, hw9⟩
      replace HB := HBstep HB (show Below w8.heap.size w8 w9 by rw [hw9]; exact Below.of_drew nn)
      clear hw9 M7 N3
      go_wp2_with fail
      (with_reducible refine ((rzext_b _ _).on HB).mono ?_)
      clear HB
      rintro e w10 ⟨rfl, HB⟩
      go_wp2
      go_ret
      have Z : (((zextB v 32).toNat : Int) == 0) = (zextB v 32 == 0#64) := u_beq _ 0#64
      exact ⟨ret_b (a := (zextB v 32 == 0#64) == (((zextB v 32).toNat : Int) == 0)) (by rw [Z]; simp), HB⟩

set_option maxHeartbeats 1000000 in
set_option maxRecDepth 100000 in
theorem back8 (x a n : Nat) (v : BitVec 64) (w : World) (ex : bits .andNot .u64 ((x : Int) % 32752) 7 = (a : Int)) (ha8 : a % 8 = 0) (ha : a ≤ 32744) (en : ((n : Int) % 4) = 3) (hn : n < 256) (hx : x < 65536) :
    Calls Try.prog 12 #[.int .u16 x, U v, .int .u8 n] w fun e w' => e = .returned (.bool true) ∧ Below w.heap.size w w' := by
  have HB := Below.refl w.heap.size w
  obtain ⟨u, hux⟩ : ∃ u : BitVec 64, Op.unary .xor (.int .u64 (v.toNat : Int)) = (pure (.int .u64 (u.toNat : Int)) : Sem Value) := ⟨_, un_xor v⟩
  have d0 : IntKind.u64.wrap (x : Int) = (x : Int) := IntWalk.u64_in _ ⟨by omega, by omega⟩
  have d1 : IntKind.u64.wrap ((a : Int) + 8) = (a : Int) + 8 := IntWalk.u64_in _ ⟨by omega, by omega⟩
  have UA := Lib.hid (U_of a (by omega))
  have UA8 := Lib.hid (U_of (a + 8) (by omega))
  have AC := Lib.hid (show ((a + 8 : Nat) : Int) = (a : Int) + 8 by omega)
  have CA := Lib.hid (code_in a 8 (by omega) (by omega) (by omega))
  have CA8 := Lib.hid (code_in (a + 8) 8 (by omega) (by omega) (by omega))
  have CK := Lib.hid (code_in a 8 (by omega) (by omega) (by omega))
  have AB := Lib.hid ha
  have FR := Lib.hid (show ∀ i, i % 8 = 0 → i < 8 → codeOf (BitVec.ofNat 64 (a + i)) 8 = 0 from fun i hi h8 => code_in (a + i) 8 (by omega) (by omega) (by omega))
  have W1 := Lib.hid (show wrF (fun _ => 0) (BitVec.ofNat 64 a) 8 v = putF (fun _ => 0) a (bytesL v 8) by unfold wrF; rw [if_pos (code_in a 8 (by omega) (by omega) (by omega)), ofNat_toNat a (by omega)]; rfl)
  have W2 := Lib.hid (show wrF (putF (fun _ => 0) a (bytesL v 8)) (BitVec.ofNat 64 (a + 8)) 8 u = two8 a v u by unfold wrF; rw [if_pos (code_in (a + 8) 8 (by omega) (by omega) (by omega)), ofNat_toNat (a + 8) (by omega)]; rfl)
  have W3 := Lib.hid (show wrF (two8 a v u) (BitVec.ofNat 64 a) 8 0#64 = putF (two8 a v u) a (bytesL 0#64 8) by unfold wrF; rw [if_pos (code_in a 8 (by omega) (by omega) (by omega)), ofNat_toNat a (by omega)]; rfl)
  have R1 := Lib.hid (show ∀ i, i % 8 = 0 → i < 8 → rdF (two8 a v u) (BitVec.ofNat 64 (a + i)) 8 = bitsB v (8 * i) (8 * 8) from fun i hi h8 => by unfold rdF; rw [if_pos (code_in (a + i) 8 (by omega) (by omega) (by omega)), ofNat_toNat _ (by omega)]; exact read_lo a v u i 8 (by omega))
  have R2 := Lib.hid (show rdF (two8 a v u) (BitVec.ofNat 64 (a + 8)) 8 = u by unfold rdF; rw [if_pos (code_in (a + 8) 8 (by omega) (by omega) (by omega)), ofNat_toNat _ (by omega)]; exact read_hi a v u)
  have R3 := Lib.hid (show rdF (two8 a v u) (BitVec.ofNat 64 a) 8 = v by unfold rdF; rw [if_pos (code_in a 8 (by omega) (by omega) (by omega)), ofNat_toNat _ (by omega)]; exact read_lo8 a v u)
  have S1 := Lib.hid (same_cut a v u 8 (by omega) (by omega))
  have z1 : wOf 64 = 64 := by decide
  clear ha8 ha
  go_enter Try.func12, Try.ntmps12
  go_wp2_with fail
  (with_reducible refine (known6_b.on HB).mono ?_)
  rintro e w1 ⟨rfl, HB1⟩
  replace HB := HB1
  clear HB1
  go_wp2_with fail
  refine (new_all _).mono ?_
  rintro e w2 ⟨p, g, rfl, hp, hg, hpl, hgl, M1, hb⟩
  have hg2 : w.heap.size ≤ g := Nat.le_trans HB.size hg
  replace HB := HBstep HB hb
  clear hb hg hp hpl hgl
  go_wp2_with fail
  have key := write_all (BitVec.ofNat 64 a) 8 v w2 M1
  rw [UA.out, CA.out, W1.out] at key
  (with_reducible refine key.mono ?_)
  clear key
  rintro e w3 ⟨rfl, hu, M2⟩
  replace HB := Upd.below HB hu HB.size hg2
  clear M1 hu
  go_wp2_with fail
  have key := write_all (BitVec.ofNat 64 (a + 8)) 8 u w3 M2
  rw [UA8.out, CA8.out, W2.out, AC.out] at key
  (with_reducible refine key.mono ?_)
  clear key
  rintro e w4 ⟨rfl, hu, M3⟩
  replace HB := Upd.below HB hu HB.size hg2
  clear M2 hu
  go_wp2_with fail
  go_loopw [10] (fun i wr => ∃ j : Nat, j ≤ 8 ∧ j % 8 = 0 ∧ i = .int .i64 (j : Int) ∧ IsMem wr p g 66 (two8 a v u) ∧ Below w.heap.size w wr) (fun i _ => 8 - (intOf i).toNat)
  case atStart => exact ⟨0, by omega, by omega, rfl, M3, HB⟩
  case round =>
    clear M3 HB
    obtain ⟨j, hj, hjm, rfl, M, HB⟩ := hrel
    by_cases hjs : j < 8
    · have hc := FR.out j hjm hjs
      have hv := R1.out j hjm hjs
      have HK := Lib.hid (U_of (a + j) (by have := AB.out; omega))
      have d4 : IntKind.u64.wrap ((a : Int) + (j : Int)) = (a : Int) + (j : Int) := IntWalk.u64_in _ ⟨by omega, by have := AB.out; omega⟩
      have L1 : loOf (8 * (j : Int)) = 8 * j := by rw [loOf_in (by omega) (by omega)]; omega
      have L2 : nOf (8 * (j : Int)) 64 = 64 := by unfold nOf; rw [L1]; unfold held; (repeat' split) <;> omega
      have HM := Lib.hid hjm
      clear hjm
      go_wp2_with fail
      have key := read_all (BitVec.ofNat 64 (a + j)) 8 wr M
      rw [HK.out, hv, hc, show ((a + j : Nat) : Int) = (a : Int) + (j : Int) by omega] at key
      clear hv hc
      (with_reducible refine key.mono ?_)
      clear key
      rintro e w5 ⟨rfl, hb⟩
      have M4 := M.below hb
      replace HB := HBstep HB hb
      clear M hb
      go_wp2_with fail
      (with_reducible refine ((rbits_b _ _ _).run _).mono ?_)
      rintro e w6 ⟨rfl, hb⟩
      have M5 := M4.below hb
      replace HB := HBstep HB hb
      clear M4 hb
      go_wp2
      go_roundw
      case rel => exact ⟨j + 8, by have := HM.out; omega, by have := HM.out; omega, by go_num, M5, HB⟩
      case measure => simp [intOf]; omega
    · go_wp2_with fail
      have key := read_all (BitVec.ofNat 64 (a + 8)) 8 wr M
      rw [UA8.out, R2.out, CA8.out, AC.out] at key
      (with_reducible refine key.mono ?_)
      clear key
      rintro e w5 ⟨rfl, hb⟩
      have M4 := M.below hb
      replace HB := HBstep HB hb
      clear M hb
      go_wp2_with fail
      have key := copy_any w5 M4
      (with_reducible refine key.mono ?_)
      clear key
      rintro e w6 ⟨p2, g2, rfl, hp2, hg2', N1, hb⟩
      have hne1 : p ≠ g2 := by have := M4.p_lt; omega
      have hne2 : g ≠ g2 := by have := M4.g_lt; omega
      have hg3 : w.heap.size ≤ g2 := Nat.le_trans HB.size hg2'
      have M5 := M4.below hb
      replace HB := HBstep HB hb
      clear M4 hb hp2 hg2'
      go_wp2_with fail
      have key := write_all (BitVec.ofNat 64 a) 8 0#64 w6 N1
      rw [UA.out, CK.out, W3.out, show U 0#64 = .int .u64 0 from rfl] at key
      (with_reducible refine key.mono ?_)
      clear key
      rintro e w7 ⟨rfl, hu, N2⟩
      have M6 := M5.upd hu hne1 hne2
      replace HB := Upd.below HB hu HB.size hg3
      clear M5 N1 hu hne1 hne2
      go_wp2_with fail
      have key := read_all (BitVec.ofNat 64 a) 8 w7 M6
      rw [UA.out, R3.out, CA.out] at key
      (with_reducible refine key.mono ?_)
      clear key
      rintro e w8 ⟨rfl, hb⟩
      have M7 := M6.below hb
      have N3 := N2.below hb
      replace HB := HBstep HB hb
      clear M6 N2 hb
      go_wp2_with fail
      have key := same_any w8 N3 M7
      rw [S1.out] at key
      (with_reducible refine key.mono ?_)
      clear key
      rintro e w9 ⟨rfl, nn, hw9⟩
      replace HB := HBstep HB (show Below w8.heap.size w8 w9 by rw [hw9]; exact Below.of_drew nn)
      clear hw9 M7 N3
      go_wp2_with fail
      (with_reducible refine ((rzext_b _ _).on HB).mono ?_)
      clear HB
      rintro e w10 ⟨rfl, HB⟩
      go_wp2
      go_ret
      have Z : (((zextB v 64).toNat : Int) == 0) = (zextB v 64 == 0#64) := u_beq _ 0#64
      exact ⟨ret_b (a := (zextB v 64 == 0#64) == (((zextB v 64).toNat : Int) == 0)) (by rw [Z]; simp), HB⟩
theorem walkMemBack (a0 a1 a2 : Int) (w0 : (Lit.int .u16 a0).wf = true) (w1 : (Lit.int .u64 a1).wf = true) (w2 : (Lit.int .u8 a2).wf = true) (w : World) :
    Calls Try.prog 12 #[.int .u16 a0, .int .u64 a1, .int .u8 a2] w fun e w' => e = .returned (.bool true) ∧ Below w.heap.size w w' := by
  obtain ⟨x, rfl, hx⟩ := u16_open w0
  obtain ⟨v, rfl⟩ := u64_open w1
  obtain ⟨n, rfl, hn⟩ := u8_open w2
  have ex : bits .andNot .u64 ((x : Int) % 32752) 7 = ((x % 32752 / 8 * 8 : Nat) : Int) := by
    have e := and_not7 (x % 32752) (by omega)
    rw [← e]; congr 1
  have h4 : (n : Int) % 4 = 0 ∨ (n : Int) % 4 = 1 ∨ (n : Int) % 4 = 2 ∨ (n : Int) % 4 = 3 := by omega
  rcases h4 with h | h | h | h
  · exact back1 x _ n v w ex (by omega) (by omega) h hn hx
  · exact back2 x _ n v w ex (by omega) (by omega) h hn hx
  · exact back4 x _ n v w ex (by omega) (by omega) h hn hx
  · exact back8 x _ n v w ex (by omega) (by omega) h hn hx
end Go.Proofs.Ytekehogcbngjoaa
