/- The walks of WalkPointers and WalkGreat. -/
import Derived.Test.YtkjbhjmjfacjcaaKnown11
import Derived.Test.YtkjbhjmjfacjcaaPlain11
namespace Go.Proofs.Ytkjbhjmjfacjcaa
open Go.RowKit Go.BigFrame
set_option linter.unusedSimpArgs false
set_option linter.unusedVariables false
set_option maxRecDepth 100000

set_option maxHeartbeats 2000000 in
theorem pointers1 (x y q t l z : Nat) (w : World) (ht0 : (y : Int) % 16 = (t : Int)) (hl0 : (q : Int) % 16 = (l : Int)) (hx : x < 256) (ht : t < 16) (hl : l < 16) (hz : z < 256) (hz2 : 128 ≤ z)
    (oz : bits .or .i64 (x : Int) 128 = (z : Int)) (oa : bits .or .u64 ((t : Int) * 4096) ((l : Int) * 256) = ((t * 4096 + l * 256 : Nat) : Int)) :
    Calls Try.prog 7 #[.int .u8 (x : Int), .int .u8 (y : Int), .int .u8 (q : Int)] w fun e w' => e = .returned (.bool true) ∧ Below w.heap.size w w' := by
  have g1 : IntKind.u64.wrap ((t : Int) * 4096) = (t : Int) * 4096 := IntWalk.u64_in _ ⟨by omega, by omega⟩
  have g2 : IntKind.u64.wrap ((l : Int) * 256) = (l : Int) * 256 := IntWalk.u64_in _ ⟨by omega, by omega⟩
  have g3 : IntKind.u64.wrap (8 * (t : Int)) = 8 * (t : Int) := IntWalk.u64_in _ ⟨by omega, by omega⟩
  have g4 : IntKind.u64.wrap (8 * (l : Int)) = 8 * (l : Int) := IntWalk.u64_in _ ⟨by omega, by omega⟩
  have g5 : IntKind.u64.wrap (256 + 8 * (t : Int)) = 256 + 8 * (t : Int) := IntWalk.u64_in _ ⟨by omega, by omega⟩
  have g6 : IntKind.u64.wrap (512 + 8 * (l : Int)) = 512 + 8 * (l : Int) := IntWalk.u64_in _ ⟨by omega, by omega⟩
  have UA := Lib.hid (U_of (256 + 8 * t) (by omega))
  have CA := Lib.hid (code_in (256 + 8 * t) 8 (by omega) (by omega) (by omega))
  have EA := Lib.hid (show ((256 + 8 * t : Nat) : Int) = 256 + 8 * (t : Int) by omega)
  have UB := Lib.hid (U_of (512 + 8 * l) (by omega))
  have CB := Lib.hid (code_in (512 + 8 * l) 8 (by omega) (by omega) (by omega))
  have EB := Lib.hid (show ((512 + 8 * l : Nat) : Int) = 512 + 8 * (l : Int) by omega)
  have UT := Lib.hid (U_of (t * 4096 + l * 256) (by omega))
  have ET := Lib.hid (show ((t * 4096 + l * 256 : Nat) : Int) = (t : Int) * 4096 + (l : Int) * 256 by omega)
  obtain ⟨f1, hf1⟩ : ∃ f1, f1 = putW (fun _ => 0) (256 + 8 * t) (mkB z 1) := ⟨_, rfl⟩
  obtain ⟨f2, hf2⟩ : ∃ f2, f2 = putW f1 (256 + 8 * t) (mkB 2 1) := ⟨_, rfl⟩
  obtain ⟨f3, hf3⟩ : ∃ f3, f3 = putW f2 (512 + 8 * l) (mkB x 1) := ⟨_, rfl⟩
  obtain ⟨f4, hf4⟩ : ∃ f4, f4 = putW f3 (512 + 8 * l) (mkB x 3) := ⟨_, rfl⟩
  have W1 := Lib.hid ((wr_put (fun _ => 0) (256 + 8 * t) (mkB z 1) (by omega) (by omega)).trans hf1.symm)
  have W2 := Lib.hid ((wr_put f1 (256 + 8 * t) (mkB 2 1) (by omega) (by omega)).trans hf2.symm)
  have W3 := Lib.hid ((wr_put f2 (512 + 8 * l) (mkB x 1) (by omega) (by omega)).trans hf3.symm)
  have W4 := Lib.hid ((wr_put f3 (512 + 8 * l) (mkB x 3) (by omega) (by omega)).trans hf4.symm)
  have V1 := Lib.hid (show walkV f1 1 (BitVec.ofNat 64 (t * 4096 + l * 256)) = (0#64, 2) by rw [hf1]; exact ptr_out t l z ht hl hz hz2 _)
  have V2 := Lib.hid (show walkV f3 1 (BitVec.ofNat 64 (t * 4096 + l * 256)) = (0#64, 1) by
    rw [hf3, hf2, ptr_two t l _ ht hl, if_neg (by rw [(mk_ptr ⟨x, hx⟩).2.1]; decide)])
  have V3 := Lib.hid (show walkV f4 1 (BitVec.ofNat 64 (t * 4096 + l * 256)) = (mkB x 3, 0) by
    rw [hf4, hf3, hf2, ptr_two2 t l _ _ ht hl, if_pos (mk_ptr ⟨x, hx⟩).2.2.2])
  have R1 := Lib.hid (show Gives Try.prog 21 #[.int .i64 (z : Int), .int .i64 1] (U (mkB z 1)) from rmake_b z 1 (by omega) (by omega))
  have R2 := Lib.hid (show Gives Try.prog 21 #[.int .i64 2, .int .i64 1] (U (mkB 2 1)) from rmake_b 2 1 (by omega) (by omega))
  have R3 := Lib.hid (show Gives Try.prog 21 #[.int .i64 (x : Int), .int .i64 1] (U (mkB x 1)) from rmake_b x 1 (by omega) (by omega))
  have R4 := Lib.hid (show Gives Try.prog 21 #[.int .i64 (x : Int), .int .i64 3] (U (mkB x 3)) from rmake_b x 3 (by omega) (by omega))
  clear hf1 hf2 hf3 hf4
  have HB := Below.refl w.heap.size w
  go_enter Try.func7, Try.ntmps7
  go_wp2_with fail
  (with_reducible refine (known11_b.on HB).mono ?_)
  rintro e w1 ⟨rfl, HB1⟩
  replace HB := HB1
  clear HB1
  go_wp2_with fail
  refine (new_all _).mono ?_
  rintro e w2 ⟨p, g, rfl, hp, hg, hpl, hgl, M, hb⟩
  have hg2 : w.heap.size ≤ g := Nat.le_trans HB.size hg
  replace HB := HBstep HB hb
  clear hb hg hp hpl hgl
  go_wp2_with fail
  (with_reducible refine (R1.out.run _).mono ?_)
  rintro e w3 ⟨rfl, hb⟩
  replace HB := HBstep HB hb
  replace M := M.below hb
  clear hb
  go_wp2_with fail
  have key := write_all (BitVec.ofNat 64 (256 + 8 * t)) 8 (mkB z 1) w3 M
  rw [UA.out, CA.out, W1.out, EA.out] at key
  (with_reducible refine key.mono ?_)
  clear key M
  rintro e w4 ⟨rfl, hu, M⟩
  replace HB := Upd.below HB hu HB.size hg2
  clear hu
  go_wp2_with fail
  have key := walk_all 1 (BitVec.ofNat 64 (t * 4096 + l * 256)) w4 M
  rw [UT.out, ET.out, V1.out] at key
  (with_reducible refine key.mono ?_)
  clear key
  rintro e w5 ⟨rfl, hb⟩
  replace HB := HBstep HB hb
  replace M := M.below hb
  clear hb
  go_wp2_with fail
  (with_reducible refine (R2.out.run _).mono ?_)
  rintro e w6 ⟨rfl, hb⟩
  replace HB := HBstep HB hb
  replace M := M.below hb
  clear hb
  go_wp2_with fail
  have key := write_all (BitVec.ofNat 64 (256 + 8 * t)) 8 (mkB 2 1) w6 M
  rw [UA.out, CA.out, W2.out, EA.out] at key
  (with_reducible refine key.mono ?_)
  clear key M
  rintro e w7 ⟨rfl, hu, M⟩
  replace HB := Upd.below HB hu HB.size hg2
  clear hu
  go_wp2_with fail
  (with_reducible refine (R3.out.run _).mono ?_)
  rintro e w8 ⟨rfl, hb⟩
  replace HB := HBstep HB hb
  replace M := M.below hb
  clear hb
  go_wp2_with fail
  have key := write_all (BitVec.ofNat 64 (512 + 8 * l)) 8 (mkB x 1) w8 M
  rw [UB.out, CB.out, W3.out, EB.out] at key
  (with_reducible refine key.mono ?_)
  clear key M
  rintro e w9 ⟨rfl, hu, M⟩
  replace HB := Upd.below HB hu HB.size hg2
  clear hu
  go_wp2_with fail
  have key := walk_all 1 (BitVec.ofNat 64 (t * 4096 + l * 256)) w9 M
  rw [UT.out, ET.out, V2.out] at key
  (with_reducible refine key.mono ?_)
  clear key
  rintro e w10 ⟨rfl, hb⟩
  replace HB := HBstep HB hb
  replace M := M.below hb
  clear hb
  go_wp2_with fail
  (with_reducible refine (R4.out.run _).mono ?_)
  rintro e w11 ⟨rfl, hb⟩
  replace HB := HBstep HB hb
  replace M := M.below hb
  clear hb
  go_wp2_with fail
  have key := write_all (BitVec.ofNat 64 (512 + 8 * l)) 8 (mkB x 3) w11 M
  rw [UB.out, CB.out, W4.out, EB.out] at key
  (with_reducible refine key.mono ?_)
  clear key M
  rintro e w12 ⟨rfl, hu, M⟩
  replace HB := Upd.below HB hu HB.size hg2
  clear hu
  go_wp2_with fail
  have key := walk_all 1 (BitVec.ofNat 64 (t * 4096 + l * 256)) w12 M
  rw [UT.out, ET.out, V3.out] at key
  (with_reducible refine key.mono ?_)
  clear key
  rintro e w13 ⟨rfl, hb⟩
  replace HB := HBstep HB hb
  replace M := M.below hb
  clear hb
  go_wp2_with fail
  (with_reducible refine (R4.out.run _).mono ?_)
  rintro e w14 ⟨rfl, hb⟩
  replace HB := HBstep HB hb
  replace M := M.below hb
  clear hb
  go_wp2
  go_ret
  exact ⟨rfl, HB⟩
theorem or_places (t l : Nat) (ht : t < 16) (hl : l < 16) : bits .or .u64 ((t : Int) * 4096) ((l : Int) * 256) = ((t * 4096 + l * 256 : Nat) : Int) := by
  have h1 := u_or (BitVec.ofNat 64 (t * 4096)) (BitVec.ofNat 64 (l * 256))
  rw [BitVec.toNat_or, ofNat_toNat _ (by omega), ofNat_toNat _ (by omega)] at h1
  have := Nat.shiftLeft_add_eq_or_of_lt (show l * 256 < 2 ^ 12 by omega) t
  rw [Nat.shiftLeft_eq] at this
  rw [show ((t * 4096 : Nat) : Int) = (t : Int) * 4096 by omega, show ((l * 256 : Nat) : Int) = (l : Int) * 256 by omega] at h1
  rw [h1, show (4096 : Nat) = 2 ^ 12 from rfl, this]
theorem or128 : ∀ x : Fin 256, bits .or .i64 (x.1 : Int) 128 = ((x.1 ||| 128 : Nat) : Int) ∧ (x.1 ||| 128) < 256 ∧ 128 ≤ (x.1 ||| 128) := by decide +kernel
theorem walkWalkPointers (a0 a1 a2 : Int) (h0 : (Lit.int .u8 a0).wf = true) (h1 : (Lit.int .u8 a1).wf = true) (h2 : (Lit.int .u8 a2).wf = true) (w : World) :
    Calls Try.prog 7 #[.int .u8 a0, .int .u8 a1, .int .u8 a2] w fun e w' => e = .returned (.bool true) ∧ Below w.heap.size w w' := by
  obtain ⟨x, rfl, hx⟩ := u8_open h0
  obtain ⟨y, rfl, hy⟩ := u8_open h1
  obtain ⟨q, rfl, hq⟩ := u8_open h2
  obtain ⟨o1, o2, o3⟩ := or128 ⟨x, hx⟩
  exact pointers1 x y q (y % 16) (q % 16) (x ||| 128) w (by omega) (by omega) hx (by omega) (by omega) o2 o3 o1 (or_places _ _ (by omega) (by omega))
set_option maxHeartbeats 4000000 in
theorem great1 (x y q j t k : Nat) (w : World) (hx0 : (x : Int) % 8 = (j : Int)) (ht0 : (y : Int) % 16 = (t : Int)) (hk0 : (q : Int) % 15 = (k : Int)) (hj : j < 8) (ht : t < 16) (hk : k < 15) :
    Calls Try.prog 5 #[.int .u8 (x : Int), .int .u8 (y : Int), .int .u8 (q : Int)] w fun e w' => e = .returned (.bool true) ∧ Below w.heap.size w w' := by
  have g5 : IntKind.u64.wrap (256 + 8 * (t : Int)) = 256 + 8 * (t : Int) := IntWalk.u64_in _ ⟨by omega, by omega⟩
  have g6 : IntKind.u64.wrap ((t : Int) * 4096) = (t : Int) * 4096 := IntWalk.u64_in _ ⟨by omega, by omega⟩
  have GI := Lib.hid (show ∀ i : Nat, i < 16 → IntKind.u64.wrap ((t : Int) * 4096 + (i : Int) * 256 + 5) = (t : Int) * 4096 + (i : Int) * 256 + 5 from fun i hi => IntWalk.u64_in _ ⟨by omega, by omega⟩)
  have UA := Lib.hid (U_of (256 + 8 * t) (by omega))
  have CA := Lib.hid (code_in (256 + 8 * t) 8 (by omega) (by omega) (by omega))
  have EA := Lib.hid (show ((256 + 8 * t : Nat) : Int) = 256 + 8 * (t : Int) by omega)
  have UT := Lib.hid (U_of (t * 4096) (by omega))
  have ET := Lib.hid (show ((t * 4096 : Nat) : Int) = (t : Int) * 4096 by omega)
  have UI := Lib.hid (show ∀ i : Nat, i < 16 → U (BitVec.ofNat 64 (t * 4096 + i * 256 + 5)) = .int .u64 ((t : Int) * 4096 + (i : Int) * 256 + 5) from fun i hi => by rw [U_of _ (by omega)]; congr 1)
  obtain ⟨f1, hf1⟩ : ∃ f1, f1 = putW (fun _ => 0) (256 + 8 * t) (mkB (j * 16) 207) := ⟨_, rfl⟩
  obtain ⟨f2, hf2⟩ : ∃ f2, f2 = putW f1 (256 + 8 * t) (mkB (j * 16 + (k + 1)) 207) := ⟨_, rfl⟩
  have W1 := Lib.hid ((wr_put (fun _ => 0) (256 + 8 * t) (mkB (j * 16) 207) (by omega) (by omega)).trans hf1.symm)
  have W2 := Lib.hid ((wr_put f1 (256 + 8 * t) (mkB (j * 16 + (k + 1)) 207) (by omega) (by omega)).trans hf2.symm)
  have V1 := Lib.hid (show ∀ i, i < 16 → walkV f1 1 (BitVec.ofNat 64 (t * 4096 + i * 256 + 5)) = (mkB (j * 16 + i) 207, 0) from fun i hi => by rw [hf1]; exact great_in t i j 5 ht hi hj (by omega) _)
  have V2 := Lib.hid (show walkV f2 1 (BitVec.ofNat 64 (t * 4096)) = (0#64, 1) by rw [hf2]; exact great_awry t j (k + 1) ht (by omega) (by omega) hj _)
  have R1 := Lib.hid (show Gives Try.prog 21 #[.int .i64 ((j : Int) * 16), .int .i64 207] (U (mkB (j * 16) 207)) from rmake_b (j * 16) 207 (by omega) (by omega))
  have RI := Lib.hid (show ∀ i : Nat, i < 16 → Gives Try.prog 21 #[.int .i64 ((j : Int) * 16 + (i : Int)), .int .i64 207] (U (mkB (j * 16 + i) 207)) from fun i hi => rmake_b (j * 16 + i) 207 (by omega) (by omega))
  have R2 := Lib.hid (show Gives Try.prog 21 #[.int .i64 ((j : Int) * 16 + ((k : Int) + 1)), .int .i64 207] (U (mkB (j * 16 + (k + 1)) 207)) from rmake_b (j * 16 + (k + 1)) 207 (by omega) (by omega))
  clear hf1 hf2
  have HB := Below.refl w.heap.size w
  go_enter Try.func5, Try.ntmps5
  go_wp2_with fail
  (with_reducible refine (known11_b.on HB).mono ?_)
  rintro e w1 ⟨rfl, HB1⟩
  replace HB := HB1
  clear HB1
  go_wp2_with fail
  refine (new_all _).mono ?_
  rintro e w2 ⟨p, g, rfl, hp, hg, hpl, hgl, M, hb⟩
  have hg2 : w.heap.size ≤ g := Nat.le_trans HB.size hg
  replace HB := HBstep HB hb
  clear hb hg hp hpl hgl
  go_wp2_with fail
  (with_reducible refine (R1.out.run _).mono ?_)
  rintro e w3 ⟨rfl, hb⟩
  replace HB := HBstep HB hb
  replace M := M.below hb
  clear hb
  go_wp2_with fail
  have key := write_all (BitVec.ofNat 64 (256 + 8 * t)) 8 (mkB (j * 16) 207) w3 M
  rw [UA.out, CA.out, W1.out, EA.out] at key
  (with_reducible refine key.mono ?_)
  clear key M
  rintro e w4 ⟨rfl, hu, M⟩
  replace HB := Upd.below HB hu HB.size hg2
  clear hu
  go_wp2_with fail
  go_loopw [10, 11, 12] (fun i _ _ wr => ∃ m : Nat, m ≤ 16 ∧ i = .int .i64 m ∧ Below w.heap.size w wr ∧ IsMem wr p g 88 f1) (fun i _ _ _ => 16 - (intOf i).toNat)
  case atStart => exact ⟨0, by omega, rfl, HB, M⟩
  case round =>
    clear HB M
    obtain ⟨m, hm, rfl, HB, M⟩ := hrel
    by_cases hm16 : m < 16
    · have g7 := GI.out m hm16
      go_wp2_with fail
      have key := walk_all 1 (BitVec.ofNat 64 (t * 4096 + m * 256 + 5)) _ M
      rw [UI.out m hm16, V1.out m hm16] at key
      (with_reducible refine key.mono ?_)
      clear key
      rintro e w5 ⟨rfl, hb⟩
      replace HB := HBstep HB hb
      replace M := M.below hb
      clear hb
      go_wp2_with fail
      (with_reducible refine ((RI.out m hm16).run _).mono ?_)
      rintro e w6 ⟨rfl, hb⟩
      replace HB := HBstep HB hb
      replace M := M.below hb
      clear hb
      go_wp2
      go_roundw
      case rel => exact ⟨m + 1, by omega, by go_num, HB, M⟩
      case measure => simp [intOf]; omega
    · obtain rfl : m = 16 := by omega
      go_wp2_with fail
      (with_reducible refine (R2.out.run _).mono ?_)
      rintro e w6 ⟨rfl, hb⟩
      replace HB := HBstep HB hb
      replace M := M.below hb
      clear hb
      go_wp2_with fail
      have key := write_all (BitVec.ofNat 64 (256 + 8 * t)) 8 (mkB (j * 16 + (k + 1)) 207) w6 M
      rw [UA.out, CA.out, W2.out, EA.out] at key
      (with_reducible refine key.mono ?_)
      clear key M
      rintro e w7 ⟨rfl, hu, M⟩
      replace HB := Upd.below HB hu HB.size hg2
      clear hu
      go_wp2_with fail
      have key := walk_all 1 (BitVec.ofNat 64 (t * 4096)) w7 M
      rw [UT.out, ET.out, V2.out] at key
      (with_reducible refine key.mono ?_)
      clear key
      rintro e w8 ⟨rfl, hb⟩
      replace HB := HBstep HB hb
      replace M := M.below hb
      clear hb
      go_wp2
      go_ret
      exact ⟨rfl, HB⟩
theorem walkWalkGreat (a0 a1 a2 : Int) (h0 : (Lit.int .u8 a0).wf = true) (h1 : (Lit.int .u8 a1).wf = true) (h2 : (Lit.int .u8 a2).wf = true) (w : World) :
    Calls Try.prog 5 #[.int .u8 a0, .int .u8 a1, .int .u8 a2] w fun e w' => e = .returned (.bool true) ∧ Below w.heap.size w w' := by
  obtain ⟨x, rfl, hx⟩ := u8_open h0
  obtain ⟨y, rfl, hy⟩ := u8_open h1
  obtain ⟨q, rfl, hq⟩ := u8_open h2
  exact great1 x y q (x % 8) (y % 16) (q % 15) w (by omega) (by omega) (by omega) (by omega) (by omega) (by omega)
end Go.Proofs.Ytkjbhjmjfacjcaa
