/- walk.Lay of whatever memory; no condition but the arguments' own. -/
import Derived.Test.YtkjbhjmjfacjcaaWalked
namespace Go.Proofs.Ytkjbhjmjfacjcaa
open Go.RowKit Go.BigFrame
set_option linter.unusedSimpArgs false
set_option linter.unusedVariables false
set_option maxRecDepth 100000

def putW (f : Nat → UInt8) (a : Nat) (v : BitVec 64) : Nat → UInt8 := putF f a (bytesL v 8)
theorem wr_put (f : Nat → UInt8) (a : Nat) (v : BitVec 64) (ha : a < 32768) (hd : a % 8 = 0) : wrF f (BitVec.ofNat 64 a) 8 v = putW f a v := by
  unfold wrF putW; rw [if_pos (code_in a 8 (by omega) (by omega) ha), ofNat_toNat a (by omega)]; rfl
theorem make_mk : ∀ x : Fin 256, makeB (BitVec.ofNat 64 x.1) 1#64 = mkB x.1 1 := by decide +kernel
def layV (f : Nat → UInt8) (root low page : Nat) (e : BitVec 64) : Nat → UInt8 := putW (putW f (low * 256 + page % 16 * 8) e) (root * 256 + page / 16 * 8) (mkB low 1)
set_option maxHeartbeats 1000000 in
theorem plays_in {p g : Nat} {f : Nat → UInt8} (root low k : Nat) (page : Int) (v : BitVec 64) (w : World) (hM : IsMem w p g 88 f) (h1 : root < 128) (h2 : low < 128) (hk : k < 256)
    (hp : (if 255 < (if page < 0 then 0 else page) then 255 else (if page < 0 then 0 else page)) = (k : Int)) :
    Calls Try.prog 22 #[.pointer (some ⟨p, 0, none⟩), .int .i64 (root : Int), .int .i64 (low : Int), .int .i64 page, U v] w fun e w' => e = .returned (.int .i64 0) ∧ Upd w w' g ∧ IsMem w' p g 88 (layV f root low k v) := by
  have a1 : (low * 256 + k % 16 * 8) < 32768 := by omega
  have a2 : (root * 256 + k / 16 * 8) < 32768 := by omega
  have mx := fun W => max_run (P := Try.prog) #[3, 3] 3 .i64 page 0 _ rfl W
  have mn := fun W => min_run (P := Try.prog) #[3, 3] 3 .i64 (if page < 0 then 0 else page) 255 _ hp W
  generalize (if page < 0 then 0 else page) = y at *
  clear hp
  have x1 : IntKind.u64.wrap ((low : Int) * 256 + (k : Int) % 16 * 8) = (low : Int) * 256 + (k : Int) % 16 * 8 := IntWalk.u64_in _ ⟨by omega, by omega⟩
  have x2 : IntKind.u64.wrap ((root : Int) * 256 + (k : Int) / 16 * 8) = (root : Int) * 256 + (k : Int) / 16 * 8 := IntWalk.u64_in _ ⟨by omega, by omega⟩
  have K1 := Lib.hid (fun W M => write_all (p := p) (g := g) (f := f) (BitVec.ofNat 64 (low * 256 + k % 16 * 8)) 8 v W M)
  have pm := pmake_b (low : Int) 1 (BitVec.ofNat 64 low) 1#64 (by rw [ofNat_toNat low (by omega)]; exact IntWalk.u64_in _ ⟨by omega, by omega⟩) rfl
  rw [make_mk ⟨low, by omega⟩] at pm
  have PM := Lib.hid pm
  have UA := Lib.hid (U_of (low * 256 + k % 16 * 8) (by omega))
  have UB := Lib.hid (U_of (root * 256 + k / 16 * 8) (by omega))
  have CA := Lib.hid (code_in (low * 256 + k % 16 * 8) 8 (by omega) (by omega) (by omega))
  have CB := Lib.hid (code_in (root * 256 + k / 16 * 8) 8 (by omega) (by omega) (by omega))
  have WA := Lib.hid (wr_put f (low * 256 + k % 16 * 8) v a1 (by omega))
  have WB := Lib.hid (wr_put (putW f (low * 256 + k % 16 * 8) v) (root * 256 + k / 16 * 8) (mkB low 1) a2 (by omega))
  have EA := Lib.hid (show ((low * 256 + k % 16 * 8 : Nat) : Int) = (low : Int) * 256 + (k : Int) % 16 * 8 by omega)
  have EB := Lib.hid (show ((root * 256 + k / 16 * 8 : Nat) : Int) = (root : Int) * 256 + (k : Int) / 16 * 8 by omega)
  have HMM := Lib.hid hM
  clear a1 a2 pm hM
  have HB := Below.refl w.heap.size w
  go_enter Try.func22, Try.ntmps22
  go_wp2_with fail
  have key := K1.out w HMM.out
  rw [UA.out, CA.out, WA.out, EA.out] at key
  (with_reducible refine key.mono ?_)
  clear key
  rintro e w1 ⟨rfl, hu, M1⟩
  go_wp2_with fail
  (with_reducible refine (PM.out.run w1).mono ?_)
  rintro e w2 ⟨rfl, hb⟩
  have M2 := M1.below hb
  have hu2 := hu.trans (Upd.of_below hb g)
  clear M1 hu hb
  go_wp2_with fail
  have key := write_all (BitVec.ofNat 64 (root * 256 + k / 16 * 8)) 8 (mkB low 1) w2 M2
  rw [UB.out, CB.out, WB.out, EB.out] at key
  (with_reducible refine key.mono ?_)
  clear key
  rintro e w3 ⟨rfl, hu, M3⟩
  go_wp2
  go_ret
  exact ⟨rfl, hu2.trans hu, M3⟩
set_option maxHeartbeats 1000000 in
theorem plays_no (m : Value) (root low page : Int) (v : Value) (w : World) (h : root < 0 ∨ 128 ≤ root ∨ low < 0 ∨ 128 ≤ low) (a : Option Addr) (hm : m = .pointer a) :
    Calls Try.prog 22 #[m, .int .i64 root, .int .i64 low, .int .i64 page, v] w fun e w' => e = .returned (.int .i64 60) ∧ w = w' := by
  subst hm
  have h4 : (decide (root < 0) || decide (128 ≤ root) || decide (low < 0) || decide (128 ≤ low)) = true := by simp; omega
  generalize h1 : decide (root < 0) = b1 at *
  generalize h2 : decide (128 ≤ root) = b2 at *
  generalize h3 : decide (low < 0) = b3 at *
  generalize h5 : decide (128 ≤ low) = b5 at *
  clear h
  go_enter Try.func22, Try.ntmps22
  cases a <;> cases b1 <;> cases b2 <;> cases b3 <;> cases b5 <;> first | (exact absurd h4 (by decide)) | (go_wp2; go_ret; exact ⟨rfl, rfl⟩)
theorem put_same (f : Nat → UInt8) (a : Nat) (v : BitVec 64) : readF (putW f a v) a 8 = v := by
  apply BitVec.eq_of_getLsbD_eq; intro j hj
  have hr := readF_bit (putW f a v) a 8 j hj
  rw [show ((8 : Nat) : Int) = 8 from rfl] at hr
  rw [hr]
  unfold putW
  rw [putF_in f v a 8 (j / 8) (by omega) (by omega), byteU_bit, show 8 * (j / 8) + j % 8 = j by omega, decide_eq_true (show j / 8 < 8 by omega), decide_eq_true (show j % 8 < 8 by omega)]
  cases v.getLsbD j <;> rfl
theorem put_other (f : Nat → UInt8) (a b : Nat) (v : BitVec 64) (h : b + 8 ≤ a ∨ a + 8 ≤ b) : readF (putW f a v) b 8 = readF f b 8 := by
  apply BitVec.eq_of_getLsbD_eq; intro j hj
  have hr := readF_bit (putW f a v) b 8 j hj
  have hr2 := readF_bit f b 8 j hj
  rw [show ((8 : Nat) : Int) = 8 from rfl] at hr hr2
  rw [hr, hr2]
  by_cases c : j / 8 < 8
  · unfold putW
    rw [putF_out f v a 8 (b + j / 8) (by omega) (by omega)]
  · omega
end Go.Proofs.Ytkjbhjmjfacjcaa
