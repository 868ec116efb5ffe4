/- The document's tables: Is, Leaf, Frame, Entry; no condition but the arguments' own. -/
import Derived.Test.YtkjbhjmjfacjcaaWalked
namespace Go.Proofs.Ytkjbhjmjfacjcaa
open Go.RowKit Go.BigFrame
set_option linter.unusedSimpArgs false
set_option linter.unusedVariables false
set_option maxRecDepth 100000

theorem one_test (e : BitVec 64) : (bits .and .u64 (e.toNat : Int) 1 == 1) = (e &&& 1#64 != 0#64) := by
  have h1 := u_and e 1#64
  rw [show ((1#64).toNat : Int) = 1 from rfl] at h1
  rw [h1]
  have h2 : (e &&& 1#64) = 0#64 ∨ (e &&& 1#64) = 1#64 := by
    by_cases c : e.getLsbD 0
    · right; apply BitVec.eq_of_getLsbD_eq; intro i hi; by_cases i0 : i = 0
      · subst i0; simp [c]
      · simp [i0]
    · left; apply BitVec.eq_of_getLsbD_eq; intro i hi; by_cases i0 : i = 0
      · subst i0; rw [BitVec.getLsbD_and]; simp only [Bool.not_eq_true] at c; rw [c]; rfl
      · simp [i0]
  rcases h2 with h2 | h2 <;> rw [h2] <;> rfl
theorem ris_s (e : BitVec 64) (w : World) : Calls Try.prog 49 #[U e] w fun r w' => r = .returned (.bool (isB e)) ∧ w = w' := by
  have t1 := one_test e
  have t4 := u_test e 4 4 rfl (by decide)
  have t2 := u_test e 2 2 rfl (by decide)
  have t32 := u_test e 32 32 rfl (by decide)
  have ts : ((e.toNat : Int) / 65536 == 0) = (e >>> 16 == 0#64) := by have := u_shr e 16; rw [show (65536 : Int) = 2 ^ 16 from rfl, this]; exact u_beq _ 0#64
  have tn : isB e = ((e &&& 1#64 != 0#64) && ((e &&& 4#64 == 0#64) || !(e &&& 2#64 == 0#64)) && (e &&& 32#64 == 0#64) && (e >>> 16 == 0#64)) := rfl
  rw [tn]
  clear tn
  generalize (e &&& 1#64 != 0#64) = b1 at *
  generalize (e &&& 4#64 == 0#64) = b4 at *
  generalize (e &&& 2#64 == 0#64) = b2 at *
  generalize (e &&& 32#64 == 0#64) = b32 at *
  generalize (e >>> 16 == 0#64) = bs at *
  have n2 : (bits .and .u64 (e.toNat : Int) 2 != 0) = !b2 := congrArg Bool.not t2
  go_enter Try.func49, Try.ntmps49
  cases b1 <;> cases b4 <;> cases b2 <;> cases b32 <;> cases bs <;> (go_wp2; go_ret; exact ⟨rfl, rfl⟩)
theorem rleaf_s (e : BitVec 64) (w : World) : Calls Try.prog 50 #[U e] w fun r w' => r = .returned (.bool (leafB e)) ∧ w = w' := by
  have t10 := u_test e 10 10 rfl (by decide)
  have tn : leafB e = (isB e && !(e &&& 10#64 == 0#64)) := rfl
  rw [tn]
  clear tn
  have hp := ris_s e w
  generalize isB e = i at *
  generalize (e &&& 10#64 == 0#64) = b at *
  have n1 : (bits .and .u64 (e.toNat : Int) 10 != 0) = !b := congrArg Bool.not t10
  go_enter Try.func50, Try.ntmps50
  cases i <;> cases b <;> (go_wp2_with (go_at_call 49; (with_reducible refine hp.mono ?_); rintro e w' ⟨rfl, rfl⟩); go_ret; exact ⟨rfl, rfl⟩)
theorem part_of (e : BitVec 64) (lo n : Nat) (hn : n ≤ 63) (h : lo ≤ 63) : bits .and .u64 ((e.toNat : Int) / 2 ^ lo) (2 ^ n - 1 : Nat) = ((bitsB e lo n).toNat : Int) := by
  rw [u_shr e lo]
  have h1 := u_and (e >>> lo) (BitVec.ofNat 64 (2 ^ n - 1))
  have h3 : 2 ^ n ≤ 2 ^ 63 := Nat.pow_le_pow_right (by omega) hn
  rw [ofNat_toNat _ (by omega)] at h1
  rw [h1]
  congr 2
  apply BitVec.eq_of_getLsbD_eq
  intro i hi
  rw [bits_bit, BitVec.getLsbD_and, BitVec.getLsbD_ushiftRight, BitVec.getLsbD_ofNat, Nat.testBit_two_pow_sub_one]
theorem rframe_s (e : BitVec 64) (w : World) : Calls Try.prog 51 #[U e] w fun r w' => r = .returned (.int .i64 (frameB e : Int)) ∧ w = w' := by
  have h1 : bits .and .u64 ((e.toNat : Int) / 256) 255 = ((bitsB e 8 8).toNat : Int) := part_of e 8 8 (by omega) (by omega)
  have hw := i64_of_u64 (bitsB e 8 8) (by have := bits_lt e 8 8 (by omega); omega)
  have hf : (frameB e : Int) = ((bitsB e 8 8).toNat : Int) := rfl
  rw [hf]
  go_enter Try.func51, Try.ntmps51
  go_wp2
  go_ret
  exact ⟨rfl, rfl⟩
theorem rentry_yes {p g : Nat} {f : Nat → UInt8} (x k : Nat) (w : World) (hM : IsMem w p g 85 f) (hx : x < 128) (hk : k < 16) :
    Calls Try.prog 19 #[.pointer (some ⟨p, 0, none⟩), .int .i64 (x : Int), .int .i64 (k : Int)] w fun e w' => e = .returned (.tuple #[U (readF f (x * 256 + k * 8) 8), .bool true]) ∧ w = w' := by
  have key := rread_any (BitVec.ofNat 64 (x * 256 + k * 8)) 8 w hM (code_in _ 8 (by omega) (by omega) (by omega))
  rw [U_of _ (by omega), ofNat_toNat _ (by omega), show ((x * 256 + k * 8 : Nat) : Int) = (x : Int) * 256 + 8 * (k : Int) by omega, show ((8 : Nat) : Int) = 8 from rfl] at key
  have e3 : IntKind.u64.wrap ((x : Int) * 256 + 8 * (k : Int)) = (x : Int) * 256 + 8 * (k : Int) := IntWalk.u64_in _ ⟨by omega, by omega⟩
  obtain ⟨r, hp, hg⟩ := hM
  have c0 : w.cell? ⟨p, 0, none⟩ = some (.slice (some ⟨g, 0, none⟩) 32768 (32768 + r.length)) := by simp [World.cell?, hp]
  have d1 : decide ((x : Int) < 0) = false := decide_eq_false (by omega)
  have d2 : decide (((x : Int) ≥ 128)) = false := decide_eq_false (by omega)
  have d3 : decide ((k : Int) < 0) = false := decide_eq_false (by omega)
  have d4 : decide ((k : Int) > 15) = false := decide_eq_false (by omega)
  generalize readF f (x * 256 + k * 8) 8 = v at *
  clear hp hg
  go_enter Try.func19, Try.ntmps19
  go_wp2_with (go_at_call 52; (with_reducible refine key.mono ?_); rintro e w' ⟨rfl, rfl⟩)
  go_ret2
  exact ⟨rfl, rfl⟩
theorem rentry_no {p g : Nat} {f : Nat → UInt8} (x k : Int) (w : World) (hM : IsMem w p g 85 f) (h : x < 0 ∨ 128 ≤ x ∨ k < 0 ∨ 16 ≤ k) :
    Calls Try.prog 19 #[.pointer (some ⟨p, 0, none⟩), .int .i64 x, .int .i64 k] w fun e w' => e = .returned (.tuple #[.int .u64 0, .bool false]) ∧ w = w' := by
  obtain ⟨r, hp, hg⟩ := hM
  have c0 : w.cell? ⟨p, 0, none⟩ = some (.slice (some ⟨g, 0, none⟩) 32768 (32768 + r.length)) := by simp [World.cell?, hp]
  have h4 : (decide (x < 0) || decide (x ≥ 128) || decide (k < 0) || decide (k > 15)) = true := by simp; omega
  generalize h1 : decide (x < 0) = b1 at *
  generalize h2 : decide (x ≥ 128) = b2 at *
  generalize h3 : decide (k < 0) = b3 at *
  generalize h5 : decide (k > 15) = b5 at *
  clear h hp hg
  go_enter Try.func19, Try.ntmps19
  cases b1 <;> cases b2 <;> cases b3 <;> cases b5 <;> first | (exact absurd h4 (by decide)) | (go_wp2; go_ret2; exact ⟨rfl, rfl⟩)
end Go.Proofs.Ytkjbhjmjfacjcaa
