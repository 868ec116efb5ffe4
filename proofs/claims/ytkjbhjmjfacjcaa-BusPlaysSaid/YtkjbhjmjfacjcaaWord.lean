/- Contracts of package word's functions (but Get and Bytes) and of the references' twins: what each returns, as a bit vector; no condition but that the arguments are of their kinds. -/
import Derived.WalkKit
import Derived.Deep.QuietTactic
import Derived.BigQuiet
import Derived.Outline
import Derived.Handy
import Derived.Test.YtkjbhjmjfacjcaaWords
namespace Go.Proofs.Ytkjbhjmjfacjcaa
open Go.RowKit

theorem ret_u {a : Int} {x : BitVec 64} (h : a = (x.toNat : Int)) : Ending.returned (.int .u64 a) = .returned (U x) := by rw [h]
theorem ret_ii {a b c d : Int} (h : a = c) (h2 : b = d) : Ending.returned (.tuple #[.int .i64 a, .int .i64 b]) = .returned (.tuple #[.int .i64 c, .int .i64 d]) := by rw [h, h2]
theorem ret_b {a b : Bool} (h : a = b) : Ending.returned (.bool a) = .returned (.bool b) := by rw [h]

theorem quiet_left {P : Program} {f : FuncId} {args : Array Value} {w : World} {n : Nat} {v : Value}
    (h : Calls P f args (w.drewN n) fun e w' => e = .returned v ∧ w.drewN n = w') : Calls P f args (w.drewN n) fun e w'' => e = .returned v ∧ ∃ m, w'' = w.drewN m :=
  h.mono fun _ _ ⟨he, hm⟩ => ⟨he, n, hm.symm⟩
theorem mask_any (n : Int) (h0 : 0 ≤ n) (w : World) :
    Calls Try.prog 74 #[.int .i64 n] w fun e w' => e = .returned (U (maskB n.toNat)) ∧ w = w' := by
  by_cases h : 64 ≤ n
  · go_enter Try.func74, Try.ntmps74
    go_wp2
    go_ret
    exact ⟨ret_u (by rw [mask_full _ (by omega)]; rfl), rfl⟩
  · go_enter Try.func74, Try.ntmps74
    go_wp2
    go_ret
    refine ⟨ret_u ?_, rfl⟩
    rw [← mask_shl _ (by omega), ← u_sub, BitVec.toNat_shiftLeft, Nat.shiftLeft_eq, IntKind.wrap_u64]
    have e : ((1#64).toNat * 2 ^ n.toNat : Nat) = 2 ^ n.toNat := by simp
    have e2 : IntKind.u64.wrap (2 ^ n.toNat) = ((2 ^ n.toNat % 2 ^ 64 : Nat) : Int) := by
      have e3 : (2 : Int) ^ n.toNat = ((2 ^ n.toNat : Nat) : Int) := by rw [Int.natCast_pow]; rfl
      rw [IntKind.wrap_u64, e3]; omega
    rw [e, e2]; rfl
theorem part_any (lo n : Int) (w : World) :
    Calls Try.prog 73 #[.int .i64 lo, .int .i64 n] w fun e w' => e = .returned (.tuple #[.int .i64 (loOf lo), .int .i64 (nOf lo n)]) ∧ w = w' := by
  by_cases h1 : lo < 0
  · by_cases h2 : n < 0
    · go_enter Try.func73, Try.ntmps73
      go_wp2
      all_goals (go_ret2; exact ⟨ret_ii (by simp only [loOf, held]; split <;> (try split) <;> omega) (by simp only [nOf, loOf, held]; (repeat' split) <;> omega), rfl⟩)
    · go_enter Try.func73, Try.ntmps73
      go_wp2
      all_goals (go_ret2; exact ⟨ret_ii (by simp only [loOf, held]; split <;> (try split) <;> omega) (by simp only [nOf, loOf, held]; (repeat' split) <;> omega), rfl⟩)
  · by_cases h2 : n < 0
    · go_enter Try.func73, Try.ntmps73
      go_wp2
      all_goals (go_ret2; exact ⟨ret_ii (by simp only [loOf, held]; split <;> (try split) <;> omega) (by simp only [nOf, loOf, held]; (repeat' split) <;> omega), rfl⟩)
    · go_enter Try.func73, Try.ntmps73
      go_wp2
      all_goals (go_ret2; exact ⟨ret_ii (by simp only [loOf, held]; split <;> (try split) <;> omega) (by simp only [nOf, loOf, held]; (repeat' split) <;> omega), rfl⟩)
theorem bits_any (v : BitVec 64) (lo n : Int) (w : World) :
    Calls Try.prog 65 #[U v, .int .i64 lo, .int .i64 n] w fun e w' => e = .returned (U (bitsB v (loOf lo) (nOf lo n))) ∧ ∃ k, w' = w.drewN k := by
  go_enter Try.func65, Try.ntmps65
  go_wp2_with (go_at_call 73; refine (part_any _ _ _).mono ?_; rintro e w' ⟨rfl, rfl⟩)
  go_quiet ((go_at_call 74; exact quiet_left (mask_any _ (by omega) _)))
  go_wp2
  go_ret
  refine ⟨ret_u ?_, _, rfl⟩
  rw [u_shr_min, u_and]
  rfl
theorem set_any (v : BitVec 64) (lo n : Int) (x : BitVec 64) (w : World) :
    Calls Try.prog 69 #[U v, .int .i64 lo, .int .i64 n, U x] w fun e w' => e = .returned (U (setB v (loOf lo) (nOf lo n) x)) ∧ ∃ k, w' = w.drewN k := by
  go_enter Try.func69, Try.ntmps69
  go_wp2_with (go_at_call 73; refine (part_any _ _ _).mono ?_; rintro e w' ⟨rfl, rfl⟩)
  go_quiet ((go_at_call 74; exact quiet_left (mask_any _ (by omega) _)))
  go_wp2
  go_ret
  refine ⟨ret_u ?_, _, rfl⟩
  simp only [u_shl_min, u_and, u_andNot, u_or]
  rfl
theorem wOf_lo {n : Int} (h : n < 1) : wOf n = 1 := by simp only [wOf, held, if_pos h]; rfl
theorem wOf_mid {n : Int} (h : 1 ≤ n) (h2 : n ≤ 64) : wOf n = n.toNat := by simp only [wOf, held]; rw [if_neg (by omega), if_neg (by omega)]
theorem wOf_hi {n : Int} (h2 : 64 < n) : wOf n = 64 := by simp only [wOf, held]; rw [if_neg (by omega), if_pos h2]; rfl
theorem zext_any (v : BitVec 64) (n : Int) (w : World) :
    Calls Try.prog 70 #[U v, .int .i64 n] w fun e w' => e = .returned (U (zextB v (wOf n))) ∧ w = w' := by
  by_cases h1 : n < 1
  · go_enter Try.func70, Try.ntmps70
    go_wp2_with (go_at_call 74; refine (mask_any _ (by omega) _).mono ?_; rintro e w' ⟨rfl, rfl⟩)
    go_ret
    refine ⟨ret_u ?_, rfl⟩
    rw [u_and, wOf_lo h1]; rfl
  · by_cases h2 : n ≤ 64
    · go_enter Try.func70, Try.ntmps70
      go_wp2_with (go_at_call 74; refine (mask_any _ (by omega) _).mono ?_; rintro e w' ⟨rfl, rfl⟩)
      go_ret
      refine ⟨ret_u ?_, rfl⟩
      rw [u_and, wOf_mid (by omega) (by omega)]; rfl
    · go_enter Try.func70, Try.ntmps70
      go_wp2_with (go_at_call 74; refine (mask_any _ (by omega) _).mono ?_; rintro e w' ⟨rfl, rfl⟩)
      go_ret
      refine ⟨ret_u ?_, rfl⟩
      rw [u_and, wOf_hi (by omega)]; rfl
end Go.Proofs.Ytkjbhjmjfacjcaa
