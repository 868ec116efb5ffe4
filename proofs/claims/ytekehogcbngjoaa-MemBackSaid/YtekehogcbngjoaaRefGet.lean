/- Contracts of the reference's Get and Bytes. -/
import Derived.Test.YtekehogcbngjoaaRef
namespace Go.Proofs.Ytekehogcbngjoaa
open Go.RowKit
set_option linter.unusedSimpArgs false
set_option linter.unusedVariables false

theorem byte_bit {x : BitVec 64} (h : x.toNat < 256) (j : Nat) (hj : 8 ≤ j) : x.getLsbD j = false := by
  rw [← BitVec.testBit_toNat]
  exact Nat.testBit_lt_two_pow (Nat.lt_of_lt_of_le h (by have : 2 ^ 8 ≤ 2 ^ j := Nat.pow_le_pow_right (by omega) hj; omega))
theorem join_bit (f : Nat → BitVec 64) (hf : ∀ k, (f k).toNat < 256) (m i : Nat) (hi : i < 64) : (joinB f m).getLsbD i = (decide (i / 8 < m) && (f (i / 8)).getLsbD (i % 8)) := by
  induction m with
  | zero => simp [joinB]
  | succ m ih =>
    rw [joinB, BitVec.getLsbD_or, ih, BitVec.getLsbD_shiftLeft]
    by_cases c1 : i / 8 < m
    · have c2 : i < 8 * m := by omega
      simp [c1, c2, hi, show i / 8 < m + 1 by omega]
    · by_cases c3 : i / 8 = m
      · subst c3
        simp [hi, show ¬ i < 8 * (i / 8) by omega, show i - 8 * (i / 8) = i % 8 by omega]
      · have c4 : ¬ i / 8 < m + 1 := by omega
        simp [c1, c4, byte_bit (hf m) (i - 8 * m) (by omega)]
theorem join_shift (f : Nat → BitVec 64) (hf : ∀ k, (f k).toNat < 256) (j m : Nat) (hm : m < 8) :
    (joinB (fun k => f (j + 1 + k)) m <<< 8) ||| f j = joinB (fun k => f (j + k)) (m + 1) := by
  apply BitVec.eq_of_getLsbD_eq
  intro i hi
  rw [join_bit (fun k => f (j + k)) (fun k => hf _) _ _ hi, BitVec.getLsbD_or, BitVec.getLsbD_shiftLeft]
  by_cases c : i < 8
  · have e : i / 8 = 0 := by omega
    simp [c, hi, e, show i % 8 = i by omega]
  · rw [join_bit (fun k => f (j + 1 + k)) (fun k => hf _) _ _ (by omega), byte_bit (hf j) i (by omega)]
    have e1 : (i - 8) / 8 = i / 8 - 1 := by omega
    have e2 : (i - 8) % 8 = i % 8 := by omega
    rw [e1, e2, show j + 1 + (i / 8 - 1) = j + i / 8 by omega]
    by_cases c2 : i / 8 < m + 1
    · simp [c, hi, c2, show i / 8 - 1 < m by omega]
    · simp [c, hi, c2, show ¬ i / 8 - 1 < m by omega]
theorem join_more (f : Nat → BitVec 64) (m n : Nat) (h : ∀ k, m ≤ k → k < n → f k = 0#64) (hm : m ≤ n) : joinB f n = joinB f m := by
  induction n with
  | zero => rw [show m = 0 by omega]
  | succ n ih =>
    by_cases c : m = n + 1
    · rw [c]
    · rw [joinB, ih (fun k hk hk2 => h k hk (by omega)) (by omega), h n (by omega) (by omega)]; simp
theorem gb_zero (s : ByteArray) (at_ n : Int) (k : Nat) (h : ¬ ((k : Int) < n ∧ 0 ≤ at_ + k ∧ at_ + k < s.size)) : gb s at_ n k = 0#64 := by
  unfold gb gbU; rw [if_neg h]; rfl
/-- what the reference has behind the bytes from j on. -/
def tailB (s : ByteArray) (at_ n : Int) (j : Nat) : BitVec 64 := joinB (fun k => gb s at_ n (j + k)) (held 0 8 n - j)
theorem tail_all (s : ByteArray) (at_ n : Int) : tailB s at_ n 0 = getB s at_ n := by
  unfold tailB getB
  have e : (fun k => gb s at_ n (0 + k)) = gb s at_ n := by funext k; rw [Nat.zero_add]
  have hl := held_le 0 8 n (by omega) (by omega)
  rw [e, Nat.sub_zero]
  refine (join_more (gb s at_ n) (held 0 8 n) 8 (fun k hk hk2 => gb_zero _ _ _ _ ?_) (by omega)).symm
  unfold held at hk; split at hk <;> (try split at hk) <;> omega
theorem tail_none (s : ByteArray) (at_ n : Int) : tailB s at_ n (held 0 8 n) = 0#64 := by
  unfold tailB; rw [Nat.sub_self]; rfl
theorem tail_step (s : ByteArray) (at_ n : Int) (j : Nat) (hj : j < held 0 8 n) : (tailB s at_ n (j + 1) <<< 8) ||| gb s at_ n j = tailB s at_ n j := by
  have hl := held_le 0 8 n (by omega) (by omega)
  unfold tailB
  rw [join_shift (gb s at_ n) (gb_lt s at_ n) j _ (by omega), show held 0 8 n - (j + 1) + 1 = held 0 8 n - j by omega]
theorem tail_skip (s : ByteArray) (at_ n : Int) (j : Nat) (hj : j < held 0 8 n) (h : ¬ ((j : Int) < n ∧ 0 ≤ at_ + j ∧ at_ + j < s.size)) : (tailB s at_ n (j + 1) <<< 8) = tailB s at_ n j := by
  rw [← tail_step s at_ n j hj, gb_zero s at_ n j h]; simp
theorem gb_is (s : ByteArray) (at_ n : Int) (k : Nat) (h : (k : Int) < n ∧ 0 ≤ at_ + k ∧ at_ + k < s.size) (hi : (at_ + k).toNat < s.size) : (((s[(at_ + k).toNat]'hi).toNat : Nat) : Int) = ((gb s at_ n k).toNat : Int) := by
  unfold gb gbU; rw [if_pos h, BitVec.toNat_ofNat, List.getD_eq_getElem?_getD, List.getElem?_eq_getElem (by exact hi), Option.getD_some]
  have := (s[(at_ + k).toNat]'hi).toNat_lt
  have e : s.data.toList[(at_ + k).toNat]'hi = s[(at_ + k).toNat]'hi := rfl
  rw [e]; omega

theorem tail_yes (s : ByteArray) (at_ n : Int) (j : Nat) (hj : j < held 0 8 n) (h : (j : Int) < n ∧ 0 ≤ at_ + j ∧ at_ + j < s.size) (hi : (at_ + j).toNat < s.size) :
    Value.int IntKind.u64 (bits BinOp.or IntKind.u64 (IntKind.u64.wrap (((tailB s at_ n (j + 1)).toNat : Int) * 256)) (IntKind.u64.wrap (((s[(at_ + (j : Int)).toNat]'hi).toNat : Nat) : Int))) = U (tailB s at_ n j) := by
  have e := u_shl (tailB s at_ n (j + 1)) 8
  have e2 : (2 : Int) ^ 8 = 256 := rfl
  rw [e2] at e
  have hb := gb_lt s at_ n j
  rw [e, gb_is s at_ n j h hi, IntWalk.u64_in _ ⟨by omega, by omega⟩, u_or, tail_step s at_ n j hj]
theorem tail_no (s : ByteArray) (at_ n : Int) (j : Nat) (hj : j < held 0 8 n) (h : ¬ ((j : Int) < n ∧ 0 ≤ at_ + j ∧ at_ + j < s.size)) :
    Value.int IntKind.u64 (IntKind.u64.wrap (((tailB s at_ n (j + 1)).toNat : Int) * 256)) = U (tailB s at_ n j) := by
  have e := u_shl (tailB s at_ n (j + 1)) 8
  have e2 : (2 : Int) ^ 8 = 256 := rfl
  rw [e2] at e
  rw [e, tail_skip s at_ n j hj h]
theorem rget_mid (s : ByteArray) (at_ n : Int) (w : World) (h1 : -8 ≤ at_) (h2 : at_ ≤ s.size) (hn0 : 0 < n) (hn8 : n ≤ 8) (hs : s.size ≤ 140737488351232) :
    Calls Try.prog 23 #[.string s, .int .i64 at_, .int .i64 n] w fun e w' => e = .returned (U (getB s at_ n)) ∧ w = w' := by
  have hh : (held 0 8 n : Int) = n := by unfold held; rw [if_neg (by omega), if_neg (by omega)]; omega
  have hle : (held 0 8 n : Int) ≤ n ∧ (held 0 8 n : Int) ≤ 8 := by omega
  rw [← tail_all]
  have T0 := Lib.hid (tail_none s at_ n)
  have HH := Lib.hid hh
  clear hh
  go_enter Try.func23, Try.ntmps23
  go_wp2
  go_loop [7, 8] (fun v i => ∃ j : Nat, j ≤ held 0 8 n ∧ i = .int .i64 ((j : Int) - 1) ∧ v = U (tailB s at_ n j)) (fun _ i => (intOf i + 1).toNat)
  case atStart => exact ⟨held 0 8 n, by omega, by rw [HH.out], by rw [T0.out]; rfl⟩
  case round =>
    obtain ⟨j, hj, rfl, rfl⟩ := hrel
    by_cases hj0 : j = 0
    · subst hj0
      go_wp2
      go_ret
      exact ⟨rfl, rfl⟩
    · obtain ⟨m, rfl⟩ : ∃ m, j = m + 1 := ⟨j - 1, by omega⟩
      have em : ((m + 1 : Nat) : Int) - 1 = (m : Int) := by omega
      rw [em]
      clear em
      by_cases c1 : 0 ≤ at_ + m
      · by_cases c2 : at_ + m < s.size
        · go_wp2
          go_round
          case rel => exact ⟨m, by omega, by go_num, tail_yes s at_ n m (by omega) ⟨by omega, c1, c2⟩ _⟩
          case measure => simp [intOf]
        · go_wp2
          go_round
          case rel => exact ⟨m, by omega, by go_num, tail_no s at_ n m (by omega) (by omega)⟩
          case measure => simp [intOf]
      · go_wp2
        go_round
        case rel => exact ⟨m, by omega, by go_num, tail_no s at_ n m (by omega) (by omega)⟩
        case measure => simp [intOf]
theorem rget_high (s : ByteArray) (at_ n : Int) (w : World) (h1 : -8 ≤ at_) (h2 : at_ ≤ s.size) (hn8 : 8 < n) (hs : s.size ≤ 140737488351232) :
    Calls Try.prog 23 #[.string s, .int .i64 at_, .int .i64 n] w fun e w' => e = .returned (U (getB s at_ n)) ∧ w = w' := by
  have hh : (held 0 8 n : Int) = 8 := by unfold held; rw [if_neg (by omega), if_pos (by omega)]; rfl
  have hle : (held 0 8 n : Int) ≤ n ∧ (held 0 8 n : Int) ≤ 8 := by omega
  rw [← tail_all]
  have T0 := Lib.hid (tail_none s at_ n)
  have HH := Lib.hid hh
  clear hh
  go_enter Try.func23, Try.ntmps23
  go_wp2
  go_loop [7, 8] (fun v i => ∃ j : Nat, j ≤ held 0 8 n ∧ i = .int .i64 ((j : Int) - 1) ∧ v = U (tailB s at_ n j)) (fun _ i => (intOf i + 1).toNat)
  case atStart => exact ⟨held 0 8 n, by omega, by rw [HH.out]; rfl, by rw [T0.out]; rfl⟩
  case round =>
    obtain ⟨j, hj, rfl, rfl⟩ := hrel
    by_cases hj0 : j = 0
    · subst hj0
      go_wp2
      go_ret
      exact ⟨rfl, rfl⟩
    · obtain ⟨m, rfl⟩ : ∃ m, j = m + 1 := ⟨j - 1, by omega⟩
      have em : ((m + 1 : Nat) : Int) - 1 = (m : Int) := by omega
      rw [em]
      clear em
      by_cases c1 : 0 ≤ at_ + m
      · by_cases c2 : at_ + m < s.size
        · go_wp2
          go_round
          case rel => exact ⟨m, by omega, by go_num, tail_yes s at_ n m (by omega) ⟨by omega, c1, c2⟩ _⟩
          case measure => simp [intOf]
        · go_wp2
          go_round
          case rel => exact ⟨m, by omega, by go_num, tail_no s at_ n m (by omega) (by omega)⟩
          case measure => simp [intOf]
      · go_wp2
        go_round
        case rel => exact ⟨m, by omega, by go_num, tail_no s at_ n m (by omega) (by omega)⟩
        case measure => simp [intOf]
theorem getB_zero (s : ByteArray) (at_ n : Int) (h : ∀ k : Nat, k < 8 → ¬ ((k : Int) < n ∧ 0 ≤ at_ + k ∧ at_ + k < s.size)) : getB s at_ n = 0#64 := by
  unfold getB; rw [join_congr (g := fun _ => 0#64) 8 (fun i hi => gb_zero _ _ _ _ (h i hi)), join_zero]
theorem rget_low (s : ByteArray) (at_ n : Int) (w : World) (hn : n ≤ 0) :
    Calls Try.prog 23 #[.string s, .int .i64 at_, .int .i64 n] w fun e w' => e = .returned (U (getB s at_ n)) ∧ w = w' := by
  rw [getB_zero s at_ n (by omega)]
  by_cases h0 : n < 0
  · go_enter Try.func23, Try.ntmps23
    go_wp2
    go_rounds 1
    go_ret
    exact ⟨rfl, rfl⟩
  · obtain rfl : n = 0 := by omega
    go_enter Try.func23, Try.ntmps23
    go_wp2
    go_rounds 1
    go_ret
    exact ⟨rfl, rfl⟩
theorem rget_before_mid (s : ByteArray) (at_ n : Int) (w : World) (h1 : at_ < -8) (hn0 : 0 < n) (hn8 : n ≤ 8) (hs : s.size ≤ 140737488351232) :
    Calls Try.prog 23 #[.string s, .int .i64 at_, .int .i64 n] w fun e w' => e = .returned (U (getB s at_ n)) ∧ w = w' := by
  rw [getB_zero s at_ n (by omega)]
  go_enter Try.func23, Try.ntmps23
  go_wp2
  go_loop [7, 8] (fun v i => ∃ j : Nat, j ≤ 8 ∧ i = .int .i64 ((j : Int) - 1) ∧ v = .int .u64 0) (fun _ i => (intOf i + 1).toNat)
  case atStart => exact ⟨n.toNat, by omega, by rw [Int.toNat_of_nonneg (by omega)], rfl⟩
  case round =>
    obtain ⟨j, hj, rfl, rfl⟩ := hrel
    by_cases hj0 : j = 0
    · subst hj0
      go_wp2
      go_ret
      exact ⟨rfl, rfl⟩
    · obtain ⟨m, rfl⟩ : ∃ m, j = m + 1 := ⟨j - 1, by omega⟩
      have em : ((m + 1 : Nat) : Int) - 1 = (m : Int) := by omega
      rw [em]
      clear em
      go_wp2
      go_round
      case rel => exact ⟨m, by omega, by go_num, rfl⟩
      case measure => simp [intOf]
theorem rget_before_high (s : ByteArray) (at_ n : Int) (w : World) (h1 : at_ < -8) (hn8 : 8 < n) (hs : s.size ≤ 140737488351232) :
    Calls Try.prog 23 #[.string s, .int .i64 at_, .int .i64 n] w fun e w' => e = .returned (U (getB s at_ n)) ∧ w = w' := by
  rw [getB_zero s at_ n (by omega)]
  go_enter Try.func23, Try.ntmps23
  go_wp2
  go_loop [7, 8] (fun v i => ∃ j : Nat, j ≤ 8 ∧ i = .int .i64 ((j : Int) - 1) ∧ v = .int .u64 0) (fun _ i => (intOf i + 1).toNat)
  case atStart => exact ⟨8, by omega, rfl, rfl⟩
  case round =>
    obtain ⟨j, hj, rfl, rfl⟩ := hrel
    by_cases hj0 : j = 0
    · subst hj0
      go_wp2
      go_ret
      exact ⟨rfl, rfl⟩
    · obtain ⟨m, rfl⟩ : ∃ m, j = m + 1 := ⟨j - 1, by omega⟩
      have em : ((m + 1 : Nat) : Int) - 1 = (m : Int) := by omega
      rw [em]
      clear em
      go_wp2
      go_round
      case rel => exact ⟨m, by omega, by go_num, rfl⟩
      case measure => simp [intOf]
theorem rget_behind_mid (s : ByteArray) (at_ n : Int) (w : World) (h1 : -8 ≤ at_) (h2 : s.size < at_) (hn0 : 0 < n) (hn8 : n ≤ 8) (hs : s.size ≤ 140737488351232) :
    Calls Try.prog 23 #[.string s, .int .i64 at_, .int .i64 n] w fun e w' => e = .returned (U (getB s at_ n)) ∧ w = w' := by
  rw [getB_zero s at_ n (by omega)]
  go_enter Try.func23, Try.ntmps23
  go_wp2
  go_loop [7, 8] (fun v i => ∃ j : Nat, j ≤ 8 ∧ i = .int .i64 ((j : Int) - 1) ∧ v = .int .u64 0) (fun _ i => (intOf i + 1).toNat)
  case atStart => exact ⟨n.toNat, by omega, by rw [Int.toNat_of_nonneg (by omega)], rfl⟩
  case round =>
    obtain ⟨j, hj, rfl, rfl⟩ := hrel
    by_cases hj0 : j = 0
    · subst hj0
      go_wp2
      go_ret
      exact ⟨rfl, rfl⟩
    · obtain ⟨m, rfl⟩ : ∃ m, j = m + 1 := ⟨j - 1, by omega⟩
      have em : ((m + 1 : Nat) : Int) - 1 = (m : Int) := by omega
      rw [em]
      clear em
      go_wp2
      go_round
      case rel => exact ⟨m, by omega, by go_num, rfl⟩
      case measure => simp [intOf]
theorem rget_behind_high (s : ByteArray) (at_ n : Int) (w : World) (h1 : -8 ≤ at_) (h2 : s.size < at_) (hn8 : 8 < n) (hs : s.size ≤ 140737488351232) :
    Calls Try.prog 23 #[.string s, .int .i64 at_, .int .i64 n] w fun e w' => e = .returned (U (getB s at_ n)) ∧ w = w' := by
  rw [getB_zero s at_ n (by omega)]
  go_enter Try.func23, Try.ntmps23
  go_wp2
  go_loop [7, 8] (fun v i => ∃ j : Nat, j ≤ 8 ∧ i = .int .i64 ((j : Int) - 1) ∧ v = .int .u64 0) (fun _ i => (intOf i + 1).toNat)
  case atStart => exact ⟨8, by omega, rfl, rfl⟩
  case round =>
    obtain ⟨j, hj, rfl, rfl⟩ := hrel
    by_cases hj0 : j = 0
    · subst hj0
      go_wp2
      go_ret
      exact ⟨rfl, rfl⟩
    · obtain ⟨m, rfl⟩ : ∃ m, j = m + 1 := ⟨j - 1, by omega⟩
      have em : ((m + 1 : Nat) : Int) - 1 = (m : Int) := by omega
      rw [em]
      clear em
      go_wp2
      go_round
      case rel => exact ⟨m, by omega, by go_num, rfl⟩
      case measure => simp [intOf]
theorem rget_any (s : ByteArray) (at_ n : Int) (w : World) (hs : s.size ≤ 140737488351232) :
    Calls Try.prog 23 #[.string s, .int .i64 at_, .int .i64 n] w fun e w' => e = .returned (U (getB s at_ n)) ∧ w = w' := by
  by_cases h0 : n ≤ 0
  · exact rget_low s at_ n w h0
  · by_cases h8 : n ≤ 8
    · by_cases h1 : at_ < -8
      · exact rget_before_mid s at_ n w h1 (by omega) h8 hs
      · by_cases h2 : at_ ≤ s.size
        · exact rget_mid s at_ n w (by omega) h2 (by omega) h8 hs
        · exact rget_behind_mid s at_ n w (by omega) (by omega) (by omega) h8 hs
    · by_cases h1 : at_ < -8
      · exact rget_before_high s at_ n w h1 (by omega) hs
      · by_cases h2 : at_ ≤ s.size
        · exact rget_high s at_ n w (by omega) h2 (by omega) hs
        · exact rget_behind_high s at_ n w (by omega) (by omega) (by omega) hs
end Go.Proofs.Ytekehogcbngjoaa
