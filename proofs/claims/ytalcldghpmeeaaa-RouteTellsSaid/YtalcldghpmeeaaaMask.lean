/- The document's bits, Mask, Mpp; no condition but the arguments' own. -/
import Derived.Test.YtalcldghpmeeaaaCsr
namespace Go.Proofs.Ytalcldghpmeeaaa
open Go.RowKit Go.BigFrame
set_option linter.unusedSimpArgs false
set_option linter.unusedVariables false
set_option maxRecDepth 100000

theorem part_of (e : BitVec 64) (lo n : Nat) (hn : n ≤ 63) (h : lo ≤ 63) : bits .and .u64 ((e.toNat : Int) / 2 ^ lo) (2 ^ n - 1 : Nat) = ((bitsB e lo n).toNat : Int) := by
  rw [u_shr e lo]
  have h1 := u_and (e >>> lo) (BitVec.ofNat 64 (2 ^ n - 1))
  have h3 : 2 ^ n ≤ 2 ^ 63 := Nat.pow_le_pow_right (by omega) hn
  rw [ofNat_toNat _ (by omega)] at h1
  rw [h1]
  congr 2
  apply BitVec.eq_of_getLsbD_eq
  intro i hi
  rw [bits_bit, BitVec.getLsbD_and, BitVec.getLsbD_ushiftRight, BitVec.getLsbD_ofNat, Nat.testBit_two_pow_sub_one]
theorem ints_alloc (w : World) (ks : List Nat) (T : TypeId) (h : ∀ k ∈ ks, k < 64) : IntsAt (w.alloc (.cells (ks.map fun (k : Nat) => Value.int .i64 (k : Int)).toArray T)) w.heap.size ks := by
  intro i k hk
  have hw : (w.alloc (.cells (ks.map fun (k : Nat) => Value.int .i64 (k : Int)).toArray T)).heap[w.heap.size]? = some (.cells (ks.map fun (k : Nat) => Value.int .i64 (k : Int)).toArray T (0, 0)) := (MapKept.heap_alloc w _).1
  refine ⟨?_, h k (List.mem_of_getElem? hk)⟩
  simp only [World.cell?, hw]
  simp [hk]
theorem rbits_any (b c : Nat) (ks : List Nat) (w : World) (h : IntsAt w b ks) (hn : ks.length ≤ 64) :
    Calls Try.prog 26 #[.slice (some ⟨b, 0, none⟩) ks.length c] w fun e w' => e = .returned (U (oneB ks)) ∧ w = w' := by
  have HI := Lib.hid h
  obtain ⟨n, hnn⟩ : ∃ n, n = ks.length := ⟨_, rfl⟩
  rw [← hnn] at hn ⊢
  clear h
  go_enter Try.func26, Try.ntmps26
  go_wp2
  go_loop [3, 4] (fun v i => ∃ m : Nat, m ≤ n ∧ i = .int .i64 m ∧ v = U (oneB (ks.take m))) (fun _ i => n - (intOf i).toNat)
  case atStart => exact ⟨0, by omega, rfl, rfl⟩
  case round =>
    obtain ⟨m, hm, rfl, rfl⟩ := hrel
    by_cases hmn : m < n
    · obtain ⟨k, hk⟩ : ∃ k, ks[m]? = some k := ⟨ks[m]'(by omega), by simp⟩
      obtain ⟨c0, hk64⟩ := HI.out m k hk
      have e1 := u_shl 1#64 k
      rw [show ((1#64).toNat : Int) = 1 from rfl, Int.one_mul] at e1
      have e2 := u_or (oneB (ks.take m)) (1#64 <<< k)
      have e3 : oneB (ks.take (m + 1)) = oneB (ks.take m) ||| 1#64 <<< k := by
        rw [← oneB_snoc]; congr 1; rw [List.take_add_one, hk]; rfl
      rw [← e3] at e2
      generalize ((1#64 <<< k).toNat : Int) = y at e1 e2
      clear e3
      have kw : IntKind.u64.wrap (k : Int) = (k : Int) := IntWalk.u64_in _ ⟨by omega, by omega⟩
      go_wp2
      go_round
      case rel => exact ⟨m + 1, by omega, by go_num, rfl⟩
      case measure => simp [intOf]; omega
    · obtain rfl : m = n := by omega
      have e3 : ks.take m = ks := List.take_of_length_le (by omega)
      go_wp2
      go_ret
      exact ⟨rfl, rfl⟩
def ks0 : List Nat := [1, 3, 5, 7, 8, 11, 12, 18, 19, 20, 21, 22, 38, 39]
def ks1 : List Nat := [0, 1, 2, 3, 4, 5, 6, 7, 8, 10, 12, 13, 15, 20, 21, 22, 23]
def ks16 : List Nat := [6, 7, 8, 9, 20, 21, 22]
def ks17 : List Nat := [0, 1, 2, 3, 4, 5, 6, 7, 8, 12, 13, 15]
/-- The bits of a register that may be written. -/
def maskV : Nat → BitVec 64
  | 0 => oneB ks0
  | 1 => oneB ks1
  | 2 => 544#64
  | 3 => 1632#64
  | 4 | 6 | 10 | 12 | 23 | 25 => 18446744073709551612#64
  | 15 | 21 | 28 => 9223372036871487743#64
  | 16 => oneB ks16
  | 17 => oneB ks17
  | 18 | 19 => 1088#64
  | 22 => 786722#64
  | _ => 18446744073709551615#64
set_option maxHeartbeats 4000000 in
theorem rmask_b (i : Nat) (h : i < 29) : Gives Try.prog 15 #[.int .i64 (i : Int)] (U (maskV i)) := by
  intro w
  have hb : ∀ o, Below w.heap.size w (w.alloc o) := fun o => (Below.refl _ _).alloc (Nat.le_refl _) _
  have HB := Lib.hid hb
  have c0 : oneB ks0 = oneB ks0 := rfl
  clear hb
  have hcase : i = 0 ∨ i = 1 ∨ i = 16 ∨ i = 17 ∨ (i ≠ 0 ∧ i ≠ 1 ∧ i ≠ 16 ∧ i ≠ 17) := by omega
  rcases hcase with rfl | rfl | rfl | rfl | ⟨n0, n1, n16, n17⟩
  · go_enter Try.func15, Try.ntmps15
    go_wp2_with fail
    refine (rbits_any w.heap.size 14 ks0 _ (ints_alloc w ks0 3 (by decide)) (by decide)).mono ?_
    rintro e w' ⟨rfl, rfl⟩
    go_wp2
    go_ret
    exact ⟨rfl, HB.out _⟩
  · go_enter Try.func15, Try.ntmps15
    go_wp2_with fail
    refine (rbits_any w.heap.size 17 ks1 _ (ints_alloc w ks1 3 (by decide)) (by decide)).mono ?_
    rintro e w' ⟨rfl, rfl⟩
    go_wp2
    go_ret
    exact ⟨rfl, HB.out _⟩
  · go_enter Try.func15, Try.ntmps15
    go_wp2_with fail
    refine (rbits_any w.heap.size 7 ks16 _ (ints_alloc w ks16 3 (by decide)) (by decide)).mono ?_
    rintro e w' ⟨rfl, rfl⟩
    go_wp2
    go_ret
    exact ⟨rfl, HB.out _⟩
  · go_enter Try.func15, Try.ntmps15
    go_wp2_with fail
    refine (rbits_any w.heap.size 12 ks17 _ (ints_alloc w ks17 3 (by decide)) (by decide)).mono ?_
    rintro e w' ⟨rfl, rfl⟩
    go_wp2
    go_ret
    exact ⟨rfl, HB.out _⟩
  · have hc : i = 2 ∨ i = 3 ∨ i = 4 ∨ i = 5 ∨ i = 6 ∨ i = 7 ∨ i = 8 ∨ i = 9 ∨ i = 10 ∨ i = 11 ∨ i = 12 ∨ i = 13 ∨ i = 14 ∨ i = 15 ∨ i = 18 ∨ i = 19 ∨ i = 20 ∨ i = 21 ∨ i = 22 ∨ i = 23 ∨ i = 24 ∨ i = 25 ∨ i = 26 ∨ i = 27 ∨ i = 28 := by omega
    clear n0 n1 n16 n17 h
    rcases hc with rfl | rfl | rfl | rfl | rfl | rfl | rfl | rfl | rfl | rfl | rfl | rfl | rfl | rfl | rfl | rfl | rfl | rfl | rfl | rfl | rfl | rfl | rfl | rfl | rfl
    all_goals (
      go_enter Try.func15, Try.ntmps15
      go_wp2
      go_ret
      exact ⟨rfl, Below.refl _ _⟩)
/-- MPP of 2 is 0. -/
def mppB (v : BitVec 64) : BitVec 64 := if bitsB v 11 2 = 2#64 then v &&& ~~~6144#64 else v
theorem rmpp_b (v : BitVec 64) : Gives Try.prog 16 #[U v] (U (mppB v)) := by
  refine .of_same fun w => ?_
  have e1 : bits .and .u64 ((v.toNat : Int) / 2048) 3 = ((bitsB v 11 2).toNat : Int) := part_of v 11 2 (by omega) (by omega)
  have e2 := u_beq (bitsB v 11 2) 2#64
  have e3 := u_andNot v 6144#64
  rw [show ((6144#64 : BitVec 64).toNat : Int) = 6144 from rfl] at e3
  unfold mppB
  by_cases h : bitsB v 11 2 = 2#64
  · rw [if_pos h]
    rw [h] at e1
    generalize v &&& ~~~6144#64 = r at *
    clear e2 h
    go_enter Try.func16, Try.ntmps16
    go_wp2
    go_ret
    exact ⟨rfl, rfl⟩
  · rw [if_neg h]
    have e4 : (((bitsB v 11 2).toNat : Int) == 2) = false := e2.trans (by simpa using h)
    generalize ((bitsB v 11 2).toNat : Int) = y at *
    clear e2 h e3
    go_enter Try.func16, Try.ntmps16
    go_wp2
    go_ret
    exact ⟨rfl, rfl⟩
end Go.Proofs.Ytalcldghpmeeaaa
