/- The bus's Read, Write, Type, SetTime with its blocks named, in one contract each; no condition but the state. -/
import Derived.Test.YtkjbhjmjfacjcaaBusI
namespace Go.Proofs.Ytkjbhjmjfacjcaa
open Go.RowKit Go.BigFrame
set_option linter.unusedSimpArgs false
set_option linter.unusedVariables false
set_option maxRecDepth 100000

def brS (S : BusV) (a : BitVec 64) (n : Int) : BusV :=
  match conOf a n with
  | some k => match S.ls (2 * k) with
    | _ :: l => { S with ls := updN S.ls (2 * k) l, nil := updN S.nil (2 * k) false }
    | [] => S
  | none => S
def brV (S : BusV) (a : BitVec 64) (n : Int) : BitVec 64 :=
  match conOf a n with
  | some k => match S.ls (2 * k) with
    | x :: _ => BitVec.ofNat 64 x.toNat
    | [] => 0#64
  | none => if a.toNat = 61440 ∧ n = 8 then S.t else if a.toNat = 61448 ∧ n = 8 then S.al else rdF S.f a n
def brOk (a : BitVec 64) (n : Int) : Bool :=
  match conOf a n with
  | some _ => true
  | none => if a.toNat = 61440 ∧ n = 8 then true else if a.toNat = 61448 ∧ n = 8 then true else codeOf a n == 0
def bwS (S : BusV) (a : BitVec 64) (n : Int) (x : BitVec 64) : BusV :=
  match conOf a n with
  | some k => { S with ls := updN S.ls (2 * k + 1) (last64 (S.ls (2 * k + 1) ++ [UInt8.ofNat x.toNat])), nil := updN S.nil (2 * k + 1) false }
  | none => if a.toNat = 61448 ∧ n = 8 then { S with al := x } else { S with f := wrF S.f a n x }
def bwOk (a : BitVec 64) (n : Int) : Bool :=
  match conOf a n with
  | some _ => true
  | none => if a.toNat = 61448 ∧ n = 8 then true else codeOf a n == 0
/-- What is true of every bus that plays. -/
structure Fine (S : BusV) : Prop where
  inn : ∀ k, k < 4 → ((S.ls (2 * k)).length : Int) ≤ S.ns k
  out : ∀ k, k < 4 → (S.ls (2 * k + 1)).length ≤ 64
  ns : ∀ k, k < 4 → S.ns k ≤ 64
theorem at_lit {a : BitVec 64} {m : Nat} (h : a.toNat = m) (hm : m < 18446744073709551616) : a = BitVec.ofNat 64 m := by
  apply BitVec.eq_of_toNat_eq; rw [BitVec.toNat_ofNat, h]; exact (Nat.mod_eq_of_lt hm).symm
theorem tread_con (b B p g k : Nat) (ks : Nat → Option Nat) (vs : Nat → Value) (S : BusV) (a : BitVec 64) (x : UInt8) (l : List UInt8) (w : World) (h : IsBus w B b p g ks vs S) (hc : conOf a 1 = some k) (hl : S.ls (2 * k) = x :: l) :
    Calls Try.prog 27 #[.pointer (some ⟨b, 0, none⟩), U a, .int .i64 1] w fun e w' => e = .returned (.tuple #[.int .u64 (x.toNat : Int), .bool true]) ∧ Turned w w' B b p g ks { S with ls := updN S.ls (2 * k) l, nil := updN S.nil (2 * k) false } := by
  obtain ⟨hk, _, ha⟩ := con_lt hc
  have kc := bcon b a 1 w
  rw [hc] at kc
  have co : cellOf (2 * k) = 3 + 3 * k := by unfold cellOf; omega
  have ci := h.crow (2 * k) (by omega)
  have fr := h.free (3 + 3 * k)
  rw [co] at ci
  have hrow := h.row (2 * k) (by omega)
  obtain ⟨v', hsl, hr'⟩ := row_drop hrow 1 (by rw [hl]; simp) .i64
  obtain ⟨a', n', c', hv'⟩ : ∃ a' n' c', v' = .slice a' n' c' := by obtain ⟨x1, x2, x3⟩ := hr'.shape; exact ⟨_, _, _, x3⟩
  have hr2 := hr'
  rw [hl, List.drop_succ_cons, List.drop_zero] at hr2
  have fin : Turned w (w.setCell ⟨b, 3 + 3 * k, none⟩ v') B b p g ks { S with ls := updN S.ls (2 * k) l, nil := updN S.nil (2 * k) false } := by
    have t := h.turn_row (2 * k) (by omega) (ks (2 * k)) v' l ⟨rfl, rfl, rfl, Nat.le_refl _, fun _ _ _ => rfl⟩ hr2 (.inl rfl)
    rw [co] at t
    have u := set_upd w b (3 + 3 * k) v'
    refine ⟨⟨_, _, t, fun i hi => ?_⟩, u.os, u.tape, u.output, u.size, fun j hj h1 _ _ => u.block j hj h1⟩
    by_cases e : i = 2 * k
    · subst e; rw [updN_same]; exact .inl rfl
    · rw [updN_other _ _ _ _ e]; exact .inl rfl
  have FIN := Lib.hid fin
  obtain ⟨ad, c, gb, go, hv, hcell⟩ : ∃ (ad : Option Addr) (c gb go : Nat), vs (2 * k) = .slice (some ⟨gb, go, none⟩) (l.length + 1) c ∧ w.cell? ⟨gb, go, none⟩ = some (.int .u8 (x.toNat : Int)) := by
    rw [hl] at hrow
    cases hkk : ks (2 * k) with
    | none => rw [hkk] at hrow; obtain ⟨_, e⟩ := hrow; cases e
    | some q =>
      rw [hkk] at hrow
      obtain ⟨o, cap, pre, rest, h1, h2, h3, _⟩ := hrow
      refine ⟨none, cap, q, o, h1, ?_⟩
      have := row_cell h2 h3 0 (.int .u8 (x.toNat : Int)) rfl
      simpa [Addr.add] using this
  obtain ⟨n1, hn1⟩ : ∃ n1, n1 = l.length + 1 := ⟨_, rfl⟩
  rw [← hn1] at hv
  rw [hv] at ci hsl
  have hpos : 0 < n1 := by omega
  have tz : ((n1 : Int) == 0) = false := by rw [Bool.eq_false_iff]; intro e; rw [beq_iff_eq] at e; omega
  obtain ⟨t1, t2⟩ := at_con ha hk
  simp only [Option.map_some] at kc
  have hsl' : ∀ W, (Instr.slice 40 (.slice (some ⟨gb, go, none⟩) n1 c) (some (.int .i64 1)) none none).run Try.prog W = .ok v' W := hsl
  have xw : IntKind.u64.wrap (x.toNat : Int) = (x.toNat : Int) := IntWalk.u64_in _ ⟨by omega, by have := x.toNat_lt; omega⟩
  obtain ⟨y, hy⟩ : ∃ y : Int, y = (x.toNat : Int) := ⟨_, rfl⟩
  rw [← hy] at hcell xw ⊢
  generalize hO : 3 + 3 * k = o at *
  clear h hc hl hv ha hk hO hr2 hrow fin hsl hn1 co hy hr'
  subst hv'
  go_enter Try.func27, Try.ntmps27
  go_wp2_with fail
  (with_reducible refine kc.mono ?_)
  rintro e w1 ⟨rfl, rfl⟩
  go_wp2
  go_ret2
  exact ⟨rfl, FIN.out⟩
theorem twrite_alarm (b B p g : Nat) (ks : Nat → Option Nat) (vs : Nat → Value) (S : BusV) (x : BitVec 64) (w : World) (h : IsBus w B b p g ks vs S) :
    Calls Try.prog 28 #[.pointer (some ⟨b, 0, none⟩), .int .u64 61448, .int .i64 8, U x] w fun e w' => e = .returned (.bool true) ∧ Turned w w' B b p g ks { S with al := x } := by
  have c2 := h.c2
  have f2 := h.free 2
  have fin := Lib.hid (show Turned w (w.setCell ⟨b, 2, none⟩ (U x)) B b p g ks { S with al := x } from
    .upd (set_upd _ _ _ _) (.inl rfl) (h.turn (set_upd _ _ _ _) S.t x S.ns (set_block h.blk (show 2 < 15 by decide))))
  generalize S.al = t at *
  clear h
  go_enter Try.func28, Try.ntmps28
  go_wp2
  go_ret
  exact ⟨rfl, fin.out⟩
theorem tsettime (b B p g : Nat) (ks : Nat → Option Nat) (vs : Nat → Value) (S : BusV) (x : BitVec 64) (w : World) (h : IsBus w B b p g ks vs S) :
    Calls Try.prog 30 #[.pointer (some ⟨b, 0, none⟩), U x] w fun e w' => e = .returned (.tuple #[]) ∧ Turned w w' B b p g ks { S with t := x } := by
  have key := astore b 1 S.t x w h.c1 (h.free 1)
  have fin := Lib.hid (show Turned w (w.setCell ⟨b, 1, none⟩ (U x)) B b p g ks { S with t := x } from
    .upd (set_upd _ _ _ _) (.inl rfl) (h.turn (set_upd _ _ _ _) x S.al S.ns (set_block h.blk (show 1 < 15 by decide))))
  clear h
  go_enter Try.func30, Try.ntmps30
  go_wp2_with fail
  (with_reducible refine key.mono ?_)
  rintro e w1 ⟨rfl, rfl⟩
  go_wp2
  go_end0
  exact ⟨rfl, fin.out⟩
theorem Turned.refl' {w : World} {B b p g : Nat} {ks : Nat → Option Nat} {vs : Nat → Value} {S : BusV} (h : IsBus w B b p g ks vs S) : Turned w w B b p g ks S := .below (Below.refl _ _) h
theorem ret_eq {v v' : Value} (h : v = v') : Ending.returned v = Ending.returned v' := by rw [h]
theorem tread (b B p g : Nat) (ks : Nat → Option Nat) (vs : Nat → Value) (S : BusV) (a : BitVec 64) (n : Int) (w : World) (h : IsBus w B b p g ks vs S) :
    Calls Try.prog 27 #[.pointer (some ⟨b, 0, none⟩), U a, .int .i64 n] w fun e w' => e = .returned (.tuple #[U (brV S a n), .bool (brOk a n)]) ∧ Turned w w' B b p g ks (brS S a n) := by
  have H : Bus w B b S := ⟨p, g, ks, vs, h⟩
  cases hc : conOf a n with
  | some k =>
    obtain ⟨hk, rfl, ha⟩ := con_lt hc
    cases hl : S.ls (2 * k) with
    | nil =>
      refine (bread_con0 b B k S a w H hc hl).mono ?_
      rintro e w' ⟨rfl, rfl⟩
      refine ⟨?_, ?_⟩
      · unfold brV brOk; rw [hc]; simp only [hl]; rfl
      · unfold brS; rw [hc]; simp only [hl]; exact .refl' h
    | cons x l =>
      refine (tread_con b B p g k ks vs S a x l w h hc hl).mono ?_
      rintro e w' ⟨rfl, ht⟩
      refine ⟨?_, ?_⟩
      · unfold brV brOk; rw [hc]; simp only [hl]
        have := x.toNat_lt
        have e : (BitVec.ofNat 64 x.toNat).toNat = x.toNat := by rw [BitVec.toNat_ofNat]; exact Nat.mod_eq_of_lt (by omega)
        show _ = Ending.returned (Value.tuple #[Value.int IntKind.u64 ((BitVec.ofNat 64 x.toNat).toNat : Int), Value.bool true])
        rw [e]
      · unfold brS; rw [hc]; simp only [hl]; exact ht
  | none =>
    have es : brS S a n = S := by unfold brS; rw [hc]
    rw [es]
    unfold brV brOk
    rw [hc]
    simp only
    by_cases h1 : a.toNat = 61440 ∧ n = 8
    · rw [if_pos h1, if_pos h1]
      obtain ⟨h1, rfl⟩ := h1
      have e := at_lit h1 (by decide)
      subst e
      refine (bread_time b B S w H).mono ?_
      rintro e w' ⟨rfl, rfl⟩
      exact ⟨rfl, .refl' h⟩
    · rw [if_neg h1, if_neg h1]
      by_cases h2 : a.toNat = 61448 ∧ n = 8
      · rw [if_pos h2, if_pos h2]
        obtain ⟨h2, rfl⟩ := h2
        have e := at_lit h2 (by decide)
        subst e
        refine (bread_alarm b B S w H).mono ?_
        rintro e w' ⟨rfl, rfl⟩
        exact ⟨rfl, .refl' h⟩
      · rw [if_neg h2, if_neg h2]
        refine (bread_mem b B S a n w H hc h1 h2).mono ?_
        rintro e w' ⟨rfl, hb⟩
        exact ⟨rfl, .below hb h⟩
theorem twrite (b B p g : Nat) (ks : Nat → Option Nat) (vs : Nat → Value) (S : BusV) (a : BitVec 64) (n : Int) (x : BitVec 64) (w : World) (h : IsBus w B b p g ks vs S) (hB : B ≤ w.heap.size) (hf : ∀ k, k < 4 → (S.ls (2 * k + 1)).length ≤ 64) :
    Calls Try.prog 28 #[.pointer (some ⟨b, 0, none⟩), U a, .int .i64 n, U x] w fun e w' => e = .returned (.bool (bwOk a n)) ∧ Turned w w' B b p g ks (bwS S a n x) := by
  cases hc : conOf a n with
  | some k =>
    obtain ⟨hk, rfl, ha⟩ := con_lt hc
    refine (twrite_con b B p g k ks vs S a x w h hc hB (hf k hk)).mono ?_
    rintro e w' ⟨rfl, ht⟩
    refine ⟨?_, ?_⟩
    · unfold bwOk; rw [hc]
    · unfold bwS; rw [hc]; exact ht
  | none =>
    unfold bwS bwOk
    rw [hc]
    simp only
    by_cases h2 : a.toNat = 61448 ∧ n = 8
    · rw [if_pos h2, if_pos h2]
      obtain ⟨h2, rfl⟩ := h2
      have e := at_lit h2 (by decide)
      subst e
      exact twrite_alarm b B p g ks vs S x w h
    · rw [if_neg h2, if_neg h2]
      exact twrite_mem b B p g ks vs S a n x w h hc h2
theorem ttype_no (b : Nat) (k : Int) (s : ByteArray) (w : World) (hk : k < 0 ∨ 4 ≤ k) (hk2 : k < 9223372036854775808) :
    Calls Try.prog 26 #[.pointer (some ⟨b, 0, none⟩), .int .i64 k, .string s] w fun e w' => e = .returned (.tuple #[]) ∧ w = w' := by
  rcases hk with hk | hk
  · have d1 : decide (k < 0) = true := decide_eq_true hk
    clear hk hk2
    go_enter Try.func26, Try.ntmps26
    go_wp2
    refine bodyPost_ret (results_none rfl _ _ _) rfl ?_
    exact ⟨rfl, rfl⟩
  · have d1 : decide (k < 0) = false := decide_eq_false (by omega)
    have kw : IntKind.u64.wrap k = k := IntWalk.u64_in _ ⟨by omega, by omega⟩
    have kp := bport_no b k w hk
    clear hk hk2
    go_enter Try.func26, Try.ntmps26
    go_wp2_with fail
    (with_reducible refine kp.mono ?_)
    rintro e w1 ⟨rfl, rfl⟩
    go_wp2
    go_end0
    exact ⟨rfl, rfl⟩
end Go.Proofs.Ytkjbhjmjfacjcaa
