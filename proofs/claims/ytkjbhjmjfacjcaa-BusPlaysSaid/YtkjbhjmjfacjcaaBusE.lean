/- The bus's consoles: Read, Output; no condition but the state. -/
import Derived.Test.YtkjbhjmjfacjcaaBusD
namespace Go.Proofs.Ytkjbhjmjfacjcaa
open Go.RowKit Go.BigFrame
set_option linter.unusedSimpArgs false
set_option linter.unusedVariables false
set_option maxRecDepth 100000

theorem at_con {a : BitVec 64} {k : Nat} (h : a.toNat = 61696 + 256 * k) (hk : k < 4) : ((a.toNat : Int) == 61440) = false ∧ ((a.toNat : Int) == 61448) = false :=
  ⟨by rw [Bool.eq_false_iff]; intro e; rw [beq_iff_eq] at e; omega, by rw [Bool.eq_false_iff]; intro e; rw [beq_iff_eq] at e; omega⟩
theorem bread_con0 (b B k : Nat) (S : BusV) (a : BitVec 64) (w : World) (h : Bus w B b S) (hc : conOf a 1 = some k) (hl : S.ls (2 * k) = []) :
    Calls Try.prog 27 #[.pointer (some ⟨b, 0, none⟩), U a, .int .i64 1] w fun e w' => e = .returned (.tuple #[.int .u64 0, .bool true]) ∧ w = w' := by
  obtain ⟨p, g, ks, vs, h⟩ := h
  obtain ⟨hk, _, ha⟩ := con_lt hc
  have kc := bcon b a 1 w
  rw [hc] at kc
  have ci := h.crow (2 * k) (by omega)
  rw [show cellOf (2 * k) = 3 + 3 * k by unfold cellOf; omega] at ci
  obtain ⟨ad, c, hv⟩ := (h.row (2 * k) (by omega)).shape
  rw [hl] at hv
  rw [hv] at ci
  obtain ⟨t1, t2⟩ := at_con ha hk
  simp only [Option.map_some] at kc
  generalize hO : 3 + 3 * k = o at *
  clear h hc hl hv ha hk hO
  go_enter Try.func27, Try.ntmps27
  go_wp2_with fail
  (with_reducible refine kc.mono ?_)
  rintro e w1 ⟨rfl, rfl⟩
  go_wp2
  go_ret2
  exact ⟨rfl, rfl⟩
set_option maxHeartbeats 1000000 in
theorem bread_con (b B k : Nat) (S : BusV) (a : BitVec 64) (x : UInt8) (l : List UInt8) (w : World) (h : Bus w B b S) (hc : conOf a 1 = some k) (hl : S.ls (2 * k) = x :: l) :
    Calls Try.prog 27 #[.pointer (some ⟨b, 0, none⟩), U a, .int .i64 1] w fun e w' => e = .returned (.tuple #[.int .u64 (x.toNat : Int), .bool true]) ∧ Upd w w' b ∧ Bus w' B b { S with ls := updN S.ls (2 * k) l, nil := updN S.nil (2 * k) false } := by
  obtain ⟨p, g, ks, vs, h⟩ := h
  obtain ⟨hk, _, ha⟩ := con_lt hc
  have kc := bcon b a 1 w
  rw [hc] at kc
  have co : cellOf (2 * k) = 3 + 3 * k := by unfold cellOf; omega
  have ci := h.crow (2 * k) (by omega)
  have fr := h.free (3 + 3 * k)
  rw [co] at ci
  have hrow := h.row (2 * k) (by omega)
  obtain ⟨v', hsl, hr'⟩ := row_drop hrow 1 (by rw [hl]; simp) .i64
  obtain ⟨a', n', c', hv'⟩ : ∃ a' n' c', v' = .slice a' n' c' := by obtain ⟨x1, x2, x3⟩ := hr'.shape; exact ⟨_, _, _, x3⟩
  have hr2 := hr'
  rw [hl, List.drop_succ_cons, List.drop_zero] at hr2
  have fin : Upd w (w.setCell ⟨b, 3 + 3 * k, none⟩ v') b ∧ Bus (w.setCell ⟨b, 3 + 3 * k, none⟩ v') B b { S with ls := updN S.ls (2 * k) l, nil := updN S.nil (2 * k) false } := by
    have t := h.turn_row (2 * k) (by omega) (ks (2 * k)) v' l ⟨rfl, rfl, rfl, Nat.le_refl _, fun _ _ _ => rfl⟩ hr2 (.inl rfl)
    rw [co] at t
    exact ⟨set_upd _ _ _ _, p, g, _, _, t⟩
  have FIN := Lib.hid fin
  obtain ⟨ad, c, gb, go, hv, hcell⟩ : ∃ (ad : Option Addr) (c gb go : Nat), vs (2 * k) = .slice (some ⟨gb, go, none⟩) (l.length + 1) c ∧ w.cell? ⟨gb, go, none⟩ = some (.int .u8 (x.toNat : Int)) := by
    rw [hl] at hrow
    cases hkk : ks (2 * k) with
    | none => rw [hkk] at hrow; obtain ⟨_, e⟩ := hrow; cases e
    | some q =>
      rw [hkk] at hrow
      obtain ⟨o, cap, pre, rest, h1, h2, h3, _⟩ := hrow
      refine ⟨none, cap, q, o, h1, ?_⟩
      have := row_cell h2 h3 0 (.int .u8 (x.toNat : Int)) rfl
      simpa [Addr.add] using this
  obtain ⟨n1, hn1⟩ : ∃ n1, n1 = l.length + 1 := ⟨_, rfl⟩
  rw [← hn1] at hv
  rw [hv] at ci hsl
  have hpos : 0 < n1 := by omega
  have tz : ((n1 : Int) == 0) = false := by rw [Bool.eq_false_iff]; intro e; rw [beq_iff_eq] at e; omega
  obtain ⟨t1, t2⟩ := at_con ha hk
  simp only [Option.map_some] at kc
  have hsl' : ∀ W, (Instr.slice 40 (.slice (some ⟨gb, go, none⟩) n1 c) (some (.int .i64 1)) none none).run Try.prog W = .ok v' W := hsl
  have xw : IntKind.u64.wrap (x.toNat : Int) = (x.toNat : Int) := IntWalk.u64_in _ ⟨by omega, by have := x.toNat_lt; omega⟩
  obtain ⟨y, hy⟩ : ∃ y : Int, y = (x.toNat : Int) := ⟨_, rfl⟩
  rw [← hy] at hcell xw ⊢
  generalize hO : 3 + 3 * k = o at *
  clear h hc hl hv ha hk hO hr2 hrow fin hsl hn1 co hy hr'
  subst hv'
  go_enter Try.func27, Try.ntmps27
  go_wp2_with fail
  (with_reducible refine kc.mono ?_)
  rintro e w1 ⟨rfl, rfl⟩
  go_wp2
  go_ret2
  exact ⟨rfl, FIN.out⟩
theorem conv_row {w : World} {B : Nat} {k : Option Nat} {v : Value} {l : List UInt8} (h : RowAt w B k v l) : (convert 40 9 v).run Try.prog w = .ok (.string ⟨l.toArray⟩) w := by
  cases k with
  | none =>
    obtain ⟨rfl, rfl⟩ := h
    rw [run_convert_bytes_string _ _ _ 5 _ _ _ Try.underlying40 Try.underlying5 Try.underlying9]
    rfl
  | some g =>
    obtain ⟨o, cap, pre, rest, rfl, hg, ho, hc1, hc2, hBg, hmx⟩ := h
    rw [run_convert_bytes_string _ _ _ 5 _ _ _ Try.underlying40 Try.underlying5 Try.underlying9]
    rw [row_to_str _ g o l.length cap (pre ++ l ++ rest) 5 (0, 0) hg (by rw [List.length_append, List.length_append]; omega)]
    rw [List.append_assoc, List.drop_left' ho, List.take_left]
theorem boutput (b B k : Nat) (S : BusV) (w : World) (h : Bus w B b S) (hk : k < 4) :
    Calls Try.prog 29 #[.pointer (some ⟨b, 0, none⟩), .int .i64 (k : Int)] w fun e w' => e = .returned (.string ⟨(S.ls (2 * k + 1)).toArray⟩) ∧ w = w' := by
  obtain ⟨p, g, ks, vs, h⟩ := h
  have ci := h.crow (2 * k + 1) (by omega)
  rw [show cellOf (2 * k + 1) = 3 + 3 * k + 1 by unfold cellOf; omega] at ci
  have cv := conv_row (h.row (2 * k + 1) (by omega))
  have kw : IntKind.u64.wrap (k : Int) = (k : Int) := IntWalk.u64_in _ ⟨by omega, by omega⟩
  have kp := bport b k w hk
  generalize vs (2 * k + 1) = v at *
  generalize S.ls (2 * k + 1) = l at *
  generalize hO : 3 + 3 * k = o at *
  clear h hO hk
  go_enter Try.func29, Try.ntmps29
  go_wp2_with fail
  (with_reducible refine kp.mono ?_)
  rintro e w1 ⟨rfl, rfl⟩
  go_wp2
  go_ret
  exact ⟨rfl, rfl⟩
theorem boutput_no (b : Nat) (k : Int) (w : World) (hk : 4 ≤ k) (hk2 : k < 9223372036854775808) :
    Calls Try.prog 29 #[.pointer (some ⟨b, 0, none⟩), .int .i64 k] w fun e w' => e = .returned (.string ⟨#[]⟩) ∧ w = w' := by
  have kw : IntKind.u64.wrap k = k := IntWalk.u64_in _ ⟨by omega, by omega⟩
  have kp := bport_no b k w hk
  have t0 : decide (k < 0) = false := decide_eq_false (by omega)
  clear hk hk2
  go_enter Try.func29, Try.ntmps29
  go_wp2_with fail
  (with_reducible refine kp.mono ?_)
  rintro e w1 ⟨rfl, rfl⟩
  go_wp2
  go_ret
  exact ⟨rfl, rfl⟩
end Go.Proofs.Ytkjbhjmjfacjcaa
