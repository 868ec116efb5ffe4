/- The contracts of the words in one form (what is made lies behind what was there), and the contract of the laws' own 'known'. -/
import Derived.Test.YtekehogcbngjoaaRefBytes
namespace Go.Proofs.Ytekehogcbngjoaa
open Go.RowKit
set_option linter.unusedSimpArgs false
set_option linter.unusedVariables false

/-- A call that hands back v and makes at most new blocks. -/
def Gives (P : Program) (f : FuncId) (args : Array Value) (v : Value) : Prop := ∀ w : World, Calls P f args w fun e w' => e = .returned v ∧ Below w.heap.size w w'
theorem Gives.of_same {P : Program} {f : FuncId} {args : Array Value} {v : Value} (h : ∀ w, Calls P f args w fun e w' => e = .returned v ∧ w = w') : Gives P f args v :=
  fun w => (h w).mono fun e w' ⟨he, hw⟩ => ⟨he, by rw [hw]; exact Below.refl _ _⟩
theorem Gives.of_drew {P : Program} {f : FuncId} {args : Array Value} {v : Value} (h : ∀ w, Calls P f args w fun e w' => e = .returned v ∧ ∃ k, w' = w.drewN k) : Gives P f args v :=
  fun w => (h w).mono fun e w' ⟨he, k, hw⟩ => ⟨he, by rw [hw]; exact ⟨rfl, rfl, rfl, Nat.le_refl _, fun _ _ => rfl⟩⟩
/-- Behind what has been made so far. -/
theorem Gives.on {P : Program} {f : FuncId} {args : Array Value} {v : Value} {W w : World} (h : Gives P f args v) (HB : Below W.heap.size W w) :
    Calls P f args w fun e w' => e = .returned v ∧ Below W.heap.size W w' :=
  (h w).mono fun e w' ⟨he, hb⟩ => ⟨he, HB.trans (hb.mono HB.size)⟩

theorem sext_b (v : BitVec 64) (n : Int) : Gives Try.prog 14 #[U v, .int .i64 n] (U (sextB v (wOf n))) := .of_same (sext_any v n)
theorem zext_b (v : BitVec 64) (n : Int) : Gives Try.prog 16 #[U v, .int .i64 n] (U (zextB v (wOf n))) := .of_same (zext_any v n)
theorem bits_b (v : BitVec 64) (lo n : Int) : Gives Try.prog 18 #[U v, .int .i64 lo, .int .i64 n] (U (bitsB v (loOf lo) (nOf lo n))) := .of_drew (bits_any v lo n)
theorem set_b (v : BitVec 64) (lo n : Int) (x : BitVec 64) : Gives Try.prog 20 #[U v, .int .i64 lo, .int .i64 n, U x] (U (setB v (loOf lo) (nOf lo n) x)) := .of_drew (set_any v lo n x)
theorem get_b (s : ByteArray) (at_ n : Int) (hs : s.size ≤ 140737488351232) : Gives Try.prog 22 #[.string s, .int .i64 at_, .int .i64 n] (U (getB s at_ n)) := fun w => get_any s at_ n w (by omega)
theorem bytes_b (v : BitVec 64) (n : Int) : Gives Try.prog 24 #[U v, .int .i64 n] (.string (bytesB v (held 0 8 n))) := bytes_any v n
theorem high_b (v x : BitVec 64) : Gives Try.prog 26 #[U v, U x] (.bool (v.slt x)) := .of_same (high_any v x)
theorem rsext_b (v : BitVec 64) (n : Int) : Gives Try.prog 15 #[U v, .int .i64 n] (U (sextB v (wOf n))) := .of_same (rsext_any v n)
theorem rzext_b (v : BitVec 64) (n : Int) : Gives Try.prog 17 #[U v, .int .i64 n] (U (zextB v (wOf n))) := .of_same (rzext_any v n)
theorem rbits_b (v : BitVec 64) (lo n : Int) : Gives Try.prog 19 #[U v, .int .i64 lo, .int .i64 n] (U (bitsB v (loOf lo) (nOf lo n))) := .of_drew (rbits_any v lo n)
theorem rset_b (v : BitVec 64) (lo n : Int) (x : BitVec 64) : Gives Try.prog 21 #[U v, .int .i64 lo, .int .i64 n, U x] (U (setB v (loOf lo) (nOf lo n) x)) := .of_drew (rset_any v lo n x)
theorem rget_b (s : ByteArray) (at_ n : Int) (hs : s.size ≤ 140737488351232) : Gives Try.prog 23 #[.string s, .int .i64 at_, .int .i64 n] (U (getB s at_ n)) := .of_same fun w => rget_any s at_ n w hs
theorem rbytes_b (v : BitVec 64) (n : Int) : Gives Try.prog 25 #[U v, .int .i64 n] (.string (bytesB v (held 0 8 n))) := rbytes_any v n
theorem rless_b (v x : BitVec 64) : Gives Try.prog 27 #[U v, U x] (.bool (v.slt x)) := .of_same (rless_any v x)

theorem Gives.to {P : Program} {f : FuncId} {args : Array Value} {v u : Value} (h : Gives P f args v) (e : v = u) : Gives P f args u := e ▸ h
theorem U_eq {x y : BitVec 64} (h : x = y) : U x = U y := by rw [h]

theorem known_b : Gives Try.prog 13 #[] (.bool true) := by
  intro w
  have k1 : Gives Try.prog 14 #[.int .u64 255, .int .i64 8] (.int .u64 18446744073709551615) := (sext_b 255#64 8).to (U_eq (y := 18446744073709551615#64) (by decide +kernel))
  have k2 : Gives Try.prog 16 #[.int .u64 511, .int .i64 8] (.int .u64 255) := (zext_b 511#64 8).to (U_eq (y := 255#64) (by decide +kernel))
  have k3 : Gives Try.prog 18 #[.int .u64 2748, .int .i64 4, .int .i64 4] (.int .u64 11) := (bits_b 2748#64 4 4).to (U_eq (y := 11#64) (by decide +kernel))
  have k4 : Gives Try.prog 20 #[.int .u64 0, .int .i64 4, .int .i64 8, .int .u64 511] (.int .u64 4080) := (set_b 0#64 4 8 511#64).to (U_eq (y := 4080#64) (by decide +kernel))
  have k5 : Gives Try.prog 22 #[.string ⟨#[1, 2]⟩, .int .i64 0, .int .i64 4] (.int .u64 513) := (get_b ⟨#[1, 2]⟩ 0 4 (by decide)).to (U_eq (y := 513#64) (by decide +kernel))
  have k6 : Gives Try.prog 24 #[.int .u64 513, .int .i64 3] (.string ⟨#[1, 2, 0]⟩) := (bytes_b 513#64 3).to (by rw [show bytesB 513#64 (held 0 8 3) = ⟨#[1, 2, 0]⟩ by decide +kernel])
  have k7 : Gives Try.prog 26 #[.int .u64 18446744073709551615, .int .u64 0] (.bool true) := (high_b 18446744073709551615#64 0#64).to (by rw [show (18446744073709551615#64).slt 0#64 = true by decide +kernel])
  have HB := Below.refl w.heap.size w
  go_enter Try.func13, Try.ntmps13
  go_wp2_with (first
    | (go_at_call 14; refine (k1.on HB).mono ?_; clear HB; rintro e w' ⟨rfl, HB⟩)
    | (go_at_call 16; refine (k2.on HB).mono ?_; clear HB; rintro e w' ⟨rfl, HB⟩)
    | (go_at_call 18; refine (k3.on HB).mono ?_; clear HB; rintro e w' ⟨rfl, HB⟩)
    | (go_at_call 20; refine (k4.on HB).mono ?_; clear HB; rintro e w' ⟨rfl, HB⟩)
    | (go_at_call 22; refine (k5.on HB).mono ?_; clear HB; rintro e w' ⟨rfl, HB⟩)
    | (go_at_call 24; refine (k6.on HB).mono ?_; clear HB; rintro e w' ⟨rfl, HB⟩)
    | (go_at_call 26; refine (k7.on HB).mono ?_; clear HB; rintro e w' ⟨rfl, HB⟩))
  go_ret
  exact ⟨rfl, HB⟩
end Go.Proofs.Ytekehogcbngjoaa
