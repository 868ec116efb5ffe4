/- The walks of the laws on words. -/
import Derived.Test.YtekehogcbngjoaaKnown1
namespace Go.Proofs.Ytekehogcbngjoaa
open Go.RowKit
set_option linter.unusedSimpArgs false
set_option linter.unusedVariables false

theorem u64_open {a : Int} (h : (Lit.int .u64 a).wf = true) : ∃ x : BitVec 64, a = (x.toNat : Int) := by
  have h2 := h
  simp [Lit.wf, IntKind.min, IntKind.max, IntKind.signed, IntKind.bits] at h2
  exact ⟨BitVec.ofInt 64 a, by rw [BitVec.toNat_ofInt]; omega⟩
set_option maxHeartbeats 8000000 in
set_option maxRecDepth 100000 in
theorem walkWordTells (a0 a1 a2 a3 : Int) (s : ByteArray) (a5 : Int) (w0 : (Lit.int .u64 a0).wf = true) (w1 : (Lit.int .u64 a1).wf = true) (w2 : (Lit.int .i64 a2).wf = true) (w3 : (Lit.int .i64 a3).wf = true)
    (w4 : s.size ≤ maxLen) (w5 : (Lit.int .i64 a5).wf = true) (w : World) :
    Calls Try.prog 3 #[.int .u64 a0, .int .u64 a1, .int .i64 a2, .int .i64 a3, .string s, .int .i64 a5] w fun e w' => e = .returned (.bool true) ∧ Below w.heap.size w w' := by
  obtain ⟨v, rfl⟩ := u64_open w0
  obtain ⟨x, rfl⟩ := u64_open w1
  clear w0 w1 w2 w3 w5
  have HB := Below.refl w.heap.size w
  unfold maxLen at w4
  by_cases h60 : s.size ≤ 60
  · go_enter Try.func3, Try.ntmps3
    go_wp2_with (first
      | (go_at_call 13; refine (known_b.on HB).mono ?_; clear HB; rintro e w' ⟨rfl, HB⟩)
      | (go_at_call 14; refine ((sext_b _ _).on HB).mono ?_; clear HB; rintro e w' ⟨rfl, HB⟩)
      | (go_at_call 16; refine ((zext_b _ _).on HB).mono ?_; clear HB; rintro e w' ⟨rfl, HB⟩)
      | (go_at_call 18; refine ((bits_b _ _ _).on HB).mono ?_; clear HB; rintro e w' ⟨rfl, HB⟩)
      | (go_at_call 20; refine ((set_b _ _ _ _).on HB).mono ?_; clear HB; rintro e w' ⟨rfl, HB⟩)
      | (go_at_call 22; refine ((get_b _ _ _ (by omega)).on HB).mono ?_; clear HB; rintro e w' ⟨rfl, HB⟩)
      | (go_at_call 24; refine ((bytes_b _ _).on HB).mono ?_; clear HB; rintro e w' ⟨rfl, HB⟩)
      | (go_at_call 26; refine ((high_b _ _).on HB).mono ?_; clear HB; rintro e w' ⟨rfl, HB⟩)
      | (go_at_call 15; refine ((rsext_b _ _).on HB).mono ?_; clear HB; rintro e w' ⟨rfl, HB⟩)
      | (go_at_call 17; refine ((rzext_b _ _).on HB).mono ?_; clear HB; rintro e w' ⟨rfl, HB⟩)
      | (go_at_call 19; refine ((rbits_b _ _ _).on HB).mono ?_; clear HB; rintro e w' ⟨rfl, HB⟩)
      | (go_at_call 21; refine ((rset_b _ _ _ _).on HB).mono ?_; clear HB; rintro e w' ⟨rfl, HB⟩)
      | (go_at_call 23; refine ((rget_b _ _ _ (by omega)).on HB).mono ?_; clear HB; rintro e w' ⟨rfl, HB⟩)
      | (go_at_call 25; refine ((rbytes_b _ _).on HB).mono ?_; clear HB; rintro e w' ⟨rfl, HB⟩)
      | (go_at_call 27; refine ((rless_b _ _).on HB).mono ?_; clear HB; rintro e w' ⟨rfl, HB⟩))
    go_ret
    exact ⟨rfl, HB⟩
  · go_enter Try.func3, Try.ntmps3
    go_wp2_with (go_at_call 13; refine (known_b.on HB).mono ?_; clear HB; rintro e w' ⟨rfl, HB⟩)
    go_ret
    exact ⟨rfl, HB⟩
end Go.Proofs.Ytekehogcbngjoaa
