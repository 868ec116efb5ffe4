/- The document's bus beside ours: Read, Write, Type in one contract each; no condition but the state. -/
import Derived.Test.YtkjbhjmjfacjcaaRefBusE
import Derived.Test.YtkjbhjmjfacjcaaBusJ
namespace Go.Proofs.Ytkjbhjmjfacjcaa
open Go.RowKit Go.BigFrame
set_option linter.unusedSimpArgs false
set_option linter.unusedVariables false
set_option maxRecDepth 100000

/-- The document's bus that is like ours. -/
def rbOf (S : BusV) : RbV := { f := S.f, t := S.t, al := S.al, ins := fun k => ⟨(S.ls (2 * k)).toArray⟩, ns := S.ns, outs := fun k => ⟨(S.ls (2 * k + 1)).toArray⟩ }
theorem rbOf_in (S : BusV) (k : Nat) (l : List UInt8) (x : Bool) : rbOf { S with ls := updN S.ls (2 * k) l, nil := updN S.nil (2 * k) x } = { rbOf S with ins := updN (rbOf S).ins k ⟨l.toArray⟩ } := by
  unfold rbOf updN
  simp only [RbV.mk.injEq, true_and]
  refine ⟨?_, ?_⟩
  · funext j
    by_cases e : j = k
    · subst e; rw [if_pos rfl, if_pos rfl]
    · rw [if_neg e, if_neg (by omega)]
  · funext j
    rw [if_neg (by omega)]
theorem rbOf_out (S : BusV) (k : Nat) (l : List UInt8) (x : Bool) : rbOf { S with ls := updN S.ls (2 * k + 1) l, nil := updN S.nil (2 * k + 1) x } = { rbOf S with outs := updN (rbOf S).outs k ⟨l.toArray⟩ } := by
  unfold rbOf updN
  simp only [RbV.mk.injEq, true_and]
  refine ⟨?_, ?_⟩
  · funext j
    rw [if_neg (by omega)]
  · funext j
    by_cases e : j = k
    · subst e; rw [if_pos rfl, if_pos rfl]
    · rw [if_neg e, if_neg (by omega)]
theorem rbOf_typ (S : BusV) (k : Nat) (s : ByteArray) : rbOf (typS S k s) = { rbOf S with ins := updN (rbOf S).ins k ((rbOf S).ins k ++ s.extract 0 (typD (S.ns k) s)), ns := updN S.ns k (S.ns k + (typD (S.ns k) s : Nat)) } := by
  unfold rbOf typS updN
  simp only [RbV.mk.injEq, true_and]
  refine ⟨?_, ?_⟩
  · funext j
    by_cases e : j = k
    · subst e; rw [if_pos rfl, if_pos rfl]
      apply ByteArray.ext
      rw [ByteArray.data_append]
      apply Array.toList_inj.mp
      simp
    · rw [if_neg e, if_neg (by omega)]
  · funext j
    rw [if_neg (by omega)]
theorem put_last (l : List UInt8) (c : UInt8) (hl : l.length ≤ 64) : putB ⟨l.toArray⟩ c = ⟨(last64 (l ++ [c])).toArray⟩ := by
  have e : (⟨l.toArray⟩ : ByteArray) ++ ⟨#[c]⟩ = ⟨(l ++ [c]).toArray⟩ := by
    apply ByteArray.ext
    rw [ByteArray.data_append]
    simp
  unfold putB last64
  simp only [e]
  have hs : (⟨(l ++ [c]).toArray⟩ : ByteArray).size = l.length + 1 := by show ((l ++ [c]).toArray).size = _; simp
  have hll : (l ++ [c]).length = l.length + 1 := by simp
  rw [hs, hll]
  by_cases h : 64 < l.length + 1
  · rw [if_pos h]
    have : l.length = 64 := by omega
    rw [this]
    apply ByteArray.ext
    rw [ByteArray.data_extract]
    apply Array.toList_inj.mp
    simp [List.take_of_length_le, this]
  · rw [if_neg h]
    have : l.length + 1 - 64 = 0 := by omega
    rw [this, List.drop_zero]
/-- Of what was there only the bus and its memory's bytes turned. -/
structure RTurn (w w' : World) (b h : Nat) : Prop where
  os : w'.os = w.os
  tape : w'.tape = w.tape
  output : w'.output = w.output
  size : w.heap.size ≤ w'.heap.size
  block : ∀ j, j < w.heap.size → j ≠ b → j ≠ h → w'.heap[j]? = w.heap[j]?
theorem RTurn.refl (w : World) (b h : Nat) : RTurn w w b h := ⟨rfl, rfl, rfl, Nat.le_refl _, fun _ _ _ _ => rfl⟩
theorem RTurn.of_b {w w' : World} {b h : Nat} (u : Upd w w' b) : RTurn w w' b h := ⟨u.os, u.tape, u.output, u.size, fun j hj h1 _ => u.block j hj h1⟩
theorem RTurn.of_h {w w' : World} {b h : Nat} (u : Upd w w' h) : RTurn w w' b h := ⟨u.os, u.tape, u.output, u.size, fun j hj _ h2 => u.block j hj h2⟩
theorem code_con {a : BitVec 64} {n : Int} {k : Nat} (hc : conOf a n = some k) : codeOf a n ≠ 0 := by
  obtain ⟨hk, rfl, ha⟩ := con_lt hc
  intro e
  have := (codeOf_zero e).2.2.1
  omega
theorem con_none {a : BitVec 64} {n : Int} (hc : conOf a n = none) : ¬ (0 ≤ pOf a ∧ n = 1) := by
  rintro ⟨h0, rfl⟩
  unfold pOf at h0
  rw [hc] at h0
  exact absurd h0 (by decide)
theorem rread {q h : Nat} (S : BusV) (b : Nat) (a : BitVec 64) (n : Int) (w : World) (H : IsRb w b q h (rbOf S)) :
    Calls Try.prog 38 #[.pointer (some ⟨b, 0, none⟩), U a, .int .i64 n] w fun e w' => e = .returned (.tuple #[U (brV S a n), .bool (brOk a n)]) ∧ RTurn w w' b h ∧ IsRb w' b q h (rbOf (brS S a n)) := by
  cases hc : conOf a n with
  | some k =>
    obtain ⟨hk, rfl, ha⟩ := con_lt hc
    cases hl : S.ls (2 * k) with
    | nil =>
      refine (rread_con0 b k a w H hc (by show (⟨(S.ls (2 * k)).toArray⟩ : ByteArray) = _; rw [hl])).mono ?_
      rintro e w' ⟨rfl, rfl⟩
      refine ⟨?_, .refl _ _ _, ?_⟩
      · unfold brV brOk; rw [hc]; simp only [hl]; rfl
      · unfold brS; rw [hc]; simp only [hl]; exact H
    | cons x l =>
      refine (rread_con b k a x l w H hc (by show (⟨(S.ls (2 * k)).toArray⟩ : ByteArray) = _; rw [hl])).mono ?_
      rintro e w' ⟨rfl, hu, HI⟩
      refine ⟨?_, .of_b hu, ?_⟩
      · unfold brV brOk; rw [hc]; simp only [hl]
        have := x.toNat_lt
        have e : (BitVec.ofNat 64 x.toNat).toNat = x.toNat := by rw [BitVec.toNat_ofNat]; exact Nat.mod_eq_of_lt (by omega)
        show _ = Ending.returned (Value.tuple #[Value.int IntKind.u64 ((BitVec.ofNat 64 x.toNat).toNat : Int), Value.bool true])
        rw [e]
      · unfold brS; rw [hc]; simp only [hl]; rw [rbOf_in]; exact HI
  | none =>
    have es : brS S a n = S := by unfold brS; rw [hc]
    rw [es]
    unfold brV brOk
    rw [hc]
    simp only
    by_cases h0 : codeOf a n = 0
    · have hh := codeOf_zero h0
      rw [if_neg (by omega), if_neg (by omega), if_neg (by omega), if_neg (by omega), h0]
      have e : rdF S.f a n = readF S.f a.toNat n := by unfold rdF; rw [if_pos h0]
      rw [e]
      refine (rread_mem b a n w H h0).mono ?_
      rintro e w' ⟨rfl, rfl⟩
      exact ⟨rfl, .refl _ _ _, H⟩
    · refine (rread_dev b a n w H h0 (con_none hc)).mono ?_
      rintro e w' ⟨rfl, rfl⟩
      refine ⟨?_, .refl _ _ _, H⟩
      by_cases h1 : a.toNat = 61440 ∧ n = 8
      · have t1 : ((a.toNat : Int) == 61440) = true := by rw [beq_iff_eq]; omega
        have t2 : (n == 8) = true := by rw [beq_iff_eq]; omega
        rw [if_pos h1, if_pos h1, t1, t2]; rfl
      · have t1 : (((a.toNat : Int) == 61440) && (n == 8)) = false := by rw [Bool.eq_false_iff]; intro e; rw [Bool.and_eq_true, beq_iff_eq, beq_iff_eq] at e; omega
        rw [if_neg h1, if_neg h1, t1]
        by_cases h2 : a.toNat = 61448 ∧ n = 8
        · have t1 : ((a.toNat : Int) == 61448) = true := by rw [beq_iff_eq]; omega
          have t2 : (n == 8) = true := by rw [beq_iff_eq]; omega
          rw [if_pos h2, if_pos h2, t1, t2]; rfl
        · have t1 : (((a.toNat : Int) == 61448) && (n == 8)) = false := by rw [Bool.eq_false_iff]; intro e; rw [Bool.and_eq_true, beq_iff_eq, beq_iff_eq] at e; omega
          rw [if_neg h2, if_neg h2, t1]
          have e : rdF S.f a n = 0#64 := by unfold rdF; rw [if_neg h0]
          have e0 : (codeOf a n == 0) = false := by rw [beq_eq_false_iff_ne]; exact h0
          rw [e, e0]; rfl
theorem rwrite {q h : Nat} (S : BusV) (b : Nat) (a : BitVec 64) (n : Int) (x : BitVec 64) (w : World) (H : IsRb w b q h (rbOf S)) (hf : ∀ k, k < 4 → (S.ls (2 * k + 1)).length ≤ 64) :
    Calls Try.prog 39 #[.pointer (some ⟨b, 0, none⟩), U a, .int .i64 n, U x] w fun e w' => e = .returned (.bool (bwOk a n)) ∧ RTurn w w' b h ∧ IsRb w' b q h (rbOf (bwS S a n x)) := by
  cases hc : conOf a n with
  | some k =>
    obtain ⟨hk, rfl, ha⟩ := con_lt hc
    refine (rwrite_con b k a x w H hc (hf k hk)).mono ?_
    rintro e w' ⟨rfl, hu, HI⟩
    refine ⟨?_, .of_b hu, ?_⟩
    · unfold bwOk; rw [hc]
    · unfold bwS; rw [hc]; simp only; rw [rbOf_out, ← put_last _ _ (hf k hk)]; exact HI
  | none =>
    unfold bwS bwOk
    rw [hc]
    simp only
    by_cases h2 : a.toNat = 61448 ∧ n = 8
    · rw [if_pos h2, if_pos h2]
      obtain ⟨h2, rfl⟩ := h2
      refine (rwrite_alarm b a x w H h2).mono ?_
      rintro e w' ⟨rfl, hu, HI⟩
      exact ⟨rfl, .of_b hu, HI⟩
    · rw [if_neg h2, if_neg h2]
      by_cases h0 : codeOf a n = 0
      · rw [h0]
        refine (rwrite_mem b a n x w H h0).mono ?_
        rintro e w' ⟨rfl, hu, HI⟩
        exact ⟨rfl, .of_h hu, HI⟩
      · have e : wrF S.f a n x = S.f := by unfold wrF; rw [if_neg h0]
        have e0 : (codeOf a n == 0) = false := by rw [beq_eq_false_iff_ne]; exact h0
        rw [e, e0]
        refine (rwrite_no b a x n w H h0 (con_none hc) h2).mono ?_
        rintro e w' ⟨rfl, rfl⟩
        exact ⟨rfl, .refl _ _ _, H⟩
theorem fine_read {S : BusV} (F : Fine S) (a : BitVec 64) (n : Int) : Fine (brS S a n) := by
  unfold brS
  cases hc : conOf a n with
  | none => exact F
  | some k =>
    obtain ⟨hk, rfl, ha⟩ := con_lt hc
    simp only
    cases hl : S.ls (2 * k) with
    | nil => exact F
    | cons x l =>
      refine ⟨fun j hj => ?_, fun j hj => ?_, F.ns⟩
      · show ((updN S.ls (2 * k) l (2 * j)).length : Int) ≤ S.ns j
        by_cases e : j = k
        · subst e; rw [updN_same]; have := F.inn j hj; rw [hl] at this; simp only [List.length_cons] at this; omega
        · rw [updN_other _ _ _ _ (by omega)]; exact F.inn j hj
      · show (updN S.ls (2 * k) l (2 * j + 1)).length ≤ 64
        rw [updN_other _ _ _ _ (by omega)]; exact F.out j hj
theorem last64_len (l : List UInt8) : (last64 l).length ≤ 64 := by unfold last64; rw [List.length_drop]; omega
theorem fine_write {S : BusV} (F : Fine S) (a : BitVec 64) (n : Int) (x : BitVec 64) : Fine (bwS S a n x) := by
  unfold bwS
  cases hc : conOf a n with
  | none => simp only; split <;> exact ⟨F.inn, F.out, F.ns⟩
  | some k =>
    obtain ⟨hk, rfl, ha⟩ := con_lt hc
    refine ⟨fun j hj => ?_, fun j hj => ?_, F.ns⟩
    · show ((updN S.ls (2 * k + 1) _ (2 * j)).length : Int) ≤ S.ns j
      rw [updN_other _ _ _ _ (by omega)]; exact F.inn j hj
    · show (updN S.ls (2 * k + 1) _ (2 * j + 1)).length ≤ 64
      by_cases e : j = k
      · subst e; rw [updN_same]; exact last64_len _
      · rw [updN_other _ _ _ _ (by omega)]; exact F.out j hj
theorem fine_typ {S : BusV} (F : Fine S) (k : Nat) (hk : k < 4) (s : ByteArray) : Fine (typS S k s) := by
  unfold typS
  have h0 := F.inn k hk
  have h1 := F.ns k hk
  refine ⟨fun j hj => ?_, fun j hj => ?_, fun j hj => ?_⟩
  · show ((updN S.ls (2 * k) _ (2 * j)).length : Int) ≤ updN S.ns k _ j
    by_cases e : j = k
    · subst e; rw [updN_same, updN_same, List.length_append]
      have : (s.extract 0 (typD (S.ns j) s)).data.toList.length = typD (S.ns j) s := by
        show (s.extract 0 (typD (S.ns j) s)).size = _
        rw [ByteArray.size_extract]; unfold typD; omega
      rw [this]; omega
    · rw [updN_other _ _ _ _ (by omega), updN_other _ _ _ _ e]; exact F.inn j hj
  · show (updN S.ls (2 * k) _ (2 * j + 1)).length ≤ 64
    rw [updN_other _ _ _ _ (by omega)]; exact F.out j hj
  · show updN S.ns k _ j ≤ 64
    by_cases e : j = k
    · subst e; rw [updN_same]; unfold typD; omega
    · rw [updN_other _ _ _ _ e]; exact F.ns j hj
end Go.Proofs.Ytkjbhjmjfacjcaa
