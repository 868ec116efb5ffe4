/- csr.Bit, Pending, one; no condition but the arguments' own. -/
import Derived.Test.YtalcldghpmeeaaaState
namespace Go.Proofs.Ytalcldghpmeeaaa
open Go.RowKit Go.BigFrame
set_option linter.unusedSimpArgs false
set_option linter.unusedVariables false
set_option maxRecDepth 100000

theorem loOf_nat (k : Nat) (h : k < 64) : loOf (k : Int) = k := by
  unfold loOf held; rw [if_neg (by omega), if_neg (by omega)]; omega
theorem nOf_one (k : Nat) (h : k < 64) : nOf (k : Int) 1 = 1 := by
  unfold nOf held; rw [loOf_nat k h]; rw [if_neg (by omega)]; split <;> omega
theorem bit_one (v : BitVec 64) (k : Nat) : (bitsB v k 1 == 1#64) = v.getLsbD k := by
  have hb : bitsB v k 1 = if v.getLsbD k then 1#64 else 0#64 := by
    apply BitVec.eq_of_getLsbD_eq
    intro i hi
    rw [bits_bit]
    by_cases i0 : i = 0
    · subst i0
      cases v.getLsbD k <;> simp
    · have : ¬ i < 1 := by omega
      cases v.getLsbD k <;> simp [this, i0]
  rw [hb]
  cases v.getLsbD k <;> rfl
theorem cbit_b (S : St) (i k : Nat) (h : i < 29) (hk : k < 64) : Gives Try.prog 20 #[.agg (stA S), .int .i64 (i : Int), .int .i64 (k : Int)] (.bool ((S.c i).getLsbD k)) := by
  intro w
  have sz := stA_size S
  have c0 := (HasSt.new w S).cell (stA_c S i h)
  have s := bits_b (S.c i) k 1
  rw [loOf_nat k hk, nOf_one k hk] at s
  have hb : Below w.heap.size w (w.alloc (.cells (stA S) 26)) := (Below.refl _ _).alloc (Nat.le_refl _) _
  have HB := Lib.hid hb
  have e2 := bit_one (S.c i) k
  rw [← e2]
  generalize bitsB (S.c i) k 1 = r at *
  have e := Lib.hid (u_beq r 1#64)
  clear hb e2
  go_enter Try.func20, Try.ntmps20
  go_wp2_with fail
  (with_reducible refine (s.run _).mono ?_)
  rintro e' w' ⟨rfl, hb⟩
  go_wp2
  go_ret
  exact ⟨ret_b e.out, HBstep HB.out hb⟩
/-- What csr.one tells. -/
def oneB (ks : List Nat) : BitVec 64 := ks.foldl (fun v k => v ||| 1#64 <<< k) 0#64
theorem oneB_snoc (ks : List Nat) (k : Nat) : oneB (ks ++ [k]) = oneB ks ||| 1#64 <<< k := by unfold oneB; rw [List.foldl_append]; rfl
def IntsAt (w : World) (b : Nat) (ks : List Nat) : Prop := ∀ (i k : Nat), ks[i]? = some k → w.cell? ⟨b, i, none⟩ = some (.int .i64 (k : Int)) ∧ k < 64
theorem one_any (b c : Nat) (ks : List Nat) (w : World) (h : IntsAt w b ks) (hn : ks.length ≤ 64) :
    Calls Try.prog 29 #[.slice (some ⟨b, 0, none⟩) ks.length c] w fun e w' => e = .returned (U (oneB ks)) ∧ w = w' := by
  have HI := Lib.hid h
  obtain ⟨n, hnn⟩ : ∃ n, n = ks.length := ⟨_, rfl⟩
  rw [← hnn] at hn ⊢
  clear h
  go_enter Try.func29, Try.ntmps29
  go_wp2
  go_loop [3, 8] (fun v i => ∃ m : Nat, m ≤ n ∧ i = .int .i64 m ∧ v = U (oneB (ks.take m))) (fun _ i => n - (intOf i).toNat)
  case atStart => exact ⟨0, by omega, rfl, rfl⟩
  case round =>
    obtain ⟨m, hm, rfl, rfl⟩ := hrel
    by_cases hmn : m < n
    · obtain ⟨k, hk⟩ : ∃ k, ks[m]? = some k := ⟨ks[m]'(by omega), by simp⟩
      obtain ⟨c0, hk64⟩ := HI.out m k hk
      have e1 := u_shl 1#64 k
      rw [show ((1#64).toNat : Int) = 1 from rfl, Int.one_mul] at e1
      have e2 := u_or (oneB (ks.take m)) (1#64 <<< k)
      have e3 : oneB (ks.take (m + 1)) = oneB (ks.take m) ||| 1#64 <<< k := by
        rw [← oneB_snoc]; congr 1; rw [List.take_add_one, hk]; rfl
      rw [← e3] at e2
      generalize ((1#64 <<< k).toNat : Int) = y at e1 e2
      clear e3
      go_wp2
      go_round
      case rel => exact ⟨m + 1, by omega, by go_num, rfl⟩
      case measure => simp [intOf]; omega
    · obtain rfl : m = n := by omega
      have e3 : ks.take m = ks := List.take_of_length_le (by omega)
      go_wp2
      go_ret
      exact ⟨rfl, rfl⟩
/-- Which interrupts there are. -/
def pendB (v : BitVec 64) (t l : Bool) : BitVec 64 := (if t then v ||| 32#64 else v) ||| (if l then 512#64 else 0#64)
theorem pend_b (S : St) (t l : Bool) : Gives Try.prog 24 #[.agg (stA S), .bool t, .bool l] (U (pendB (S.c 19) t l)) := by
  intro w
  have sz := stA_size S
  have c0 := (HasSt.new w S).cell (stA_c S 19 (by omega))
  have o5 : ∀ (b : Nat) (w : World), w.cell? ⟨b, 0, none⟩ = some (.int .i64 5) → Calls Try.prog 29 #[.slice (some ⟨b, 0, none⟩) 1 1] w fun e w' => e = .returned (U 32#64) ∧ w = w' :=
    fun b w h => one_any b 1 [5] w (fun i k hk => by match i, hk with | 0, hk => cases hk; exact ⟨h, by omega⟩) (by simp)
  have o9 : ∀ (b : Nat) (w : World), w.cell? ⟨b, 0, none⟩ = some (.int .i64 9) → Calls Try.prog 29 #[.slice (some ⟨b, 0, none⟩) 1 1] w fun e w' => e = .returned (U 512#64) ∧ w = w' :=
    fun b w h => one_any b 1 [9] w (fun i k hk => by match i, hk with | 0, hk => cases hk; exact ⟨h, by omega⟩) (by simp)
  obtain ⟨v, hv⟩ : ∃ v, v = S.c 19 := ⟨_, rfl⟩
  rw [← hv] at c0 ⊢
  have e1 := u_or v 32#64
  have e2 := u_or v 512#64
  have e3 := u_or (v ||| 32#64) 512#64
  have hb : Below w.heap.size w (w.alloc (.cells (stA S) 26)) := (Below.refl _ _).alloc (Nat.le_refl _) _
  have hb1 : ∀ o, Below w.heap.size w ((w.alloc (.cells (stA S) 26)).alloc o) := fun o => hb.alloc (by simp) _
  have hb2 : ∀ o o', Below w.heap.size w (((w.alloc (.cells (stA S) 26)).alloc o).alloc o') := fun o o' => (hb1 o).alloc (by simp; omega) _
  have HB := Lib.hid (And.intro hb (And.intro hb1 hb2))
  have O5 := Lib.hid o5
  have O9 := Lib.hid o9
  clear hb hb1 hb2 hv o5 o9
  rw [show ((32#64).toNat : Int) = 32 from rfl] at e1
  rw [show ((512#64).toNat : Int) = 512 from rfl] at e2 e3
  obtain ⟨r1, hr1⟩ : ∃ r, r = v ||| 32#64 := ⟨_, rfl⟩
  obtain ⟨r2, hr2⟩ : ∃ r, r = v ||| 512#64 := ⟨_, rfl⟩
  obtain ⟨r3, hr3⟩ : ∃ r, r = r1 ||| 512#64 := ⟨_, rfl⟩
  rw [← hr1] at e1 e3
  rw [← hr2] at e2
  rw [← hr3] at e3
  have p00 : pendB v false false = v := by unfold pendB; simp
  have p01 : pendB v false true = r2 := by rw [hr2]; unfold pendB; simp
  have p10 : pendB v true false = r1 := by rw [hr1]; unfold pendB; simp
  have p11 : pendB v true true = r3 := by rw [hr3, hr1]; unfold pendB; simp
  clear hr1 hr2 hr3
  go_enter Try.func24, Try.ntmps24
  cases t <;> cases l
  · rw [p00]
    go_wp2
    go_ret
    exact ⟨rfl, HB.out.1⟩
  · rw [p01]
    go_wp2_with (go_at_call 29; (with_reducible refine (O9.out _ _ (by go_cell)).mono ?_); rintro e w' ⟨rfl, rfl⟩)
    go_ret
    exact ⟨rfl, HB.out.2.1 _⟩
  · rw [p10]
    go_wp2_with (go_at_call 29; (with_reducible refine (O5.out _ _ (by go_cell)).mono ?_); rintro e w' ⟨rfl, rfl⟩)
    go_ret
    exact ⟨rfl, HB.out.2.1 _⟩
  · rw [p11]
    go_wp2_with fail
    (with_reducible refine (O5.out _ _ (by go_cell)).mono ?_)
    rintro e w' ⟨rfl, rfl⟩
    go_wp2_with fail
    (with_reducible refine (O9.out _ _ (by go_cell)).mono ?_)
    rintro e w' ⟨rfl, rfl⟩
    go_wp2
    go_ret
    exact ⟨rfl, HB.out.2.2 _ _⟩
end Go.Proofs.Ytalcldghpmeeaaa
