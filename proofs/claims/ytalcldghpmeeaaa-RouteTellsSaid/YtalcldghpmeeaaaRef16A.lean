/- The document's Bit, Pending, Enabled, Exception, top; no condition but the arguments' own. -/
import Derived.Test.YtalcldghpmeeaaaRouteA
namespace Go.Proofs.Ytalcldghpmeeaaa
open Go.RowKit Go.BigFrame
set_option linter.unusedSimpArgs false
set_option linter.unusedVariables false
set_option maxRecDepth 100000

theorem shr_bit (v : BitVec 64) (k : Nat) : bits .and .u64 ((v.toNat : Int) / 2 ^ k) 1 = if v.getLsbD k then 1 else 0 := by
  rw [u_shr v k]
  have h1 := u_and (v >>> k) 1#64
  rw [show ((1#64 : BitVec 64).toNat : Int) = 1 from rfl] at h1
  rw [h1]
  have e : (v >>> k) &&& 1#64 = if v.getLsbD k then 1#64 else 0#64 := by
    apply BitVec.eq_of_getLsbD_eq
    intro i hi
    rw [BitVec.getLsbD_and, BitVec.getLsbD_ushiftRight]
    by_cases i0 : i = 0
    · subst i0
      cases v.getLsbD k <;> simp
    · have : (1#64).getLsbD i = false := by rw [BitVec.getLsbD_one]; simp [i0]
      cases v.getLsbD k <;> simp [this, i0]
  rw [e]
  cases v.getLsbD k <;> rfl
theorem shr_bit_min (v : BitVec 64) (k : Nat) : bits .and .u64 ((v.toNat : Int) / 2 ^ min k 64) 1 = if v.getLsbD k then 1 else 0 := by
  rw [u_shr_min v k, ← u_shr v k]; exact shr_bit v k
theorem rbit_b (S : St) (i k : Nat) (h : i < 29) (hk : k < 64) : Gives Try.prog 23 #[.agg (stA S), .int .i64 (i : Int), .int .i64 (k : Int)] (.bool ((S.c i).getLsbD k)) := by
  intro w
  have sz := stA_size S
  have c0 := (HasSt.new w S).cell (stA_c S i h)
  have hb : Below w.heap.size w (w.alloc (.cells (stA S) 26)) := (Below.refl _ _).alloc (Nat.le_refl _) _
  have HB := Lib.hid hb
  have e := shr_bit (S.c i) k
  have kw : IntKind.u64.wrap (k : Int) = (k : Int) := IntWalk.u64_in _ ⟨by omega, by omega⟩
  generalize (S.c i).getLsbD k = r at *
  clear hb
  go_enter Try.func23, Try.ntmps23
  cases r <;> (go_wp2; go_ret; exact ⟨rfl, HB.out⟩)
theorem rpend_b (S : St) (t l : Bool) : Gives Try.prog 25 #[.agg (stA S), .bool t, .bool l] (U (pendB (S.c 19) t l)) := by
  intro w
  have sz := stA_size S
  have c0 := (HasSt.new w S).cell (stA_c S 19 (by omega))
  obtain ⟨v, hv⟩ : ∃ v, v = S.c 19 := ⟨_, rfl⟩
  rw [← hv] at c0 ⊢
  have e1 := u_or v 32#64
  have e2 := u_or v 512#64
  have e3 := u_or (v ||| 32#64) 512#64
  have hb : Below w.heap.size w (w.alloc (.cells (stA S) 26)) := (Below.refl _ _).alloc (Nat.le_refl _) _
  have HB := Lib.hid hb
  clear hb hv
  rw [show ((32#64).toNat : Int) = 32 from rfl] at e1
  rw [show ((512#64).toNat : Int) = 512 from rfl] at e2 e3
  obtain ⟨r1, hr1⟩ : ∃ r, r = v ||| 32#64 := ⟨_, rfl⟩
  obtain ⟨r2, hr2⟩ : ∃ r, r = v ||| 512#64 := ⟨_, rfl⟩
  obtain ⟨r3, hr3⟩ : ∃ r, r = r1 ||| 512#64 := ⟨_, rfl⟩
  rw [← hr1] at e1 e3
  rw [← hr2] at e2
  rw [← hr3] at e3
  have p00 : pendB v false false = v := by unfold pendB; simp
  have p01 : pendB v false true = r2 := by rw [hr2]; unfold pendB; simp
  have p10 : pendB v true false = r1 := by rw [hr1]; unfold pendB; simp
  have p11 : pendB v true true = r3 := by rw [hr3, hr1]; unfold pendB; simp
  clear hr1 hr2 hr3
  go_enter Try.func25, Try.ntmps25
  cases t <;> cases l
  · rw [p00]; go_wp2; go_ret; exact ⟨rfl, HB.out⟩
  · rw [p01]; go_wp2; go_ret; exact ⟨rfl, HB.out⟩
  · rw [p10]; go_wp2; go_ret; exact ⟨rfl, HB.out⟩
  · rw [p11]; go_wp2; go_ret; exact ⟨rfl, HB.out⟩
theorem ren_b (S : St) (t l : Bool) : Gives Try.prog 14 #[.agg (stA S), .bool t, .bool l] (U (enB S t l)) := by
  intro w
  have sz := stA_size S
  have hs := HasSt.new w S
  have c3 := hs.cell (stA_c S 3 (by omega))
  have h1 := rpend_b S t l
  have hb : Below w.heap.size w (w.alloc (.cells (stA S) 26)) := (Below.refl _ _).alloc (Nat.le_refl _) _
  have HS := Lib.hid hs
  have HB := Lib.hid hb
  have C3 := Lib.hid c3
  have e : enB S t l = pendB (S.c 19) t l &&& S.c 3 := rfl
  rw [e]
  obtain ⟨x, hx⟩ : ∃ x, x = pendB (S.c 19) t l := ⟨_, rfl⟩
  rw [← hx] at h1 ⊢
  have e2 := u_and x (S.c 3)
  obtain ⟨r, hr⟩ : ∃ r, r = x &&& S.c 3 := ⟨_, rfl⟩
  rw [← hr] at e2 ⊢
  clear hs hb c3 e hr hx
  go_enter Try.func14, Try.ntmps14
  go_wp2_with fail
  have c3 : ∀ s : Beyond (w.alloc (.cells (stA S) 26)), s.to.cell? ⟨w.heap.size, 38, none⟩ = some (U (S.c 3)) := fun s => (s.ok.cell (p := ⟨w.heap.size, 38, none⟩) HS.out.lt).trans C3.out
  refine wp_region_below (W := w.alloc (.cells (stA S) 26)) (by kernel_rfl) (by kernel_rfl) (Below.refl _ _) ?_
  repeat (first | (go_big_quiet_want; refine quiet_load_st HS.out rfl rfl ?_; go_simp; go_big_quiet_on) | (go_big_quiet_step ((go_at_call 25; with_reducible exact (h1.at_ _)))))
  refine wpQuiet_nil ?_
  intro w2 hb
  go_wp2
  go_ret
  exact ⟨rfl, HBstep HB.out hb⟩
/-- The first of some bits that is on. -/
def topB (v : BitVec 64) : List Nat → Int
  | [] => -1
  | k :: ks => if v.getLsbD k = true then (k : Int) else topB v ks
theorem top_any (v : BitVec 64) (b c : Nat) (ks : List Nat) (w : World) (h : IntsAt w b ks) (hn : ks.length ≤ 64) :
    Calls Try.prog 22 #[U v, .slice (some ⟨b, 0, none⟩) ks.length c] w fun e w' => e = .returned (.int .i64 (topB v ks)) ∧ w = w' := by
  have HI := Lib.hid h
  obtain ⟨n, hnn⟩ : ∃ n, n = ks.length := ⟨_, rfl⟩
  obtain ⟨r, hr⟩ : ∃ r, r = topB v ks := ⟨_, rfl⟩
  have hr0 : topB v (ks.drop 0) = r := by rw [hr]; rfl
  rw [← hnn] at hn ⊢
  rw [← hr]
  clear h hr
  go_enter Try.func22, Try.ntmps22
  go_wp2
  go_loop [5] (fun i => ∃ m : Nat, m ≤ n ∧ i = .int .i64 m ∧ topB v (ks.drop m) = r) (fun i => n - (intOf i).toNat)
  case atStart => exact ⟨0, by omega, rfl, hr0⟩
  case round =>
    clear hr0
    obtain ⟨m, hm, rfl, ht⟩ := hrel
    by_cases hmn : m < n
    · obtain ⟨k, hk⟩ : ∃ k, ks[m]? = some k := ⟨ks[m]'(by omega), by simp⟩
      obtain ⟨c0, hk64⟩ := HI.out m k hk
      have e := shr_bit v k
      have kw : IntKind.u64.wrap (k : Int) = (k : Int) := IntWalk.u64_in _ ⟨by omega, by omega⟩
      have hd : ks.drop m = k :: ks.drop (m + 1) := by
        rw [List.drop_eq_getElem_cons (by omega)]
        congr 1
        rw [List.getElem?_eq_getElem (by omega)] at hk
        exact Option.some.inj hk
      rw [hd] at ht
      unfold topB at ht
      generalize v.getLsbD k = q at *
      cases q
      · rw [if_neg (by simp)] at ht e
        have HT := Lib.hid ht
        clear ht hd
        go_wp2
        go_round
        case rel => exact ⟨m + 1, by omega, by go_num, HT.out⟩
        case measure => simp [intOf]; omega
      · rw [if_pos rfl] at ht e
        subst ht
        clear hd
        go_wp2
        go_ret
        exact ⟨rfl, rfl⟩
    · have e0 : ks.drop m = [] := List.drop_eq_nil_of_le (by omega)
      rw [e0] at ht
      have hr1 : r = -1 := ht.symm
      subst hr1
      clear e0 ht
      go_wp2
      go_ret
      exact ⟨rfl, rfl⟩
end Go.Proofs.Ytalcldghpmeeaaa
