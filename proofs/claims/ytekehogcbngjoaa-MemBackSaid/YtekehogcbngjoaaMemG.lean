/- The walk of MemLays. -/
import Derived.Test.YtekehogcbngjoaaMemF
namespace Go.Proofs.Ytekehogcbngjoaa
open Go.RowKit Go.BigFrame
set_option linter.unusedSimpArgs false
set_option linter.unusedVariables false

theorem U_of (x : Nat) (h : x < 18446744073709551616) : U (BitVec.ofNat 64 x) = .int .u64 (x : Int) := by
  unfold U; rw [BitVec.toNat_ofNat, Nat.mod_eq_of_lt h]
theorem ofNat_toNat (x : Nat) (h : x < 18446744073709551616) : (BitVec.ofNat 64 x).toNat = x := by rw [BitVec.toNat_ofNat, Nat.mod_eq_of_lt h]
theorem u16_open {a : Int} (h : (Lit.int .u16 a).wf = true) : ∃ x : Nat, a = (x : Int) ∧ x < 65536 := by
  have h2 := h
  simp [Lit.wf, IntKind.min, IntKind.max, IntKind.signed, IntKind.bits] at h2
  exact ⟨a.toNat, by omega, by omega⟩
theorem lay_back (x : Nat) (s : ByteArray) (hx : x < 65536) (hf : layFits (BitVec.ofNat 64 x) s = true) (k : Nat) (hk : k < s.size) :
    codeOf (BitVec.ofNat 64 (x + k)) 1 = 0 ∧ rdF (layF (fun _ => 0) (BitVec.ofNat 64 x) s) (BitVec.ofNat 64 (x + k)) 1 = BitVec.ofNat 64 (s[k]).toNat := by
  have h := of_decide_eq_true hf
  rw [ofNat_toNat x (by omega)] at h
  have hc : codeOf (BitVec.ofNat 64 (x + k)) 1 = 0 := by
    unfold codeOf; rw [ofNat_toNat _ (by omega), if_neg (by omega), if_neg (by omega)]
  refine ⟨hc, ?_⟩
  unfold rdF layF
  rw [if_pos hc, if_pos hf, ofNat_toNat _ (by omega), ofNat_toNat _ (by omega)]
  unfold readF
  have hz : ∀ j : Nat, 1 ≤ j → j < 8 → (if (j : Int) < 1 then BitVec.ofNat 64 (putF (fun _ => 0) x s.data.toList (x + k + j)).toNat else 0#64) = 0#64 := fun j hj _ => if_neg (by omega)
  rw [join_more _ 1 8 hz (by omega)]
  simp only [joinB]
  have e : putF (fun _ => 0) x s.data.toList (x + k + 0) = s[k] := by
    unfold putF
    rw [if_pos (by have : s.data.toList.length = s.size := rfl; omega), List.getD_eq_getElem?_getD, show x + k + 0 - x = k by omega, List.getElem?_eq_getElem (by exact hk)]
    rfl
  rw [e]
  simp
set_option maxHeartbeats 1000000 in
set_option maxRecDepth 100000 in
theorem walkMemLays (a0 : Int) (s : ByteArray) (w0 : (Lit.int .u16 a0).wf = true) (w1 : s.size ≤ maxLen) (w : World) :
    Calls Try.prog 9 #[.int .u16 a0, .string s] w fun e w' => e = .returned (.bool true) ∧ Below w.heap.size w w' := by
  obtain ⟨x, rfl, hx⟩ := u16_open w0
  have HB := Below.refl w.heap.size w
  unfold maxLen at w1
  by_cases h300 : s.size ≤ 300
  · have hx2 : (x : Int) < 65536 := by omega
    by_cases hf : layFits (BitVec.ofNat 64 x) s = true
    · have h := of_decide_eq_true hf
      rw [ofNat_toNat x (by omega)] at h
      have h1 : (x : Int) ≤ 32768 := by omega
      have h2 : (s.size : Int) ≤ 32768 - (x : Int) := by omega
      have BACK := Lib.hid (fun k hk => lay_back x s hx hf k hk)
      have HF := Lib.hid hf
      have H12 := Lib.hid (And.intro h1 h2)
      have HU := Lib.hid (U_of x (by omega))
      have d0 : IntKind.u64.wrap (x : Int) = (x : Int) := IntWalk.u64_in _ ⟨by omega, by omega⟩
      have d1 : decide ((x : Int) ≤ 32768) = true := decide_eq_true h1
      have d2 : decide ((s.size : Int) ≤ 32768 - (x : Int)) = true := decide_eq_true h2
      have d3 : IntKind.u64.wrap (32768 - (x : Int)) = 32768 - (x : Int) := IntWalk.u64_in _ ⟨by omega, by omega⟩
      clear h hf hx w0 h1 h2 hx2 w1
      go_enter Try.func9, Try.ntmps9
      go_wp2_with fail
      refine (known6_b.on HB).mono ?_
      rintro e w1 ⟨rfl, HB1⟩
      replace HB := HB1
      clear HB1
      go_wp2_with fail
      refine (new_all _).mono ?_
      rintro e w2 ⟨p, g, rfl, hp, hg, hpl, hgl, M1, hb⟩
      have hg2 : w.heap.size ≤ g := Nat.le_trans HB.size hg
      replace HB := HBstep HB hb
      clear hb hg hp
      go_wp2_with fail
      have key := lay_all (BitVec.ofNat 64 x) s w2 M1 (by unfold maxLen; omega)
      rw [HU.out, if_pos HF.out] at key
      (with_reducible refine key.mono ?_)
      clear key
      rintro e w3 ⟨rfl, hu, M2⟩
      replace HB := Upd.below HB hu HB.size hg2
      clear M1 hu hpl hgl
      go_wp2_with fail
      go_loopw [9] (fun i wr => ∃ k : Nat, k ≤ s.size ∧ i = .int .i64 k ∧ IsMem wr p g 66 (layF (fun _ => 0) (BitVec.ofNat 64 x) s) ∧ Below w.heap.size w wr) (fun i _ => s.size - (intOf i).toNat)
      case atStart => exact ⟨0, by omega, rfl, M2, HB⟩
      case round =>
        clear M2 HB
        obtain ⟨k, hk, rfl, M, HB⟩ := hrel
        by_cases hks : k < s.size
        · obtain ⟨hc, hv⟩ := BACK.out k hks
          have d4 : IntKind.u64.wrap ((x : Int) + (k : Int)) = (x : Int) + (k : Int) := IntWalk.u64_in _ ⟨by omega, by have := H12.out; omega⟩
          have HK := Lib.hid (U_of (x + k) (by have := H12.out; omega))
          have hb8 : ((s[k].toNat : Nat) : Int) < 256 := by have := s[k].toNat_lt; omega
          go_wp2_with fail
          have key := read_all (BitVec.ofNat 64 (x + k)) 1 wr M
          rw [HK.out, hv, hc, U_of _ (by omega), show ((x + k : Nat) : Int) = (x : Int) + (k : Int) by omega] at key
          (with_reducible refine key.mono ?_)
          clear key hv hc
          rintro e w4 ⟨rfl, hb⟩
          have M3 := M.below hb
          replace HB := HBstep HB hb
          clear M hb
          go_wp2
          go_roundw
          case rel => exact ⟨k + 1, by omega, by go_num, M3, HB⟩
          case measure => simp [intOf]; omega
        · go_wp2
          go_ret
          exact ⟨rfl, HB⟩
    · have h := of_decide_eq_false (show layFits (BitVec.ofNat 64 x) s = false by simpa using hf)
      rw [ofNat_toNat x (by omega)] at h
      have HF := Lib.hid (show layFits (BitVec.ofNat 64 x) s = false by simpa using hf)
      have HU := Lib.hid (U_of x (by omega))
      have d0 : IntKind.u64.wrap (x : Int) = (x : Int) := IntWalk.u64_in _ ⟨by omega, by omega⟩
      clear hf hx w0 w1
      by_cases h1 : (x : Int) ≤ 32768
      · have d1 : decide ((x : Int) ≤ 32768) = true := decide_eq_true h1
        have d2 : decide ((s.size : Int) ≤ 32768 - (x : Int)) = false := decide_eq_false (by omega)
        have d3 : IntKind.u64.wrap (32768 - (x : Int)) = 32768 - (x : Int) := IntWalk.u64_in _ ⟨by omega, by omega⟩
        clear h h1 hx2
        go_enter Try.func9, Try.ntmps9
        go_wp2_with fail
        refine (known6_b.on HB).mono ?_
        rintro e w1 ⟨rfl, HB1⟩
        replace HB := HB1
        clear HB1
        go_wp2_with fail
        refine (new_all _).mono ?_
        rintro e w2 ⟨p, g, rfl, hp, hg, hpl, hgl, M1, hb⟩
        have hg2 : w.heap.size ≤ g := Nat.le_trans HB.size hg
        replace HB := HBstep HB hb
        clear hb hg hp
        go_wp2_with fail
        have key := lay_all (BitVec.ofNat 64 x) s w2 M1 (by unfold maxLen; omega)
        rw [HU.out, if_neg (by rw [HF.out]; exact Bool.false_ne_true), show layF (fun _ => 0) (BitVec.ofNat 64 x) s = fun _ => 0 by unfold layF; rw [HF.out]; rfl] at key
        (with_reducible refine key.mono ?_)
        clear key
        rintro e w3 ⟨rfl, hu, M2⟩
        replace HB := Upd.below HB hu HB.size hg2
        clear M1 hu hpl hgl
        go_wp2_with fail
        have key := same_nil w3 M2
        rw [same_true] at key
        (with_reducible refine key.mono ?_)
        clear key
        rintro e w4 ⟨rfl, hb⟩
        replace HB := HBstep HB hb
        go_wp2_with fail
        go_ret
        exact ⟨rfl, HB⟩
      · have d1 : decide ((x : Int) ≤ 32768) = false := decide_eq_false h1
        clear h h1 hx2
        go_enter Try.func9, Try.ntmps9
        go_wp2_with fail
        refine (known6_b.on HB).mono ?_
        rintro e w1 ⟨rfl, HB1⟩
        replace HB := HB1
        clear HB1
        go_wp2_with fail
        refine (new_all _).mono ?_
        rintro e w2 ⟨p, g, rfl, hp, hg, hpl, hgl, M1, hb⟩
        have hg2 : w.heap.size ≤ g := Nat.le_trans HB.size hg
        replace HB := HBstep HB hb
        clear hb hg hp
        go_wp2_with fail
        have key := lay_all (BitVec.ofNat 64 x) s w2 M1 (by unfold maxLen; omega)
        rw [HU.out, if_neg (by rw [HF.out]; exact Bool.false_ne_true), show layF (fun _ => 0) (BitVec.ofNat 64 x) s = fun _ => 0 by unfold layF; rw [HF.out]; rfl] at key
        (with_reducible refine key.mono ?_)
        clear key
        rintro e w3 ⟨rfl, hu, M2⟩
        replace HB := Upd.below HB hu HB.size hg2
        clear M1 hu hpl hgl
        go_wp2_with fail
        have key := same_nil w3 M2
        rw [same_true] at key
        (with_reducible refine key.mono ?_)
        clear key
        rintro e w4 ⟨rfl, hb⟩
        replace HB := HBstep HB hb
        go_wp2_with fail
        go_ret
        exact ⟨rfl, HB⟩
  · go_enter Try.func9, Try.ntmps9
    go_wp2_with (go_at_call 28; refine (known6_b.on HB).mono ?_; clear HB; rintro e w' ⟨rfl, HB⟩)
    go_ret
    exact ⟨rfl, HB⟩
end Go.Proofs.Ytekehogcbngjoaa
