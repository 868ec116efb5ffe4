/- The walk of BusPorts. -/
import Derived.Test.YtkjbhjmjfacjcaaPorts
namespace Go.Proofs.Ytkjbhjmjfacjcaa
open Go.RowKit Go.BigFrame
set_option linter.unusedSimpArgs false
set_option linter.unusedVariables false
set_option maxRecDepth 100000

theorem idx_run (s : ByteArray) (m : Nat) (x : UInt8) (h : s.data.toList[m]? = some x) (W : World) : (Instr.index 9 (.string s) (.int .i64 (m : Int))).run Try.prog W = .ok (.int .u8 (x.toNat : Int)) W := by
  obtain ⟨hm, hx⟩ := List.getElem?_eq_some_iff.1 h
  have hm2 : m < s.size := hm
  rw [run_index_string (P := Try.prog) W 9 s .i64 (m : Int) Try.underlying9, dif_pos ⟨by omega, by omega⟩]
  congr 2
  rw [← hx]
  rfl
set_option maxHeartbeats 4000000 in
theorem ports1 (s o : ByteArray) (y p : Nat) (w : World) (hs : s.size ≤ 100) (ho : o.size ≤ 100) (hp : p < 4) (ey : (y : Int) % 4 = (p : Int)) :
    Calls Try.prog 8 #[.string s, .string o, .int .u8 (y : Int)] w fun e w' => e = .returned (.bool true) ∧ Below w.heap.size w w' := by
  have g1 : IntKind.u64.wrap (61696 + 256 * (p : Int)) = 61696 + 256 * (p : Int) := IntWalk.u64_in _ ⟨by omega, by omega⟩
  have g2 : IntKind.u64.wrap (61696 + 256 * (p : Int) + 1) = 61696 + 256 * (p : Int) + 1 := IntWalk.u64_in _ ⟨by omega, by omega⟩
  have UA := Lib.hid (show U (atP p) = .int .u64 (61696 + 256 * (p : Int)) by show Value.int _ _ = _; rw [atP_nat p hp]; congr 1)
  have UB := Lib.hid (show U (BitVec.ofNat 64 (61696 + 256 * p + 1)) = .int .u64 (61696 + 256 * (p : Int) + 1) by rw [U_of _ (by omega)]; congr 1)
  have X2 := Lib.hid (show conOf (atP p) 2 = none by unfold conOf; rw [if_neg (by omega)])
  have X3 := Lib.hid (show conOf (BitVec.ofNat 64 (61696 + 256 * p + 1)) 1 = none by unfold conOf; rw [ofNat_toNat _ (by omega), if_neg (by omega)])
  have O2 := Lib.hid (show (codeOf (atP p) 2 == 0) = false by unfold codeOf; rw [atP_nat p hp, if_neg (by omega), if_pos (by omega)]; rfl)
  have O3 := Lib.hid (show (codeOf (BitVec.ofNat 64 (61696 + 256 * p + 1)) 1 == 0) = false by unfold codeOf; rw [ofNat_toNat _ (by omega), if_neg (by omega), if_pos (by omega)]; rfl)
  obtain ⟨L, hL⟩ : ∃ L, L = s.data.toList.take 64 := ⟨_, rfl⟩
  have hsl : s.data.toList.length = s.size := rfl
  have hol : o.data.toList.length = o.size := rfl
  obtain ⟨T, hT⟩ : ∃ T : ByteArray, T = ⟨(tail64 o.data.toList o.size).toArray⟩ := ⟨_, rfl⟩
  have mx := fun W => max_run (P := Try.prog) #[3, 3] 3 .i64 0 ((o.size : Int) - 64) ((o.size - 64 : Nat) : Int) (by split <;> omega) W
  have nw : IntKind.i64.wrap ((o.size : Int) - 64) = (o.size : Int) - 64 := IntWalk.i64_in _ ⟨by omega, by omega⟩
  have sl : ∀ W, (Instr.slice 9 (.string o) (some (.int .i64 ((o.size - 64 : Nat) : Int))) none none).run Try.prog W = .ok (.string T) W := fun W => by
    rw [run_slice_string_l (P := Try.prog) W 9 o Try.underlying9 .i64 ((o.size - 64 : Nat) : Int) (by omega) (by omega), hT]
    congr 2
    unfold tail64
    rw [show o.data.toList.take o.size = o.data.toList from List.take_of_length_le (by omega)]
    apply ByteArray.ext
    apply Array.toList_inj.1
    simp
    exact List.take_of_length_le (by rw [List.length_drop]; omega)
  have HT := Lib.hid hT
  have HL := Lib.hid hL
  clear hT hL
  go_enter Try.func8, Try.ntmps8
  go_wp2_with fail
  (with_reducible refine (known7_b.run _).mono ?_)
  rintro e w1 ⟨rfl, HB0⟩
  go_wp2_with fail
  refine (bnew_nil _).mono ?_
  rintro e w2 ⟨b, rfl, hb0, H, HB⟩
  go_wp2_with fail
  have key := pb_type w2 w1.heap.size b p _ s hp HB.size (by omega) H
  (with_reducible refine key.mono ?_)
  clear key H
  rintro e w3 ⟨rfl, hb, H⟩
  replace HB := HB.trans hb
  rw [← HL.out] at H
  clear hb
  go_wp2_with fail
  go_loopw [10, 11, 12, 13] (fun i _ _ _ wr => ∃ m : Nat, m ≤ s.size + 1 ∧ i = .int .i64 m ∧ Below w1.heap.size w1 wr ∧ PB wr w1.heap.size b p (L.drop m) []) (fun i _ _ _ _ => s.size + 1 - (intOf i).toNat)
  case atStart => exact ⟨0, by omega, rfl, HB, H⟩
  case round =>
    clear HB H
    obtain ⟨m, hm, rfl, HB, H⟩ := hrel
    by_cases hms : m ≤ s.size
    · by_cases h64 : m < s.size ∧ m < 64
      · obtain ⟨h1, h2⟩ := h64
        have hx : s.data.toList[m]? = some (s.data.toList[m]'(by omega)) := List.getElem?_eq_getElem _
        generalize s.data.toList[m]'(by omega) = x at hx
        have ix := idx_run s m x hx
        have hd : L.drop m = x :: L.drop (m + 1) := by
          have e : L[m]? = some x := by rw [HL.out, List.getElem?_take, if_pos h2, hx]
          obtain ⟨q1, q2⟩ := List.getElem?_eq_some_iff.1 e
          rw [List.drop_eq_getElem_cons q1, q2]
        have xw : IntKind.u64.wrap (x.toNat : Int) = (x.toNat : Int) := IntWalk.u64_in _ ⟨by omega, by have := x.toNat_lt; omega⟩
        rw [hd] at H
        clear hd hx
        go_wp2_with fail
        have key := pb_read _ w1.heap.size b p x _ _ hp H
        rw [UA.out] at key
        (with_reducible refine key.mono ?_)
        clear key H
        rintro e w4 ⟨rfl, hu, H⟩
        replace HB := Upd.below HB hu HB.size hb0
        clear hu
        go_wp2
        go_roundw
        case rel => exact ⟨m + 1, by omega, by go_num, HB, H⟩
        case measure => simp [intOf]; omega
      · have hd : L.drop m = [] := List.drop_eq_nil_of_le (by rw [HL.out, List.length_take]; omega)
        have hd2 : L.drop (m + 1) = [] := List.drop_eq_nil_of_le (by rw [HL.out, List.length_take]; omega)
        rw [hd] at H
        clear hd
        have HD := Lib.hid hd2
        clear hd2
        by_cases h1 : m < s.size
        · have h2 : ¬ m < 64 := fun h => h64 ⟨h1, h⟩
          clear h64
          go_wp2_with fail
          have key := pb_read0 _ w1.heap.size b p _ hp H
          rw [UA.out] at key
          (with_reducible refine key.mono ?_)
          clear key
          rintro e w4 ⟨rfl, hw⟩
          subst hw
          go_wp2
          go_roundw
          case rel => exact ⟨m + 1, by omega, by go_num, HB, by rw [HD.out]; exact H⟩
          case measure => simp [intOf]; omega
        · clear h64
          go_wp2_with fail
          have key := pb_read0 _ w1.heap.size b p _ hp H
          rw [UA.out] at key
          (with_reducible refine key.mono ?_)
          clear key
          rintro e w4 ⟨rfl, hw⟩
          subst hw
          go_wp2
          go_roundw
          case rel => exact ⟨m + 1, by omega, by go_num, HB, by rw [HD.out]; exact H⟩
          case measure => simp [intOf]; omega
    · generalize L.drop m = LI at *
      go_wp2_with fail
      go_loopw [14] (fun i wr => ∃ m : Nat, m ≤ o.size ∧ i = .int .i64 m ∧ Below w1.heap.size w1 wr ∧ PB wr w1.heap.size b p LI (tail64 o.data.toList m)) (fun i _ => o.size - (intOf i).toNat)
      case atStart => exact ⟨0, by omega, rfl, HB, by rw [tail64_zero]; exact H⟩
      case round =>
        clear HB H
        obtain ⟨m, hm, rfl, HB, H⟩ := hrel
        by_cases hmo : m < o.size
        · have hx : o.data.toList[m]? = some (o.data.toList[m]'(by omega)) := List.getElem?_eq_getElem _
          generalize o.data.toList[m]'(by omega) = x at hx
          have ix := idx_run o m x hx
          have hxl := x.toNat_lt
          have xw : IntKind.u64.wrap (x.toNat : Int) = (x.toNat : Int) := IntWalk.u64_in _ ⟨by omega, by omega⟩
          have st := tail64_step o.data.toList m x hx
          have hl := tail64_len o.data.toList m (by omega)
          have xn : UInt8.ofNat (BitVec.ofNat 64 x.toNat).toNat = x := by rw [ofNat_toNat _ (by omega)]; simp
          have ST := Lib.hid st
          have XN := Lib.hid xn
          have UX := Lib.hid (U_of x.toNat (by omega))
          have HLN := Lib.hid hl
          clear st xn hx hl hxl
          go_wp2_with fail
          have key := pb_write _ w1.heap.size b p (BitVec.ofNat 64 x.toNat) LI _ hp HB.size HLN.out H
          rw [UA.out, UX.out, XN.out, ST.out] at key
          (with_reducible refine key.mono ?_)
          clear key H
          rintro e w4 ⟨rfl, hb, H⟩
          replace HB := HB.trans hb
          clear hb
          go_wp2
          go_roundw
          case rel => exact ⟨m + 1, by omega, by go_num, HB, H⟩
          case measure => simp [intOf]; omega
        · obtain rfl : m = o.size := by omega
          go_wp2_with fail
          go_loopw [15, 16] (fun i _ wr => ∃ m : Nat, m ≤ 4 ∧ i = .int .i64 m ∧ Below w1.heap.size w1 wr ∧ PB wr w1.heap.size b p LI (tail64 o.data.toList o.size)) (fun i _ _ => 4 - (intOf i).toNat)
          case atStart => exact ⟨0, by omega, rfl, HB, H⟩
          case round =>
            clear HB H
            obtain ⟨m, hm, rfl, HB, H⟩ := hrel
            by_cases hm4 : m < 4
            · by_cases hmp : m = p
              · subst hmp
                go_wp2_with fail
                have key := pb_output _ w1.heap.size b m m LI _ hm4 H
                rw [if_pos rfl, ← HT.out] at key
                (with_reducible refine key.mono ?_)
                clear key
                rintro e w4 ⟨rfl, hw⟩
                subst hw
                go_wp2
                go_roundw
                case rel => exact ⟨m + 1, by omega, by go_num, HB, H⟩
                case measure => simp [intOf]; omega
              · have hne : ((m : Int) == (p : Int)) = false := by rw [beq_eq_false_iff_ne]; omega
                have HN := Lib.hid hmp
                clear hmp
                go_wp2_with fail
                have key := pb_output _ w1.heap.size b p m LI _ hm4 H
                rw [if_neg HN.out] at key
                (with_reducible refine key.mono ?_)
                clear key
                rintro e w4 ⟨rfl, hw⟩
                subst hw
                go_wp2
                go_roundw
                case rel => exact ⟨m + 1, by omega, by go_num, HB, H⟩
                case measure => simp [intOf]; omega
            · obtain rfl : m = 4 := by omega
              go_wp2_with fail
              obtain ⟨v1, key⟩ := pb_bad _ w1.heap.size b p (atP p) 2 LI _ H X2.out (by decide) O2.out
              rw [UA.out] at key
              (with_reducible refine key.mono ?_)
              clear key
              rintro e w4 ⟨rfl, hb⟩
              replace HB := HBstep HB hb
              replace H := H.below hb
              clear hb
              go_wp2_with fail
              obtain ⟨v2, key⟩ := pb_bad _ w1.heap.size b p (BitVec.ofNat 64 (61696 + 256 * p + 1)) 1 LI _ H X3.out (by decide) O3.out
              rw [UB.out] at key
              (with_reducible refine key.mono ?_)
              clear key
              rintro e w5 ⟨rfl, hb⟩
              replace HB := HBstep HB hb
              replace H := H.below hb
              clear hb
              go_wp2_with fail
              have key : Calls Try.prog 28 #[.pointer (some ⟨b, 0, none⟩), U (BitVec.ofNat 64 (61696 + 256 * p + 1)), .int .i64 1, .int .u64 0] w5 _ := pb_badw w5 w1.heap.size b p (BitVec.ofNat 64 (61696 + 256 * p + 1)) 0#64 1 LI _ HB.size H X3.out (by decide) O3.out
              rw [UB.out] at key
              (with_reducible refine key.mono ?_)
              clear key
              rintro e w6 ⟨rfl, hb⟩
              replace HB := HB.trans hb
              clear hb
              go_wp2
              go_ret
              exact ⟨rfl, HB0.trans (HB.mono HB0.size)⟩
set_option maxHeartbeats 1000000 in
theorem ports_long (s o : ByteArray) (y : Int) (w : World) (h : 100 < s.size ∨ s.size ≤ 100 ∧ 100 < o.size) :
    Calls Try.prog 8 #[.string s, .string o, .int .u8 y] w fun e w' => e = .returned (.bool true) ∧ Below w.heap.size w w' := by
  rcases h with h | ⟨h1, h⟩
  all_goals (
    go_enter Try.func8, Try.ntmps8
    go_wp2_with fail
    (with_reducible refine (known7_b.run _).mono ?_)
    rintro e w1 ⟨rfl, HB0⟩
    go_wp2
    go_ret
    exact ⟨rfl, HB0⟩)
theorem walkBusPorts (a0 a1 : ByteArray) (a2 : Int) (h0 : a0.size ≤ maxLen) (h1 : a1.size ≤ maxLen) (h2 : (Lit.int .u8 a2).wf = true) (w : World) :
    Calls Try.prog 8 #[.string a0, .string a1, .int .u8 a2] w fun e w' => e = .returned (.bool true) ∧ Below w.heap.size w w' := by
  by_cases c : 100 < a0.size
  · exact ports_long a0 a1 a2 w (.inl c)
  by_cases d : 100 < a1.size
  · exact ports_long a0 a1 a2 w (.inr ⟨by omega, d⟩)
  obtain ⟨y, rfl, hy⟩ := u8_open h2
  exact ports1 a0 a1 y (y % 4) w (by omega) (by omega) (by omega) (by omega)
end Go.Proofs.Ytkjbhjmjfacjcaa
