/- Part 1 of the texts behind the law: contracts and lemmas, each proved; no condition but what each names. -/

import Derived.Test.YtfehilinnalflaaGreatQ01
import Derived.Test.YtfehilinnalflaaGreatQ02
import Derived.Test.YtfehilinnalflaaGreatQ03
import Derived.Test.YtfehilinnalflaaGreatQ04
import Derived.Test.YtfehilinnalflaaGreatQ05
import Derived.Test.YtfehilinnalflaaGreatQ06
import Derived.Test.YtfehilinnalflaaGreatQ07
import Derived.Test.YtfehilinnalflaaGreatQ08
import Derived.Test.YtfehilinnalflaaGreatQ09
import Derived.Test.YtfehilinnalflaaGreatQ10
import Derived.Test.YtfehilinnalflaaGreatQ11
import Derived.Test.YtfehilinnalflaaGreatQ12
import Derived.Test.YtfehilinnalflaaGreatQ13
import Derived.Test.YtfehilinnalflaaGreatQ14
import Derived.Test.YtfehilinnalflaaGreatQ15
import Derived.Test.YtfehilinnalflaaGreatQ16
import Derived.Test.YtfehilinnalflaaGreatQ17
import Derived.Test.YtfehilinnalflaaGreatQ18
import Derived.Test.YtfehilinnalflaaGreatQ19
import Derived.Test.YtfehilinnalflaaGreatQ20
namespace Go.Proofs.YtfehilinnalflaaGreat
open Go.RowKit
set_option linter.unusedSimpArgs false
set_option linter.unusedVariables false
set_option maxRecDepth 100000
theorem byte_bit {x : BitVec 64} (h : x.toNat < 256) (j : Nat) (hj : 8 ≤ j) : x.getLsbD j = false := by
  rw [← BitVec.testBit_toNat]
  exact Nat.testBit_lt_two_pow (Nat.lt_of_lt_of_le h (by have : 2 ^ 8 ≤ 2 ^ j := Nat.pow_le_pow_right (by omega) hj; omega))
theorem join_bit (f : Nat → BitVec 64) (hf : ∀ k, (f k).toNat < 256) (m i : Nat) (hi : i < 64) : (joinB f m).getLsbD i = (decide (i / 8 < m) && (f (i / 8)).getLsbD (i % 8)) := by
  induction m with
  | zero => simp [joinB]
  | succ m ih =>
    rw [joinB, BitVec.getLsbD_or, ih, BitVec.getLsbD_shiftLeft]
    by_cases c1 : i / 8 < m
    · have c2 : i < 8 * m := by omega
      simp [c1, c2, hi, show i / 8 < m + 1 by omega]
    · by_cases c3 : i / 8 = m
      · subst c3
        simp [hi, show ¬ i < 8 * (i / 8) by omega, show i - 8 * (i / 8) = i % 8 by omega]
      · have c4 : ¬ i / 8 < m + 1 := by omega
        simp [c1, c4, byte_bit (hf m) (i - 8 * m) (by omega)]
end Go.Proofs.YtfehilinnalflaaGreat
namespace Go.Proofs.YtfehilinnalflaaGreat
open Go.RowKit Go.BigFrame
set_option linter.unusedSimpArgs false
set_option linter.unusedVariables false
set_option maxRecDepth 100000
theorem byte_lt (b : UInt8) : (BitVec.ofNat 64 b.toNat).toNat < 256 := by rw [BitVec.toNat_ofNat]; have := b.toNat_lt; omega
end Go.Proofs.YtfehilinnalflaaGreat
namespace Go.Proofs.YtfehilinnalflaaGreat
open Go.RowKit
set_option linter.unusedSimpArgs false
theorem byteU_bit (v : BitVec 64) (k j : Nat) : (BitVec.ofNat 64 (byteU v k).toNat).getLsbD j = (v.getLsbD (8 * k + j) && decide (j < 8)) := by
  have e : (byteU v k).toNat = (v >>> (8 * k)).toNat % 256 := by
    unfold byteU
    rw [UInt8.toNat_ofNat', BitVec.toNat_ushiftRight, Nat.shiftRight_eq_div_pow, show (256 : Nat) = 2 ^ 8 from rfl, ← Nat.pow_mul]
  rw [e, BitVec.getLsbD_ofNat, show (256 : Nat) = 2 ^ 8 from rfl, Nat.testBit_mod_two_pow, BitVec.testBit_toNat, BitVec.getLsbD_ushiftRight]
  by_cases c : j < 8
  · simp [c, show j < 64 by omega]
  · simp [c]
end Go.Proofs.YtfehilinnalflaaGreat
namespace Go.Proofs.YtfehilinnalflaaGreat
open Go.RowKit Go.BigFrame
set_option linter.unusedSimpArgs false
set_option linter.unusedVariables false
set_option maxRecDepth 100000
theorem readF_bit (f : Nat → UInt8) (a n j : Nat) (hj : j < 64) : (readF f a n).getLsbD j = (decide (j / 8 < n) && (BitVec.ofNat 64 (f (a + j / 8)).toNat).getLsbD (j % 8)) := by
  unfold readF
  rw [join_bit _ (fun k => by split; exact byte_lt _; simp) 8 j hj]
  by_cases c : j / 8 < n
  · rw [if_pos (by omega)]; simp [c, show j / 8 < 8 by omega]
  · rw [if_neg (by omega)]; simp [c]
theorem bytesL_get (v : BitVec 64) (n k : Nat) (h : k < n) (hn : n ≤ 8) : (bytesL v n).getD k 0 = byteU v k := by
  unfold bytesL
  rw [List.getD_eq_getElem?_getD, List.getElem?_take, if_pos h, List.getElem?_map, List.getElem?_range (by omega)]; rfl
theorem putF_in (f : Nat → UInt8) (v : BitVec 64) (a n k : Nat) (h : k < n) (hn : n ≤ 8) : putF f a (bytesL v n) (a + k) = byteU v k := by
  unfold putF
  rw [bytesL_length v n hn, if_pos (by omega), show a + k - a = k by omega, bytesL_get v n k h hn]
end Go.Proofs.YtfehilinnalflaaGreat
namespace Go.Proofs.YtfehilinnalflaaGreat
open Go.RowKit Go.BigFrame
set_option linter.unusedSimpArgs false
set_option linter.unusedVariables false
set_option maxRecDepth 100000
theorem flat12_back : ∀ (l : List RetV) (i : Nat) (v : Value), (l.flatMap retL)[i]? = some v → ∃ k x j, i = k * 12 + j ∧ l[k]? = some x ∧ (retL x)[j]? = some v := by
  intro l i v h
  have hi := (List.getElem?_eq_some_iff.1 h).1
  rw [flat12_len] at hi
  have hk : i / 12 < l.length := by omega
  refine ⟨i / 12, l[i / 12], i % 12, by omega, List.getElem?_eq_getElem hk, ?_⟩
  have hv : ∃ u, (retL l[i / 12])[i % 12]? = some u := ⟨_, List.getElem?_eq_getElem (by rw [retL_len]; omega)⟩
  obtain ⟨u, hu⟩ := hv
  have := flat12 l _ _ (List.getElem?_eq_getElem hk) _ u hu
  rw [show i / 12 * 12 + i % 12 = i by omega, h] at this
  rw [hu, this]
theorem retL_one (x : RetV) : ∀ v ∈ retL x, v.oneCell' = true := by
  intro v hv
  simp only [retL, List.mem_cons, List.not_mem_nil, or_false] at hv
  rcases hv with h | h | h | h | h | h | h | h | h | h | h | h <;> subst h <;> rfl
theorem infoRt : (Tryz.prog.info? 47).map (fun i => (i.zero.map fun z => z.cells.size, i.size, decide (i.bytes ≤ 1024))) = some (some 12, 12, true) := by kernel_rfl
theorem ret_info : ∃ i z, Tryz.prog.info? 47 = some i ∧ i.zero = some z ∧ z.cells.size = 12 ∧ i.size = 12 ∧ i.bytes ≤ 1024 := by
  have h := infoRt
  cases hi : Tryz.prog.info? 47 with
  | none => rw [hi] at h; cases h
  | some i =>
    rw [hi] at h
    simp only [Option.map_some, Option.some.injEq, Prod.mk.injEq, decide_eq_true_eq] at h
    obtain ⟨h1, h2, h3⟩ := h
    cases hz : i.zero with
    | none => rw [hz] at h1; cases h1
    | some z => rw [hz] at h1; exact ⟨i, z, rfl, hz, by simpa using h1, h2, h3⟩
theorem rets_app {w : World} {B : Nat} {G : Nat → Prop} {v : Value} {l : List RetV} (h : Rets w B G v l) (h4 : l.length < 1000) {k1 : Nat} {x : RetV} (hk1 : w.heap[k1]? = some (.cells (retL x).toArray 47 (0, 0))) (hB : B ≤ w.heap.size) (hG : ∀ b, G b → b < w.heap.size) (ty : TypeId) :
    ∃ v' w', (Builtin.append_ #[42, 42] ty #[v, .slice (some ⟨k1, 0, none⟩) 1 1]).run Tryz.prog w = .ok v' w' ∧ Rets w' B G v' (l ++ [x]) ∧ Fr (fun b => B ≤ b ∧ ¬ G b) w w' := by
  obtain ⟨i, z, hi, hz, hzs, hsz, hby⟩ := ret_info
  have hsrc : Src Tryz.prog i.size 42 (.slice (some ⟨k1, 0, none⟩) 1 1) 1 (retL x) w := by
    rw [hsz]
    refine Src.ofSlice (P := Tryz.prog) w Tryz.underlying42 _ 1 1 (retL x) rfl (fun j u hj => ?_) (retL_one x)
    rw [add_at]
    simp [World.cell?, hk1, hj]
  have fresh : ∀ cs T, Below w.heap.size w (w.drew.alloc (.cells cs T)) := fun cs T => (Below.refl w.heap.size w).drew.alloc (Nat.le_refl _) _
  have newR : ∀ (a : Option Addr) (n c : Nat), l.length = n → c < n + 1 → (Builtin.firstCells i.size n (.slice a n c)).run Tryz.prog w.drew = .ok (l.flatMap retL).toArray w.drew →
      ∃ v' w', (Builtin.append_ #[42, 42] ty #[.slice a n c, .slice (some ⟨k1, 0, none⟩) 1 1]).run Tryz.prog w = .ok v' w' ∧ Rets w' B G v' (l ++ [x]) ∧ Fr (fun b => B ≤ b ∧ ¬ G b) w w' := by
    intro a n c hn hc hold
    have hrun := run_append_grow_src (P := Tryz.prog) w 42 42 ty 47 i z Tryz.underlying42 hi hz a n c _ hold _ 1 (retL x) hsrc hc (by omega) (growslice_fits hc (by have : (n + 1) * i.bytes ≤ (n + 1) * 1024 := Nat.mul_le_mul_left _ hby; omega))
    have hge := grownCap_ge w (n + 1) c 47
    have hR := RtAt.new w.drew l x z hzs (grownCap w (n + 1) c 47) (by rw [hn]; exact hge)
    rw [hn] at hR
    refine ⟨_, _, hrun, .inr ⟨w.heap.size, _, by simp [hn], hR, hB, fun hg => by have := hG _ hg; omega⟩, Fr.of_below (fresh _ _)⟩
  rcases h with ⟨rfl, rfl⟩ | ⟨L, c, rfl, h2, h3, h5⟩
  · exact newR none 0 0 rfl (by omega) (run_firstCells_none _ _ _ _ _)
  · by_cases hr : l.length < c
    · obtain ⟨q1, q3⟩ := h2.append hr x
      have hrun := run_append_room_src (P := Tryz.prog) w 42 42 ty 47 i Tryz.underlying42 hi L 0 l.length c _ 1 (retL x) hsrc (by omega)
        (fun j hj => by
          obtain ⟨arr, g1, g2, g3, g4⟩ := h2
          rw [retL_len] at hj
          have : l.length * i.size + j < arr.size := by rw [hsz]; omega
          simp only [World.cell?, g1, Option.bind_some]
          simp [this])
        (fun j hj => h2.free _)
      rw [hsz, Nat.zero_add] at hrun
      exact ⟨_, _, hrun, .inr ⟨L, c, by simp, q1, h3, h5⟩, Fr.of_upd q3 ⟨h3, h5⟩⟩
    · refine newR _ _ _ rfl (by omega) ?_
      refine run_firstCells_some _ _ _ _ _ _ _ (by rw [flat12_len, hsz]) fun j v hj => ?_
      obtain ⟨k, y, j', rfl, hk, hv⟩ := flat12_back l j v hj
      rw [add_at, Nat.zero_add]
      exact h2.cell hk hv
theorem rets_app0 {w : World} {B : Nat} {G : Nat → Prop} {v : Value} {l : List RetV} (h : Rets w B G v l) (ty : TypeId) :
    (Builtin.append_ #[42, 42] ty #[v, .slice none 0 0]).run Tryz.prog w = .ok v w := by
  obtain ⟨i, z, hi, hz, hzs, hsz, hby⟩ := ret_info
  have hsrc : Src Tryz.prog i.size 42 (.slice none 0 0) 0 [] w := Src.ofNil (P := Tryz.prog) w Tryz.underlying42 0
  rcases h with ⟨rfl, rfl⟩ | ⟨L, c, rfl, h2, h3, h5⟩
  · have ht := Tryz.underlying42
    simp [Builtin.append_, run_underlying ht, sizeOf, typeInfo, hi, hsrc.len, hsrc.cells]
  · have hl : l.length ≤ c := by obtain ⟨arr, g1, g2, g3, g4⟩ := h2; exact g3
    have hrun := run_append_room_src (P := Tryz.prog) w 42 42 ty 47 i Tryz.underlying42 hi L 0 l.length c _ 0 [] hsrc (by omega) (fun j hj => by cases hj) (fun j hj => by cases hj)
    exact hrun
end Go.Proofs.YtfehilinnalflaaGreat
namespace Go.Proofs.YtfehilinnalflaaGreat
open Go.RowKit Go.BigFrame
set_option linter.unusedSimpArgs false
set_option linter.unusedVariables false
set_option maxRecDepth 100000
theorem drive_plan {p : Plan} {N n : Nat} {line : Bool} (hp : PlanOk p N line) (k : Nat) (hk : n + k ≤ N) : Drive k line fun L V S => L = (List.range L.length).map (fun i => p.ret (n + i)) ∧ L.length ≤ k ∧ ∃ m, PInv p (n + L.length) m V S := by
  refine ⟨fun L V S ⟨_, _, m, h⟩ => mu_le h.sl h.nv, fun L V S late pick hL h0 h7 ⟨e, hk', m, h⟩ => ?_⟩
  rcases plan_cyc hp (by omega) h h0 h7 pick with ⟨V', S', m', hc, hI, hmu⟩ | ⟨_, hN⟩
  · exact .inl ⟨V', S', hc, ⟨e, hk', m', hI⟩, hmu⟩
  · obtain ⟨V', S', m', hc, hI⟩ := hN (by omega)
    refine .inr ⟨_, V', S', hc, ?_, by simp; omega, m', by simpa [Nat.add_assoc] using hI⟩
    rw [List.length_append, List.length_singleton, List.range_succ, List.map_append, ← e]
    rfl
set_option maxHeartbeats 1000000 in
theorem runs_w {k : Nat} {I : List RetV → PipV → HS → Prop} (hD : Drive k false I) (hk : k ≤ 1000) (lt : Nat) (hlt : lt ≤ 1000) {w : World} {G : Nat → Prop} {P : Nat} {V : PipV} {S : HS} (hP : Pip w G P V S) (hI : I [] V S) :
    Calls Tryz.prog 12 #[.pointer (some ⟨P, 0, none⟩), .int .i64 k, .int .i64 lt] w fun e w' => ∃ v L t, e = .returned v ∧ L.length = k ∧ RunI k false I w G P v t w' L := by
  have hR0 : RunI k false I w G P (.slice none 0 0) 0 w [] := ⟨by simp, V, S, G, hI, hP, Went.refl _ _, .inl ⟨rfl, rfl⟩, by have := hD.mle _ _ _ hI; simp; omega⟩
  have HR0 := Lib.hid hR0
  have HD := Lib.hid hD
  have HK := Lib.hid hk
  have HL := Lib.hid hlt
  clear hR0 hD hk hlt hP hI
  go_enter Tryz.func12, Tryz.ntmps12
  go_wp2_with fail
  go_loopw [7, 8] (fun v i wr => ∃ t : Nat, i = .int .i64 t ∧ ∃ L, RunI k false I w G P v t wr L) (fun _ i _ => 22 * k + 22 - (intOf i).toNat)
  case atStart => exact ⟨0, rfl, _, HR0.out⟩
  case round =>
    clear HR0
    obtain ⟨t, rfl, L, hR⟩ := hrel
    obtain ⟨V1, S1, G1, r1, r2, r3, r4, r5⟩ := hR.st
    obtain ⟨a, c, hv⟩ : ∃ a c, u7 = .slice a L.length c := by
      rcases r4 with ⟨h1, h2⟩ | ⟨L', c, h1, _⟩
      · exact ⟨_, _, by rw [h1, h2]; rfl⟩
      · exact ⟨_, _, h1⟩
    subst hv
    obtain ⟨nL, hnL⟩ : ∃ nL, nL = L.length := ⟨_, rfl⟩
    rw [← hnL] at r4 ⊢
    have hlk : nL ≤ k := by rw [hnL]; exact hR.len
    have hmu := HD.out.mle _ _ _ r1
    have htb : t + mu V1 ≤ 22 * nL + 21 := by rw [hnL]; exact r5
    have hw0 : wrap64 ((k : Int) * 512) = (k : Int) * 512 := w64_in _ (by have := HK.out; omega)
    have HNL := Lib.hid hnL
    have HR := Lib.hid hR
    have HI := Lib.hid r1
    have HP := Lib.hid r2
    have HWN := Lib.hid r3
    have HT := Lib.hid r4
    have HTB := Lib.hid htb
    have HMU := Lib.hid hmu
    clear hnL hR r1 r2 r3 r4 r5 htb hmu
    by_cases hlt2 : nL < k
    · have HLT := Lib.hid hlt2
      have hd1 : decide ((t : Int) < (k : Int) * 512) = true := decide_eq_true (by have := HTB.out; omega)
      have hd2 : decide (nL < k) = true := decide_eq_true hlt2
      have htl : t ≤ 30000 := by have := HTB.out; have := HK.out; omega
      obtain ⟨la, hla⟩ : ∃ la : Int, ((lt : Int) + (t : Int)) % 8 = la := ⟨_, rfl⟩
      have h07 : 0 ≤ la ∧ la ≤ 7 := by omega
      have hw1 : wrap64 ((lt : Int) + (t : Int)) = (lt : Int) + (t : Int) := w64_in _ (by have := HL.out; omega)
      have HW2 := Lib.hid (show Value.int .i64 (wrap64 ((t : Int) + 1)) = .int .i64 ((t + 1 : Nat) : Int) from by rw [w64_in _ (by omega)]; rfl)
      have HMS := Lib.hid (show 22 * k + 22 - (intOf (.int .i64 (wrap64 ((t : Int) + 1)))).toNat < 22 * k + 22 - (intOf (.int .i64 (t : Int))).toNat from by
        rw [w64_in _ (by omega)]
        exact Nat.sub_lt_sub_left (show t < 22 * k + 22 by have := HTB.out; omega) (Nat.lt_succ_self t))
      have H07 := Lib.hid h07
      have HTL := Lib.hid htl
      clear h07 hlk hlt2 htl
      go_wp2_with fail
      rcases HD.out.go L V1 S1 la t (by rw [← HNL.out]; exact HLT.out) H07.out.1 H07.out.2 HI.out with ⟨V2, S2, hc, hI2, hmu2⟩ | ⟨r, V2, S2, hc, hI2⟩
      · have key : Calls Tryz.prog 14 #[.pointer (some ⟨P, 0, none⟩), .agg #[.int .i64 la, .int .i64 (t : Int), .bool false]] wr _ := hc wr G1 P HP.out
        (with_reducible refine key.mono ?_)
        clear key
        rintro e w5 ⟨G2, ⟨v, rfl, hv⟩, P2, W2⟩
        have hv' : v = .slice none 0 0 := hv
        subst hv'
        have R2 := HT.out.keep W2
        have hap := rets_app0 R2 42
        have FIN := Lib.hid (show RunI k false I w G P (.slice a nL c) (t + 1) w5 L from ⟨by rw [← HNL.out]; have := HLT.out; omega, V2, S2, G2, hI2, P2, HWN.out.trans W2, R2, by have := HTB.out; rw [← HNL.out]; omega⟩)
        clear hc hI2 hmu2 P2 W2 R2 hv
        go_wp2_with (at_builtin; refine wpList_append_run rfl _ _ _ _ rfl _ _ rfl rfl _ _ hap ?_)
        exact ⟨⟨t + 1, HW2.out, L, FIN.out⟩, HMS.out⟩
      · have key : Calls Tryz.prog 14 #[.pointer (some ⟨P, 0, none⟩), .agg #[.int .i64 la, .int .i64 (t : Int), .bool false]] wr _ := hc wr G1 P HP.out
        (with_reducible refine key.mono ?_)
        clear key
        rintro e w5 ⟨G2, ⟨v, rfl, hv⟩, P2, W2⟩
        obtain ⟨b1, rfl, hb1, hb2, hb3⟩ := hv
        have R2 := HT.out.keep W2
        obtain ⟨v', w6, hap, R3, hF⟩ := rets_app R2 (by rw [← HNL.out]; have := HLT.out; have := HK.out; omega) hb1 (Nat.le_trans HWN.out.fr.size W2.fr.size) P2.lt 42
        have P3 := P2.alike hF.size fun b hb => hF.block b (P2.lt b hb) fun h => h.2 hb
        have W3 : Went w G w6 G2 := by
          have h1 := HWN.out.trans W2
          exact ⟨h1.up, h1.new, h1.fr.then_ hF fun b hb => .inr hb.1⟩
        have FIN := Lib.hid (show RunI k false I w G P v' (t + 1) w6 (L ++ [r]) from ⟨by simp; rw [← HNL.out]; have := HLT.out; omega, V2, S2, G2, hI2, P3, W3, R3, by have := HD.out.mle _ _ _ hI2; have := HTB.out; simp; rw [← HNL.out]; omega⟩)
        clear hc hI2 P2 W2 R2 hb1 hb2 hb3 R3 hF P3 W3
        go_wp2_with (at_builtin; refine wpList_append_run rfl _ _ _ _ rfl _ _ rfl rfl _ _ hap ?_)
        exact ⟨⟨t + 1, HW2.out, _, FIN.out⟩, HMS.out⟩
    · have hd2 : decide (nL < k) = false := decide_eq_false hlt2
      have hkk := Lib.hid (show nL = k by omega)
      clear hlk hlt2
      by_cases hd : (t : Int) < (k : Int) * 512
      · have hd1 : decide ((t : Int) < (k : Int) * 512) = true := decide_eq_true hd
        clear hd
        go_wp2_with fail
        go_ret
        refine ⟨_, L, t, rfl, by rw [← HNL.out]; exact hkk.out, ?_⟩
        have h9 := HR.out
        rw [← HNL.out] at h9
        exact h9
      · have hd1 : decide ((t : Int) < (k : Int) * 512) = false := decide_eq_false hd
        clear hd
        go_wp2_with fail
        go_ret
        refine ⟨_, L, t, rfl, by rw [← HNL.out]; exact hkk.out, ?_⟩
        have h9 := HR.out
        rw [← HNL.out] at h9
        exact h9
end Go.Proofs.YtfehilinnalflaaGreat
namespace Go.Proofs.YtfehilinnalflaaGreat
open Go.RowKit Go.BigFrame
set_option linter.unusedSimpArgs false
set_option linter.unusedVariables false
set_option maxRecDepth 100000
theorem selG_len (t : Tr) (i : Nat) : ∀ (ks : List CK) (j : Nat), (selG t i j ks).length = ks.length
  | [], j => rfl
  | k :: ks, j => by show (selG t i (j + 1) ks).length + 1 = _; rw [selG_len t i ks (j + 1)]; rfl
theorem unTlb_far (t : Tr) (k i : Nat) (h : 16 ≤ i) : unTlb (selG t k 0 tlbK) i = Ent0 := by
  have e : (selG t k 0 tlbK).drop (9 * i) = [] := by
    apply List.drop_eq_nil_of_le
    rw [selG_len]
    have : tlbK.length = 144 := rfl
    omega
  unfold unTlb
  rw [e]
  rfl
def e0T : Nat → EntV := fun _ => Ent0
theorem tl_ext {t : Tr} {k : Nat} {g : Nat → EntV} (hg : ∀ i, 16 ≤ i → g i = Ent0) (h : [unTlb (selG t k 0 tlbK) 0, unTlb (selG t k 0 tlbK) 1, unTlb (selG t k 0 tlbK) 2, unTlb (selG t k 0 tlbK) 3, unTlb (selG t k 0 tlbK) 4, unTlb (selG t k 0 tlbK) 5, unTlb (selG t k 0 tlbK) 6, unTlb (selG t k 0 tlbK) 7, unTlb (selG t k 0 tlbK) 8, unTlb (selG t k 0 tlbK) 9, unTlb (selG t k 0 tlbK) 10, unTlb (selG t k 0 tlbK) 11, unTlb (selG t k 0 tlbK) 12, unTlb (selG t k 0 tlbK) 13, unTlb (selG t k 0 tlbK) 14, unTlb (selG t k 0 tlbK) 15] = [g 0, g 1, g 2, g 3, g 4, g 5, g 6, g 7, g 8, g 9, g 10, g 11, g 12, g 13, g 14, g 15]) : unTlb (selG t k 0 tlbK) = g := by
  funext i
  by_cases c : 16 ≤ i
  · rw [unTlb_far t k i c, hg i c]
  · simp only [List.cons.injEq, and_true] at h
    obtain ⟨h0, h1, h2, h3, h4, h5, h6, h7, h8, h9, h10, h11, h12, h13, h14, h15⟩ := h
    match i, c with
    | 0, _ => exact h0
    | 1, _ => exact h1
    | 2, _ => exact h2
    | 3, _ => exact h3
    | 4, _ => exact h4
    | 5, _ => exact h5
    | 6, _ => exact h6
    | 7, _ => exact h7
    | 8, _ => exact h8
    | 9, _ => exact h9
    | 10, _ => exact h10
    | 11, _ => exact h11
    | 12, _ => exact h12
    | 13, _ => exact h13
    | 14, _ => exact h14
    | 15, _ => exact h15
    | n + 16, c => exact absurd (show 16 ≤ n + 16 by omega) c
theorem flush0 : unTlb (selG (t_Flush0 e0T) 1 0 tlbK) = e0T := tl_ext (fun _ _ => rfl) (by kernel_rfl)
theorem tl0_eq : tl0 = e0T := flush0
end Go.Proofs.YtfehilinnalflaaGreat
namespace Go.Proofs.YtfehilinnalflaaGreat
open Go.RowKit Go.BigFrame
set_option linter.unusedSimpArgs false
set_option linter.unusedVariables false
set_option maxRecDepth 100000
def Tr.way : Tr → List Bool → Tr
  | .fail, _ => .fail
  | .ret vs m, _ => .ret vs m
  | .need _ t, ps => t.way ps
  | .both a _, ps => a.way ps
  | .test b y n, ps => match ps with
    | [] => .test b y n
    | p :: qs => bif p then y.way qs else n.way qs
def Tr.conds : Tr → List Bool → List Bool
  | .fail, _ => []
  | .ret _ _, _ => []
  | .need _ t, ps => t.conds ps
  | .both a _, ps => a.conds ps
  | .test b y n, ps => match ps with
    | [] => []
    | p :: qs => b :: (bif p then y.conds qs else n.conds qs)
def Tr.wants : Tr → List Bool → Bool
  | .fail, _ => true
  | .ret _ _, _ => true
  | .need b t, ps => b && t.wants ps
  | .both a _, ps => a.wants ps
  | .test b y n, ps => match ps with
    | [] => true
    | p :: qs => bif p then y.wants qs else n.wants qs
theorem way_sel {α : Type} (d : α) (π : List Dv → α) : ∀ (t : Tr) (ps : List Bool), t.conds ps = ps → t.sel d π = (t.way ps).sel d π
  | .fail, _, _ => rfl
  | .ret _ _, _, _ => rfl
  | .need _ t, ps, h => way_sel d π t ps h
  | .both a _, ps, h => way_sel d π a ps h
  | .test b y n, [], h => rfl
  | .test b y n, p :: qs, h => by
    have h' : b :: (bif p then y.conds qs else n.conds qs) = p :: qs := h
    injection h' with h1 h2
    subst h1
    show (bif b then y.sel d π else n.sel d π) = (bif b then y.way qs else n.way qs).sel d π
    cases b
    · exact way_sel d π n qs h2
    · exact way_sel d π y qs h2
theorem way_need : ∀ (t : Tr) (ps : List Bool), t.conds ps = ps → t.needB = (t.wants ps && (t.way ps).needB)
  | .fail, _, _ => rfl
  | .ret _ _, _, _ => rfl
  | .need b t, ps, h => by
    show (b && t.needB) = ((b && t.wants ps) && (t.way ps).needB)
    rw [way_need t ps h, Bool.and_assoc]
  | .both a _, ps, h => way_need a ps h
  | .test b y n, [], h => by
    show _ = (true && _)
    rw [Bool.true_and]; rfl
  | .test b y n, p :: qs, h => by
    have h' : b :: (bif p then y.conds qs else n.conds qs) = p :: qs := h
    injection h' with h1 h2
    subst h1
    show (bif b then y.needB else n.needB) = ((bif b then y.wants qs else n.wants qs) && (bif b then y.way qs else n.way qs).needB)
    cases b
    · exact way_need n qs h2
    · exact way_need y qs h2
theorem way_selM (S : HS) : ∀ (t : Tr) (ps : List Bool), t.conds ps = ps → t.selM S = (t.way ps).selM S
  | .fail, _, _ => rfl
  | .ret _ _, _, _ => rfl
  | .need _ t, ps, h => way_selM S t ps h
  | .both a _, ps, h => way_selM S a ps h
  | .test b y n, [], h => rfl
  | .test b y n, p :: qs, h => by
    have h' : b :: (bif p then y.conds qs else n.conds qs) = p :: qs := h
    injection h' with h1 h2
    subst h1
    show (bif b then y.selM S else n.selM S) = (bif b then y.way qs else n.way qs).selM S
    cases b
    · exact way_selM S n qs h2
    · exact way_selM S y qs h2
theorem way_theM (S : HS) (t : Tr) (ps : List Bool) (h : t.conds ps = ps) : t.theM S = (t.way ps).theM S := by
  unfold Tr.theM
  rw [way_selM S t ps h]
theorem bits_nat (v : BitVec 64) (lo n : Nat) (h : lo + n ≤ 64) : (bitsB v lo n).toNat = v.toNat / 2 ^ lo % 2 ^ n := by
  apply Nat.eq_of_testBit_eq
  intro i
  rw [Nat.testBit_mod_two_pow, Nat.testBit_div_two_pow]
  have := bits_bit v lo n i
  unfold BitVec.getLsbD at this
  rw [this, Nat.add_comm i lo]
  by_cases c : i < n
  · simp [c, show i < 64 by omega]
  · simp [c]
end Go.Proofs.YtfehilinnalflaaGreat
namespace Go.Proofs.YtfehilinnalflaaGreat
open Go.RowKit Go.BigFrame
set_option linter.unusedSimpArgs false
set_option linter.unusedVariables false
set_option maxRecDepth 100000
def feW (k : Nat) : Int := ((k * 1048576 + 659 : Nat) : Int)
def feK (k : Nat) : Int := if k < 2048 then k else k - 4096
def fldI (a0 lo n : Int) : Int := IntKind.i64.wrap ((bitsB (BitVec.ofInt 64 a0) (loOf lo) (nOf lo n)).toNat : Int)
theorem fe_i64 (n : Nat) (h : n < 9223372036854775808) : IntKind.i64.wrap (n : Int) = n := IntWalk.i64_in _ ⟨by omega, by omega⟩
theorem feW_nat (k : Nat) (h : k < 4096) : (BitVec.ofInt 64 (feW k)).toNat = k * 1048576 + 659 := by
  unfold feW
  rw [BitVec.toNat_ofInt]
  omega
theorem fld_fe (k lo n : Nat) (h : k < 4096) (h1 : lo + n ≤ 63) : fldI (feW k) lo n = (((k * 1048576 + 659) / 2 ^ lo % 2 ^ n : Nat) : Int) := by
  unfold fldI
  have e1 : loOf (lo : Int) = lo := by unfold loOf held; omega
  have e2 : nOf (lo : Int) (n : Int) = n := by unfold nOf; rw [e1]; unfold held; omega
  rw [e1, e2, bits_nat _ _ _ (by omega), feW_nat k h, fe_i64]
  have : (k * 1048576 + 659) / 2 ^ lo ≤ k * 1048576 + 659 := Nat.div_le_self _ _
  have h2 := Nat.mod_le ((k * 1048576 + 659) / 2 ^ lo) (2 ^ n)
  omega
theorem fe_0 (k : Nat) (h : k < 4096) : fldI (feW k) 0 7 = 19 := by
  have := fld_fe k 0 7 h (by omega)
  rw [show ((0 : Nat) : Int) = 0 from rfl, show ((7 : Nat) : Int) = 7 from rfl] at this
  rw [this]; omega
theorem fe_1 (k : Nat) (h : k < 4096) : fldI (feW k) 7 5 = 5 := by
  have := fld_fe k 7 5 h (by omega)
  rw [show ((7 : Nat) : Int) = 7 from rfl, show ((5 : Nat) : Int) = 5 from rfl] at this
  rw [this]; omega
theorem fe_2 (k : Nat) (h : k < 4096) : fldI (feW k) 12 3 = 0 := by
  have := fld_fe k 12 3 h (by omega)
  rw [show ((12 : Nat) : Int) = 12 from rfl, show ((3 : Nat) : Int) = 3 from rfl] at this
  rw [this]; omega
theorem fe_3 (k : Nat) (h : k < 4096) : fldI (feW k) 15 5 = 0 := by
  have := fld_fe k 15 5 h (by omega)
  rw [show ((15 : Nat) : Int) = 15 from rfl, show ((5 : Nat) : Int) = 5 from rfl] at this
  rw [this]; omega
noncomputable def feDF (a0 : Int) (j : Nat) : Int := Tr.sel 0 (fun vs => Ch.I (pickC vs 0 j)) (t_decode_of a0)
noncomputable def feDP (a0 : Int) : Tr := t_decode_parts_insn (feDF a0 0) (feDF a0 1) (feDF a0 2) (feDF a0 3) (feDF a0 4) (feDF a0 5)
noncomputable def feDG (a0 : Int) (j : Nat) : Int := Tr.sel 0 (fun vs => Ch.I (pickC vs 0 j)) (feDP a0)
noncomputable def feDOk (a0 : Int) : Bool := Tr.sel false (fun vs => Ch.B (pickC vs 1 0)) (feDP a0)
noncomputable def feDI (a0 : Int) : Tr := t_insn_Is (feDG a0 0) (feDG a0 1) (feDG a0 2) (feDG a0 3) (feDG a0 4) (feDG a0 5)
noncomputable def feDIs (a0 : Int) : Bool := Tr.sel false (fun vs => Ch.B (pickC vs 0 0)) (feDI a0)
theorem dec_conds (a0 : Int) : (t_decode_Decode a0).conds [false, false] = [!feDOk a0, !feDIs a0] := by kernel_rfl
theorem dec_wants (a0 : Int) : (t_decode_Decode a0).wants [false, false] = ((feDP a0).needB && ((feDI a0).needB && true)) := by kernel_rfl
theorem dec_way (a0 : Int) : ((t_decode_Decode a0).way [false, false]).needB = true ∧ Tr.sel 0 (fun vs => Ch.I (pickC vs 1 0)) ((t_decode_Decode a0).way [false, false]) = 0 ∧ Tr.sel 0 (fun vs => Ch.I (pickC vs 0 0)) ((t_decode_Decode a0).way [false, false]) = feDG a0 0 ∧ Tr.sel 0 (fun vs => Ch.I (pickC vs 0 1)) ((t_decode_Decode a0).way [false, false]) = feDG a0 1 ∧ Tr.sel 0 (fun vs => Ch.I (pickC vs 0 2)) ((t_decode_Decode a0).way [false, false]) = feDG a0 2 ∧ Tr.sel 0 (fun vs => Ch.I (pickC vs 0 3)) ((t_decode_Decode a0).way [false, false]) = feDG a0 3 ∧ Tr.sel 0 (fun vs => Ch.I (pickC vs 0 4)) ((t_decode_Decode a0).way [false, false]) = feDG a0 4 ∧ Tr.sel 0 (fun vs => Ch.I (pickC vs 0 5)) ((t_decode_Decode a0).way [false, false]) = feDG a0 5 := by
  refine ⟨?_, ?_, ?_, ?_, ?_, ?_, ?_, ?_⟩ <;> kernel_rfl
theorem feDF_eq (a0 : Int) : feDF a0 0 = a0 ∧ feDF a0 1 = fldI a0 7 5 ∧ feDF a0 2 = fldI a0 12 3 ∧ feDF a0 3 = fldI a0 15 5 := by
  refine ⟨?_, ?_, ?_, ?_⟩ <;> kernel_rfl
def feP : List Bool := [false, false, false, false, false, false, false, true]
theorem pi_conds (a0 a1 a2 a3 a4 a5 : Int) : (t_decode_parts_insn a0 a1 a2 a3 a4 a5).conds feP = [fldI a0 0 7 == 55, fldI a0 0 7 == 23, fldI a0 0 7 == 111, fldI a0 0 7 == 103, fldI a0 0 7 == 99, fldI a0 0 7 == 3, fldI a0 0 7 == 35, fldI a0 0 7 == 19] := by kernel_rfl
theorem pi_wants (a0 a1 a2 a3 a4 a5 : Int) : (t_decode_parts_insn a0 a1 a2 a3 a4 a5).wants feP = ((decide (0 ≤ a2) && decide (a2 < 8)) && true) := by kernel_rfl
theorem pi_way (a0 a1 a2 a3 a4 a5 : Int) : ((t_decode_parts_insn a0 a1 a2 a3 a4 a5).way feP).needB = true ∧ Tr.sel false (fun vs => Ch.B (pickC vs 1 0)) ((t_decode_parts_insn a0 a1 a2 a3 a4 a5).way feP) = rOk a0 a2 ∧ Tr.sel 0 (fun vs => Ch.I (pickC vs 0 0)) ((t_decode_parts_insn a0 a1 a2 a3 a4 a5).way feP) = rOpO a0 a2 ∧ Tr.sel 0 (fun vs => Ch.I (pickC vs 0 1)) ((t_decode_parts_insn a0 a1 a2 a3 a4 a5).way feP) = rReg a0 a2 a1 ∧ Tr.sel 0 (fun vs => Ch.I (pickC vs 0 2)) ((t_decode_parts_insn a0 a1 a2 a3 a4 a5).way feP) = rReg a0 a2 a3 ∧ Tr.sel 0 (fun vs => Ch.I (pickC vs 0 3)) ((t_decode_parts_insn a0 a1 a2 a3 a4 a5).way feP) = 0 ∧ Tr.sel 0 (fun vs => Ch.I (pickC vs 0 4)) ((t_decode_parts_insn a0 a1 a2 a3 a4 a5).way feP) = rImm a0 a1 a2 a3 a4 a5 ∧ Tr.sel 0 (fun vs => Ch.I (pickC vs 0 5)) ((t_decode_parts_insn a0 a1 a2 a3 a4 a5).way feP) = 0 := by
  refine ⟨?_, ?_, ?_, ?_, ?_, ?_, ?_, ?_⟩ <;> kernel_rfl
end Go.Proofs.YtfehilinnalflaaGreat
namespace Go.Proofs.YtfehilinnalflaaGreat
open Go.RowKit Go.BigFrame
set_option linter.unusedSimpArgs false
set_option linter.unusedVariables false
set_option maxRecDepth 100000
theorem imm_eq (x a1 a2 a3 a4 a5 a6 : Int) : Tr.sel 0 (fun vs => (pickC vs 0 4).I) (t_decode_parts_immediate x a1 a2 a3 a4 a5 a6) = IntKind.i64.wrap ((sextB ((0#64 <<< 12 ||| bitsB (BitVec.ofInt 64 x) 20 12) <<< 0) 12).toNat : Int) := by kernel_rfl
theorem fe_bits (k : Nat) (h : k < 4096) : bitsB (BitVec.ofInt 64 (feW k)) 20 12 = BitVec.ofNat 64 k := by
  apply BitVec.eq_of_toNat_eq
  rw [bits_nat _ _ _ (by omega), feW_nat k h, BitVec.toNat_ofNat]
  omega
set_option maxRecDepth 100000 in
theorem fe_sext : ∀ k : Fin 4096, IntKind.i64.wrap ((sextB ((0#64 <<< 12 ||| BitVec.ofNat 64 k.val) <<< 0) 12).toNat : Int) = feK k.val := by decide +kernel
theorem fe_op (k : Nat) (h : k < 4096) : rWide (feW k) = true := by
  have e : opcI (feW k) = fldI (feW k) 0 7 := by kernel_rfl
  unfold rWide
  rw [e, fe_0 k h]; rfl
theorem fe_rop (k : Nat) (h : k < 4096) : rOp (feW k) 0 = 22 := by
  unfold rOp
  rw [fe_op k h]; rfl
theorem fe_dir (k : Nat) (h : k < 4096) : rDir (feW k) 0 = true := by
  unfold rDir
  rw [fe_rop k h]; rfl
theorem fe_conds (k : Nat) (h : k < 4096) (a1 a2 a3 a4 a5 : Int) : (t_decode_parts_insn (feW k) a1 a2 a3 a4 a5).conds feP = feP := by
  rw [pi_conds, fe_0 k h]; rfl
theorem fe_dP (k : Nat) (h : k < 4096) : feDP (feW k) = t_decode_parts_insn (feW k) 5 0 0 (feDF (feW k) 4) (feDF (feW k) 5) := by
  obtain ⟨e0, e1, e2, e3⟩ := feDF_eq (feW k)
  unfold feDP
  rw [e0, e1, e2, e3, fe_1 k h, fe_2 k h, fe_3 k h]
theorem fe_dG (k : Nat) (h : k < 4096) : (feDP (feW k)).needB = true ∧ feDOk (feW k) = true ∧ feDG (feW k) 0 = 22 ∧ feDG (feW k) 1 = 5 ∧ feDG (feW k) 2 = 0 ∧ feDG (feW k) 3 = 0 ∧ feDG (feW k) 4 = feK k ∧ feDG (feW k) 5 = 0 := by
  have hc := fe_conds k h 5 0 0 (feDF (feW k) 4) (feDF (feW k) 5)
  obtain ⟨w1, w2, w3, w4, w5, w6, w7, w8⟩ := pi_way (feW k) 5 0 0 (feDF (feW k) 4) (feDF (feW k) 5)
  have ww := pi_wants (feW k) 5 0 0 (feDF (feW k) 4) (feDF (feW k) 5)
  unfold feDOk feDG
  rw [fe_dP k h]
  refine ⟨?_, ?_, ?_, ?_, ?_, ?_, ?_, ?_⟩
  · rw [way_need _ _ hc, ww, w1]; rfl
  · rw [way_sel _ _ _ _ hc, w2]
    unfold rOk
    rw [fe_dir k h, fe_rop k h]; rfl
  · rw [way_sel _ _ _ _ hc, w3]
    unfold rOpO
    rw [fe_dir k h, fe_rop k h]; rfl
  · rw [way_sel _ _ _ _ hc, w4]
    unfold rReg
    rw [fe_dir k h]; rfl
  · rw [way_sel _ _ _ _ hc, w5]
    unfold rReg
    rw [fe_dir k h]; rfl
  · rw [way_sel _ _ _ _ hc, w6]
  · rw [way_sel _ _ _ _ hc, w7]
    unfold rImm immI
    rw [fe_dir k h, cond_true, imm_eq, fe_bits k h]
    exact fe_sext ⟨k, h⟩
  · rw [way_sel _ _ _ _ hc, w8]
def feQ : List Bool := [false, false, true, false, false, false, true, true, true]
theorem is_conds (k : Int) : (t_insn_Is 22 5 0 0 k 0).conds feQ = [false, false, true, decide (k < -2048), decide (k > 2047), k.tmod 1 != 0, true, true, true] := by kernel_rfl
theorem is_wants (k : Int) : (t_insn_Is 22 5 0 0 k 0).wants feQ = true := by kernel_rfl
theorem is_way (k : Int) : ((t_insn_Is 22 5 0 0 k 0).way feQ).needB = true ∧ Tr.sel false (fun vs => Ch.B (pickC vs 0 0)) ((t_insn_Is 22 5 0 0 k 0).way feQ) = true := by refine ⟨?_, ?_⟩ <;> kernel_rfl
theorem feK_in (k : Nat) (h : k < 4096) : -2048 ≤ feK k ∧ feK k ≤ 2047 := by unfold feK; split <;> omega
theorem fe_dI (k : Nat) (h : k < 4096) : (feDI (feW k)).needB = true ∧ feDIs (feW k) = true := by
  obtain ⟨_, _, g0, g1, g2, g3, g4, g5⟩ := fe_dG k h
  obtain ⟨b1, b2⟩ := feK_in k h
  unfold feDIs feDI
  rw [g0, g1, g2, g3, g4, g5]
  have hc : (t_insn_Is 22 5 0 0 (feK k) 0).conds feQ = feQ := by
    rw [is_conds, decide_eq_false (show ¬ feK k < -2048 by omega), decide_eq_false (show ¬ feK k > 2047 by omega), Int.tmod_one]; rfl
  obtain ⟨v1, v2⟩ := is_way (feK k)
  refine ⟨?_, ?_⟩
  · rw [way_need _ _ hc, is_wants, v1]; rfl
  · rw [way_sel _ _ _ _ hc, v2]
theorem fe_dec (k : Nat) (h : k < 4096) : (t_decode_Decode (feW k)).needB = true ∧ Tr.sel 0 (fun vs => Ch.I (pickC vs 1 0)) (t_decode_Decode (feW k)) = 0 ∧ Tr.sel 0 (fun vs => Ch.I (pickC vs 0 0)) (t_decode_Decode (feW k)) = 22 ∧ Tr.sel 0 (fun vs => Ch.I (pickC vs 0 1)) (t_decode_Decode (feW k)) = 5 ∧ Tr.sel 0 (fun vs => Ch.I (pickC vs 0 2)) (t_decode_Decode (feW k)) = 0 ∧ Tr.sel 0 (fun vs => Ch.I (pickC vs 0 3)) (t_decode_Decode (feW k)) = 0 ∧ Tr.sel 0 (fun vs => Ch.I (pickC vs 0 4)) (t_decode_Decode (feW k)) = feK k ∧ Tr.sel 0 (fun vs => Ch.I (pickC vs 0 5)) (t_decode_Decode (feW k)) = 0 := by
  obtain ⟨g, go, g0, g1, g2, g3, g4, g5⟩ := fe_dG k h
  obtain ⟨i1, i2⟩ := fe_dI k h
  have hc : (t_decode_Decode (feW k)).conds [false, false] = [false, false] := by
    rw [dec_conds, go, i2]; rfl
  obtain ⟨w1, w2, w3, w4, w5, w6, w7, w8⟩ := dec_way (feW k)
  refine ⟨?_, ?_, ?_, ?_, ?_, ?_, ?_, ?_⟩
  · rw [way_need _ _ hc, dec_wants, g, i1, w1]; rfl
  · rw [way_sel _ _ _ _ hc, w2]
  · rw [way_sel _ _ _ _ hc, w3, g0]
  · rw [way_sel _ _ _ _ hc, w4, g1]
  · rw [way_sel _ _ _ _ hc, w5, g2]
  · rw [way_sel _ _ _ _ hc, w6, g3]
  · rw [way_sel _ _ _ _ hc, w7, g4]
  · rw [way_sel _ _ _ _ hc, w8, g5]
end Go.Proofs.YtfehilinnalflaaGreat
namespace Go.Proofs.YtfehilinnalflaaGreat
open Go.RowKit Go.BigFrame
set_option linter.unusedSimpArgs false
set_option linter.unusedVariables false
set_option maxRecDepth 100000
def feI0 : InV := ⟨20, 0, 6, 7, 0, 0⟩
def feI1 : InV := ⟨51, 0, 0, 0, 0, 0⟩
def feI2 : InV := ⟨3, 0, 0, 0, 248, 0⟩
theorem fe_enc0 : (encT feI0).needB = true ∧ encV feI0 = 0x00732023 := by refine ⟨?_, ?_⟩ <;> kernel_rfl
theorem fe_enc1 : (encT feI1).needB = true ∧ encV feI1 = 0x0000100f := by refine ⟨?_, ?_⟩ <;> kernel_rfl
theorem fe_enc2 : (encT feI2).needB = true ∧ encV feI2 = 0x0f80006f := by refine ⟨?_, ?_⟩ <;> kernel_rfl
def feE : Nat → Int := fun j => match j with | 0 => 0x00732023 | 1 => 0x0000100f | _ => 0x0f80006f
def feF0 : Nat → UInt8 := codeF (fun _ => 0) (atC 0#64) feE 3
def feF1 (v : BitVec 64) : Nat → UInt8 := wrF feF0 256#64 4 v
def feS (v : BitVec 64) : St := { St0 with lev := 3, x := updC (updC St0.x 6 256#64) 7 v }
noncomputable def feB (v : BitVec 64) : St := cleanS (feS v)
noncomputable def feY (v P D : BitVec 64) : St := { feB v with pc := P, done := D }
noncomputable def feH (f : Nat → UInt8) (b p t : Nat) (T : BitVec 64) : HS := ⟨{ busV0 f with t := T }, e0T, b, p, t⟩
def feW0 : SlV := ⟨0#64, 0x00732023, 0#64, 0#64, 0#64, false, true, feI0, true, 0, 0⟩
def feW1 : SlV := ⟨4#64, 0x0000100f, 0#64, 0#64, 0#64, false, true, feI1, true, 0, 0⟩
def feW2 : SlV := ⟨8#64, 0x0f80006f, 0#64, 0#64, 0#64, false, true, feI2, true, 0, 0⟩
def feW3 (k : Nat) : SlV := ⟨256#64, feW k, 0#64, 0#64, 0#64, false, true, ⟨22, 5, 0, 0, feK k, 0⟩, true, 0, 0⟩
def feW4 : SlV := ⟨260#64, 0, 0#64, 0#64, 0#64, false, true, ⟨0, 0, 0, 0, 0, 0⟩, false, 0, 0⟩
def feV0 : SlV := { feW0 with stage := 3, left := 0 }
def feV1 : SlV := { feW1 with stage := 3, left := 0 }
def feV2 : SlV := { feW2 with stage := 3, left := 0 }
section
variable (v P D : BitVec 64) (b p t : Nat) (T : BitVec 64) (pick : Int)
set_option maxHeartbeats 4000000 in
theorem fe_f0 : slV (bT (feY v P D) (feH feF0 b p t T) 0#64 pick) = feW0 := by kernel_rfl
set_option maxHeartbeats 4000000 in
theorem fe_m0 : (bT (feY v P D) (feH feF0 b p t T) 0#64 pick).theM (feH feF0 b p t T) = feH feF0 b p t T := by kernel_rfl
set_option maxHeartbeats 4000000 in
theorem fe_n0 : (bT (feY v P D) (feH feF0 b p t T) 0#64 pick).needB = (((decide (b = b) && true) && true) && true) := by kernel_rfl
set_option maxHeartbeats 4000000 in
theorem fe_f1 : slV (bT (feY v P D) (feH feF0 b p t T) 4#64 pick) = feW1 := by kernel_rfl
set_option maxHeartbeats 4000000 in
theorem fe_m1 : (bT (feY v P D) (feH feF0 b p t T) 4#64 pick).theM (feH feF0 b p t T) = feH feF0 b p t T := by kernel_rfl
set_option maxHeartbeats 4000000 in
theorem fe_n1 : (bT (feY v P D) (feH feF0 b p t T) 4#64 pick).needB = (((decide (b = b) && true) && true) && true) := by kernel_rfl
end
end Go.Proofs.YtfehilinnalflaaGreat
