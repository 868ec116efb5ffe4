/- Part 1 of the texts behind the law: contracts and lemmas, each proved; no condition but what each names. -/

import Derived.Test.YtfehilinnalflaaGreatQ01
import Derived.Test.YtfehilinnalflaaGreatQ02
import Derived.Test.YtfehilinnalflaaGreatQ03
import Derived.Test.YtfehilinnalflaaGreatQ04
import Derived.Test.YtfehilinnalflaaGreatQ05
import Derived.Test.YtfehilinnalflaaGreatQ06
import Derived.Test.YtfehilinnalflaaGreatQ07
import Derived.Test.YtfehilinnalflaaGreatQ08
import Derived.Test.YtfehilinnalflaaGreatQ09
import Derived.Test.YtfehilinnalflaaGreatQ10
import Derived.Test.YtfehilinnalflaaGreatQ11
import Derived.Test.YtfehilinnalflaaGreatQ12
import Derived.Test.YtfehilinnalflaaGreatQ13
import Derived.Test.YtfehilinnalflaaGreatQ14
import Derived.Test.YtfehilinnalflaaGreatQ15
import Derived.Test.YtfehilinnalflaaGreatQ16
import Derived.Test.YtfehilinnalflaaGreatQ17
import Derived.Test.YtfehilinnalflaaGreatQ18
import Derived.Test.YtfehilinnalflaaGreatQ19
import Derived.Test.YtfehilinnalflaaGreatQ20
namespace Go.Proofs.YtfehilinnalflaaGreat
open Go.RowKit Go.BigFrame
set_option linter.unusedSimpArgs false
set_option linter.unusedVariables false
set_option maxRecDepth 100000
theorem flat12_back : ∀ (l : List RetV) (i : Nat) (v : Value), (l.flatMap retL)[i]? = some v → ∃ k x j, i = k * 12 + j ∧ l[k]? = some x ∧ (retL x)[j]? = some v := by
  intro l i v h
  have hi := (List.getElem?_eq_some_iff.1 h).1
  rw [flat12_len] at hi
  have hk : i / 12 < l.length := by omega
  refine ⟨i / 12, l[i / 12], i % 12, by omega, List.getElem?_eq_getElem hk, ?_⟩
  have hv : ∃ u, (retL l[i / 12])[i % 12]? = some u := ⟨_, List.getElem?_eq_getElem (by rw [retL_len]; omega)⟩
  obtain ⟨u, hu⟩ := hv
  have := flat12 l _ _ (List.getElem?_eq_getElem hk) _ u hu
  rw [show i / 12 * 12 + i % 12 = i by omega, h] at this
  rw [hu, this]
theorem retL_one (x : RetV) : ∀ v ∈ retL x, v.oneCell' = true := by
  intro v hv
  simp only [retL, List.mem_cons, List.not_mem_nil, or_false] at hv
  rcases hv with h | h | h | h | h | h | h | h | h | h | h | h <;> subst h <;> rfl
theorem infoRt : (Tryz.prog.info? 47).map (fun i => (i.zero.map fun z => z.cells.size, i.size, decide (i.bytes ≤ 1024))) = some (some 12, 12, true) := by kernel_rfl
theorem ret_info : ∃ i z, Tryz.prog.info? 47 = some i ∧ i.zero = some z ∧ z.cells.size = 12 ∧ i.size = 12 ∧ i.bytes ≤ 1024 := by
  have h := infoRt
  cases hi : Tryz.prog.info? 47 with
  | none => rw [hi] at h; cases h
  | some i =>
    rw [hi] at h
    simp only [Option.map_some, Option.some.injEq, Prod.mk.injEq, decide_eq_true_eq] at h
    obtain ⟨h1, h2, h3⟩ := h
    cases hz : i.zero with
    | none => rw [hz] at h1; cases h1
    | some z => rw [hz] at h1; exact ⟨i, z, rfl, hz, by simpa using h1, h2, h3⟩
theorem rets_app {w : World} {B : Nat} {G : Nat → Prop} {v : Value} {l : List RetV} (h : Rets w B G v l) (h4 : l.length < 1000) {k1 : Nat} {x : RetV} (hk1 : w.heap[k1]? = some (.cells (retL x).toArray 47 (0, 0))) (hB : B ≤ w.heap.size) (hG : ∀ b, G b → b < w.heap.size) (ty : TypeId) :
    ∃ v' w', (Builtin.append_ #[42, 42] ty #[v, .slice (some ⟨k1, 0, none⟩) 1 1]).run Tryz.prog w = .ok v' w' ∧ Rets w' B G v' (l ++ [x]) ∧ Fr (fun b => B ≤ b ∧ ¬ G b) w w' := by
  obtain ⟨i, z, hi, hz, hzs, hsz, hby⟩ := ret_info
  have hsrc : Src Tryz.prog i.size 42 (.slice (some ⟨k1, 0, none⟩) 1 1) 1 (retL x) w := by
    rw [hsz]
    refine Src.ofSlice (P := Tryz.prog) w Tryz.underlying42 _ 1 1 (retL x) rfl (fun j u hj => ?_) (retL_one x)
    rw [add_at]
    simp [World.cell?, hk1, hj]
  have fresh : ∀ cs T, Below w.heap.size w (w.drew.alloc (.cells cs T)) := fun cs T => (Below.refl w.heap.size w).drew.alloc (Nat.le_refl _) _
  have newR : ∀ (a : Option Addr) (n c : Nat), l.length = n → c < n + 1 → (Builtin.firstCells i.size n (.slice a n c)).run Tryz.prog w.drew = .ok (l.flatMap retL).toArray w.drew →
      ∃ v' w', (Builtin.append_ #[42, 42] ty #[.slice a n c, .slice (some ⟨k1, 0, none⟩) 1 1]).run Tryz.prog w = .ok v' w' ∧ Rets w' B G v' (l ++ [x]) ∧ Fr (fun b => B ≤ b ∧ ¬ G b) w w' := by
    intro a n c hn hc hold
    have hrun := run_append_grow_src (P := Tryz.prog) w 42 42 ty 47 i z Tryz.underlying42 hi hz a n c _ hold _ 1 (retL x) hsrc hc (by omega) (growslice_fits hc (by have : (n + 1) * i.bytes ≤ (n + 1) * 1024 := Nat.mul_le_mul_left _ hby; omega))
    have hge := grownCap_ge w (n + 1) c 47
    have hR := RtAt.new w.drew l x z hzs (grownCap w (n + 1) c 47) (by rw [hn]; exact hge)
    rw [hn] at hR
    refine ⟨_, _, hrun, .inr ⟨w.heap.size, _, by simp [hn], hR, hB, fun hg => by have := hG _ hg; omega⟩, Fr.of_below (fresh _ _)⟩
  rcases h with ⟨rfl, rfl⟩ | ⟨L, c, rfl, h2, h3, h5⟩
  · exact newR none 0 0 rfl (by omega) (run_firstCells_none _ _ _ _ _)
  · by_cases hr : l.length < c
    · obtain ⟨q1, q3⟩ := h2.append hr x
      have hrun := run_append_room_src (P := Tryz.prog) w 42 42 ty 47 i Tryz.underlying42 hi L 0 l.length c _ 1 (retL x) hsrc (by omega)
        (fun j hj => by
          obtain ⟨arr, g1, g2, g3, g4⟩ := h2
          rw [retL_len] at hj
          have : l.length * i.size + j < arr.size := by rw [hsz]; omega
          simp only [World.cell?, g1, Option.bind_some]
          simp [this])
        (fun j hj => h2.free _)
      rw [hsz, Nat.zero_add] at hrun
      exact ⟨_, _, hrun, .inr ⟨L, c, by simp, q1, h3, h5⟩, Fr.of_upd q3 ⟨h3, h5⟩⟩
    · refine newR _ _ _ rfl (by omega) ?_
      refine run_firstCells_some _ _ _ _ _ _ _ (by rw [flat12_len, hsz]) fun j v hj => ?_
      obtain ⟨k, y, j', rfl, hk, hv⟩ := flat12_back l j v hj
      rw [add_at, Nat.zero_add]
      exact h2.cell hk hv
theorem rets_app0 {w : World} {B : Nat} {G : Nat → Prop} {v : Value} {l : List RetV} (h : Rets w B G v l) (ty : TypeId) :
    (Builtin.append_ #[42, 42] ty #[v, .slice none 0 0]).run Tryz.prog w = .ok v w := by
  obtain ⟨i, z, hi, hz, hzs, hsz, hby⟩ := ret_info
  have hsrc : Src Tryz.prog i.size 42 (.slice none 0 0) 0 [] w := Src.ofNil (P := Tryz.prog) w Tryz.underlying42 0
  rcases h with ⟨rfl, rfl⟩ | ⟨L, c, rfl, h2, h3, h5⟩
  · have ht := Tryz.underlying42
    simp [Builtin.append_, run_underlying ht, sizeOf, typeInfo, hi, hsrc.len, hsrc.cells]
  · have hl : l.length ≤ c := by obtain ⟨arr, g1, g2, g3, g4⟩ := h2; exact g3
    have hrun := run_append_room_src (P := Tryz.prog) w 42 42 ty 47 i Tryz.underlying42 hi L 0 l.length c _ 0 [] hsrc (by omega) (fun j hj => by cases hj) (fun j hj => by cases hj)
    exact hrun
end Go.Proofs.YtfehilinnalflaaGreat
namespace Go.Proofs.YtfehilinnalflaaGreat
open Go.RowKit Go.BigFrame
set_option linter.unusedSimpArgs false
set_option linter.unusedVariables false
set_option maxRecDepth 100000
theorem drive_plan {p : Plan} {N n : Nat} {line : Bool} (hp : PlanOk p N line) (k : Nat) (hk : n + k ≤ N) : Drive k line fun L V S => L = (List.range L.length).map (fun i => p.ret (n + i)) ∧ L.length ≤ k ∧ ∃ m, PInv p (n + L.length) m V S := by
  refine ⟨fun L V S ⟨_, _, m, h⟩ => mu_le h.sl h.nv, fun L V S late pick hL h0 h7 ⟨e, hk', m, h⟩ => ?_⟩
  rcases plan_cyc hp (by omega) h h0 h7 pick with ⟨V', S', m', hc, hI, hmu⟩ | ⟨_, hN⟩
  · exact .inl ⟨V', S', hc, ⟨e, hk', m', hI⟩, hmu⟩
  · obtain ⟨V', S', m', hc, hI⟩ := hN (by omega)
    refine .inr ⟨_, V', S', hc, ?_, by simp; omega, m', by simpa [Nat.add_assoc] using hI⟩
    rw [List.length_append, List.length_singleton, List.range_succ, List.map_append, ← e]
    rfl
set_option maxHeartbeats 1000000 in
theorem runs_w {k : Nat} {I : List RetV → PipV → HS → Prop} (hD : Drive k false I) (hk : k ≤ 1000) (lt : Nat) (hlt : lt ≤ 1000) {w : World} {G : Nat → Prop} {P : Nat} {V : PipV} {S : HS} (hP : Pip w G P V S) (hI : I [] V S) :
    Calls Tryz.prog 12 #[.pointer (some ⟨P, 0, none⟩), .int .i64 k, .int .i64 lt] w fun e w' => ∃ v L t, e = .returned v ∧ L.length = k ∧ RunI k false I w G P v t w' L := by
  have hR0 : RunI k false I w G P (.slice none 0 0) 0 w [] := ⟨by simp, V, S, G, hI, hP, Went.refl _ _, .inl ⟨rfl, rfl⟩, by have := hD.mle _ _ _ hI; simp; omega⟩
  have HR0 := Lib.hid hR0
  have HD := Lib.hid hD
  have HK := Lib.hid hk
  have HL := Lib.hid hlt
  clear hR0 hD hk hlt hP hI
  go_enter Tryz.func12, Tryz.ntmps12
  go_wp2_with fail
  go_loopw [7, 8] (fun v i wr => ∃ t : Nat, i = .int .i64 t ∧ ∃ L, RunI k false I w G P v t wr L) (fun _ i _ => 22 * k + 22 - (intOf i).toNat)
  case atStart => exact ⟨0, rfl, _, HR0.out⟩
  case round =>
    clear HR0
    obtain ⟨t, rfl, L, hR⟩ := hrel
    obtain ⟨V1, S1, G1, r1, r2, r3, r4, r5⟩ := hR.st
    obtain ⟨a, c, hv⟩ : ∃ a c, u7 = .slice a L.length c := by
      rcases r4 with ⟨h1, h2⟩ | ⟨L', c, h1, _⟩
      · exact ⟨_, _, by rw [h1, h2]; rfl⟩
      · exact ⟨_, _, h1⟩
    subst hv
    obtain ⟨nL, hnL⟩ : ∃ nL, nL = L.length := ⟨_, rfl⟩
    rw [← hnL] at r4 ⊢
    have hlk : nL ≤ k := by rw [hnL]; exact hR.len
    have hmu := HD.out.mle _ _ _ r1
    have htb : t + mu V1 ≤ 22 * nL + 21 := by rw [hnL]; exact r5
    have hw0 : wrap64 ((k : Int) * 512) = (k : Int) * 512 := w64_in _ (by have := HK.out; omega)
    have HNL := Lib.hid hnL
    have HR := Lib.hid hR
    have HI := Lib.hid r1
    have HP := Lib.hid r2
    have HWN := Lib.hid r3
    have HT := Lib.hid r4
    have HTB := Lib.hid htb
    have HMU := Lib.hid hmu
    clear hnL hR r1 r2 r3 r4 r5 htb hmu
    by_cases hlt2 : nL < k
    · have HLT := Lib.hid hlt2
      have hd1 : decide ((t : Int) < (k : Int) * 512) = true := decide_eq_true (by have := HTB.out; omega)
      have hd2 : decide (nL < k) = true := decide_eq_true hlt2
      have htl : t ≤ 30000 := by have := HTB.out; have := HK.out; omega
      obtain ⟨la, hla⟩ : ∃ la : Int, ((lt : Int) + (t : Int)) % 8 = la := ⟨_, rfl⟩
      have h07 : 0 ≤ la ∧ la ≤ 7 := by omega
      have hw1 : wrap64 ((lt : Int) + (t : Int)) = (lt : Int) + (t : Int) := w64_in _ (by have := HL.out; omega)
      have HW2 := Lib.hid (show Value.int .i64 (wrap64 ((t : Int) + 1)) = .int .i64 ((t + 1 : Nat) : Int) from by rw [w64_in _ (by omega)]; rfl)
      have HMS := Lib.hid (show 22 * k + 22 - (intOf (.int .i64 (wrap64 ((t : Int) + 1)))).toNat < 22 * k + 22 - (intOf (.int .i64 (t : Int))).toNat from by
        rw [w64_in _ (by omega)]
        exact Nat.sub_lt_sub_left (show t < 22 * k + 22 by have := HTB.out; omega) (Nat.lt_succ_self t))
      have H07 := Lib.hid h07
      have HTL := Lib.hid htl
      clear h07 hlk hlt2 htl
      go_wp2_with fail
      rcases HD.out.go L V1 S1 la t (by rw [← HNL.out]; exact HLT.out) H07.out.1 H07.out.2 HI.out with ⟨V2, S2, hc, hI2, hmu2⟩ | ⟨r, V2, S2, hc, hI2⟩
      · have key : Calls Tryz.prog 14 #[.pointer (some ⟨P, 0, none⟩), .agg #[.int .i64 la, .int .i64 (t : Int), .bool false]] wr _ := hc wr G1 P HP.out
        (with_reducible refine key.mono ?_)
        clear key
        rintro e w5 ⟨G2, ⟨v, rfl, hv⟩, P2, W2⟩
        have hv' : v = .slice none 0 0 := hv
        subst hv'
        have R2 := HT.out.keep W2
        have hap := rets_app0 R2 42
        have FIN := Lib.hid (show RunI k false I w G P (.slice a nL c) (t + 1) w5 L from ⟨by rw [← HNL.out]; have := HLT.out; omega, V2, S2, G2, hI2, P2, HWN.out.trans W2, R2, by have := HTB.out; rw [← HNL.out]; omega⟩)
        clear hc hI2 hmu2 P2 W2 R2 hv
        go_wp2_with (at_builtin; refine wpList_append_run rfl _ _ _ _ rfl _ _ rfl rfl _ _ hap ?_)
        exact ⟨⟨t + 1, HW2.out, L, FIN.out⟩, HMS.out⟩
      · have key : Calls Tryz.prog 14 #[.pointer (some ⟨P, 0, none⟩), .agg #[.int .i64 la, .int .i64 (t : Int), .bool false]] wr _ := hc wr G1 P HP.out
        (with_reducible refine key.mono ?_)
        clear key
        rintro e w5 ⟨G2, ⟨v, rfl, hv⟩, P2, W2⟩
        obtain ⟨b1, rfl, hb1, hb2, hb3⟩ := hv
        have R2 := HT.out.keep W2
        obtain ⟨v', w6, hap, R3, hF⟩ := rets_app R2 (by rw [← HNL.out]; have := HLT.out; have := HK.out; omega) hb1 (Nat.le_trans HWN.out.fr.size W2.fr.size) P2.lt 42
        have P3 := P2.alike hF.size fun b hb => hF.block b (P2.lt b hb) fun h => h.2 hb
        have W3 : Went w G w6 G2 := by
          have h1 := HWN.out.trans W2
          exact ⟨h1.up, h1.new, h1.fr.then_ hF fun b hb => .inr hb.1⟩
        have FIN := Lib.hid (show RunI k false I w G P v' (t + 1) w6 (L ++ [r]) from ⟨by simp; rw [← HNL.out]; have := HLT.out; omega, V2, S2, G2, hI2, P3, W3, R3, by have := HD.out.mle _ _ _ hI2; have := HTB.out; simp; rw [← HNL.out]; omega⟩)
        clear hc hI2 P2 W2 R2 hb1 hb2 hb3 R3 hF P3 W3
        go_wp2_with (at_builtin; refine wpList_append_run rfl _ _ _ _ rfl _ _ rfl rfl _ _ hap ?_)
        exact ⟨⟨t + 1, HW2.out, _, FIN.out⟩, HMS.out⟩
    · have hd2 : decide (nL < k) = false := decide_eq_false hlt2
      have hkk := Lib.hid (show nL = k by omega)
      clear hlk hlt2
      by_cases hd : (t : Int) < (k : Int) * 512
      · have hd1 : decide ((t : Int) < (k : Int) * 512) = true := decide_eq_true hd
        clear hd
        go_wp2_with fail
        go_ret
        refine ⟨_, L, t, rfl, by rw [← HNL.out]; exact hkk.out, ?_⟩
        have h9 := HR.out
        rw [← HNL.out] at h9
        exact h9
      · have hd1 : decide ((t : Int) < (k : Int) * 512) = false := decide_eq_false hd
        clear hd
        go_wp2_with fail
        go_ret
        refine ⟨_, L, t, rfl, by rw [← HNL.out]; exact hkk.out, ?_⟩
        have h9 := HR.out
        rw [← HNL.out] at h9
        exact h9
end Go.Proofs.YtfehilinnalflaaGreat
namespace Go.Proofs.YtfehilinnalflaaGreat
open Go.RowKit Go.BigFrame
set_option linter.unusedSimpArgs false
set_option linter.unusedVariables false
set_option maxRecDepth 100000
theorem selG_len (t : Tr) (i : Nat) : ∀ (ks : List CK) (j : Nat), (selG t i j ks).length = ks.length
  | [], j => rfl
  | k :: ks, j => by show (selG t i (j + 1) ks).length + 1 = _; rw [selG_len t i ks (j + 1)]; rfl
theorem unTlb_far (t : Tr) (k i : Nat) (h : 16 ≤ i) : unTlb (selG t k 0 tlbK) i = Ent0 := by
  have e : (selG t k 0 tlbK).drop (9 * i) = [] := by
    apply List.drop_eq_nil_of_le
    rw [selG_len]
    have : tlbK.length = 144 := rfl
    omega
  unfold unTlb
  rw [e]
  rfl
def e0T : Nat → EntV := fun _ => Ent0
theorem tl_ext {t : Tr} {k : Nat} {g : Nat → EntV} (hg : ∀ i, 16 ≤ i → g i = Ent0) (h : [unTlb (selG t k 0 tlbK) 0, unTlb (selG t k 0 tlbK) 1, unTlb (selG t k 0 tlbK) 2, unTlb (selG t k 0 tlbK) 3, unTlb (selG t k 0 tlbK) 4, unTlb (selG t k 0 tlbK) 5, unTlb (selG t k 0 tlbK) 6, unTlb (selG t k 0 tlbK) 7, unTlb (selG t k 0 tlbK) 8, unTlb (selG t k 0 tlbK) 9, unTlb (selG t k 0 tlbK) 10, unTlb (selG t k 0 tlbK) 11, unTlb (selG t k 0 tlbK) 12, unTlb (selG t k 0 tlbK) 13, unTlb (selG t k 0 tlbK) 14, unTlb (selG t k 0 tlbK) 15] = [g 0, g 1, g 2, g 3, g 4, g 5, g 6, g 7, g 8, g 9, g 10, g 11, g 12, g 13, g 14, g 15]) : unTlb (selG t k 0 tlbK) = g := by
  funext i
  by_cases c : 16 ≤ i
  · rw [unTlb_far t k i c, hg i c]
  · simp only [List.cons.injEq, and_true] at h
    obtain ⟨h0, h1, h2, h3, h4, h5, h6, h7, h8, h9, h10, h11, h12, h13, h14, h15⟩ := h
    match i, c with
    | 0, _ => exact h0
    | 1, _ => exact h1
    | 2, _ => exact h2
    | 3, _ => exact h3
    | 4, _ => exact h4
    | 5, _ => exact h5
    | 6, _ => exact h6
    | 7, _ => exact h7
    | 8, _ => exact h8
    | 9, _ => exact h9
    | 10, _ => exact h10
    | 11, _ => exact h11
    | 12, _ => exact h12
    | 13, _ => exact h13
    | 14, _ => exact h14
    | 15, _ => exact h15
    | n + 16, c => exact absurd (show 16 ≤ n + 16 by omega) c
theorem flush0 : unTlb (selG (t_Flush0 e0T) 1 0 tlbK) = e0T := tl_ext (fun _ _ => rfl) (by kernel_rfl)
theorem tl0_eq : tl0 = e0T := flush0
def oneE (e : EntV) : Nat → EntV := fun i => if i = 0 then e else Ent0
theorem fill0 (e : EntV) (hok : e.ok = true) (pick : Int) : unTlb (selG (t_Fill e0T e pick) 0 0 tlbK) = oneE e := by
  obtain ⟨ok, v, p, a, m, f, b, h, g⟩ := e
  have hok' : ok = true := hok
  subst hok'
  refine tl_ext (fun i hi => if_neg (by omega)) ?_
  kernel_rfl
end Go.Proofs.YtfehilinnalflaaGreat
namespace Go.Proofs.YtfehilinnalflaaGreat
open Go.RowKit Go.BigFrame
set_option linter.unusedSimpArgs false
set_option linter.unusedVariables false
set_option maxRecDepth 100000
def pdI0 : InV := ⟨54, 0, 5, 0, 0, 384⟩
def pdI1 : InV := ⟨14, 6, 7, 0, 0, 0⟩
def pdI2 : InV := ⟨22, 8, 0, 0, 3, 0⟩
theorem pd_enc0 : (encT pdI0).needB = true ∧ encV pdI0 = 0x18029073 := by refine ⟨?_, ?_⟩ <;> kernel_rfl
theorem pd_enc1 : (encT pdI1).needB = true ∧ encV pdI1 = 0x0003b303 := by refine ⟨?_, ?_⟩ <;> kernel_rfl
theorem pd_enc2 : (encT pdI2).needB = true ∧ encV pdI2 = 0x00300413 := by refine ⟨?_, ?_⟩ <;> kernel_rfl
def pdE : Nat → Int := fun j => match j with | 0 => 0x18029073 | 1 => 0x0003b303 | _ => 0x00300413
def pdF0 : Nat → UInt8 := codeF (fun _ => 0) (atC 0#64) pdE 3
def pdF (bits : BitVec 64) : Nat → UInt8 := wrF (wrF (wrF (wrF pdF0 4096#64 8 4353#64) 4352#64 8 207#64) 4360#64 8 (7680#64 ||| bits)) 7688#64 8 4242#64
def pdS : St := { St0 with lev := 1, x := updC (updC St0.x 5 0x8000000000000010#64) 7 264#64 }
noncomputable def pdB : St := cleanS pdS
noncomputable def pdH (bits : BitVec 64) (b p t : Nat) (T : BitVec 64) (tl : Nat → EntV) : HS := ⟨{ busV0 (pdF bits) with t := T }, tl, b, p, t⟩
def pdW0 : SlV := ⟨0#64, 0x18029073, 0#64, 0#64, 0#64, false, true, pdI0, true, 0, 0⟩
def pdW1 : SlV := ⟨4#64, 0x0003b303, 0#64, 0#64, 0#64, false, true, pdI1, true, 0, 0⟩
def pdW2 : SlV := ⟨8#64, 0x00300413, 0#64, 0#64, 0#64, false, true, pdI2, true, 0, 0⟩
def pdW3 : SlV := ⟨12#64, 0, 0#64, 0#64, 0#64, false, true, ⟨0, 0, 0, 0, 0, 0⟩, false, 0, 0⟩
def pdV0 : SlV := { pdW0 with stage := 3, left := 0 }
def pdV1 : SlV := { pdW1 with stage := 3, left := 0 }
section
variable (bits : BitVec 64) (b p t : Nat) (T : BitVec 64) (pick : Int)
set_option maxHeartbeats 4000000 in
theorem pd_f0 : slV (bT pdB (pdH bits b p t T e0T) 0#64 pick) = pdW0 := by kernel_rfl
set_option maxHeartbeats 4000000 in
theorem pd_m0 : (bT pdB (pdH bits b p t T e0T) 0#64 pick).theM (pdH bits b p t T e0T) = pdH bits b p t T e0T := by kernel_rfl
theorem pd_iv0 : intV pdB false false = (0#64, 0, false, false) := by kernel_rfl
noncomputable def pdB1 : St := { pdB with pc := 4#64, c := updC pdB.c 15 0x8000000000000010#64, done := 1#64 }
set_option maxHeartbeats 4000000 in
theorem pd_n0 : (bT pdB (pdH bits b p t T e0T) 0#64 pick).needB = (((decide (b = b) && true) && true) && true) := by kernel_rfl
set_option maxHeartbeats 4000000 in
theorem pd_t0 : eT (E3 pdB (pdH bits b p t T e0T) pdV0) = pdB1 := by kernel_rfl
set_option maxHeartbeats 4000000 in
theorem pd_r0 : rF (E3 pdB (pdH bits b p t T e0T) pdV0) = ⟨0#64, 0x18029073, 0, 0#64, false, 0#64, 0#64, 0#64, false, 0, false, false⟩ := by kernel_rfl
set_option maxHeartbeats 4000000 in
theorem pd_s0 : (E3 pdB (pdH bits b p t T e0T) pdV0).theM (pdH bits b p t T e0T) = pdH bits b p t T e0T := by kernel_rfl
set_option maxHeartbeats 4000000 in
theorem pd_d0 : (E3 pdB (pdH bits b p t T e0T) pdV0).needB = true := by kernel_rfl
theorem pd_fe0 : fenM pdB pdV0 (pdH bits b p t T e0T) = pdH bits b p t T e0T := by
  have h : fenM pdB pdV0 (pdH bits b p t T e0T) = pdH bits b p t T (unTlb (selG (t_Flush0 e0T) 1 0 tlbK)) := by kernel_rfl
  rw [h, flush0]
end
end Go.Proofs.YtfehilinnalflaaGreat
namespace Go.Proofs.YtfehilinnalflaaGreat
open Go.RowKit Go.BigFrame
set_option linter.unusedSimpArgs false
set_option linter.unusedVariables false
set_option maxRecDepth 100000
section
variable (bits : BitVec 64) (b p t : Nat) (T : BitVec 64) (pick : Int) (X : Nat → BitVec 64) (P D : BitVec 64)
noncomputable def pdX (X : Nat → BitVec 64) (P D : BitVec 64) : St := { pdB1 with x := X, pc := P, done := D }
def pdEn : EntV := ⟨true, false, 0, 0, 0, 0, 207, 255, 0⟩
set_option maxHeartbeats 4000000 in
theorem pd_f1 : slV (bT (pdX X P D) (pdH bits b p t T e0T) 4#64 pick) = pdW1 := by kernel_rfl
set_option maxHeartbeats 4000000 in
theorem pd_m1' : (bT (pdX X P D) (pdH bits b p t T e0T) 4#64 pick).theM (pdH bits b p t T e0T) = pdH bits b p t T (unTlb (selG (t_Fill e0T pdEn pick) 0 0 tlbK)) := by kernel_rfl
theorem pd_m1 : (bT (pdX X P D) (pdH bits b p t T e0T) 4#64 pick).theM (pdH bits b p t T e0T) = pdH bits b p t T (oneE pdEn) := by rw [pd_m1', fill0 pdEn rfl]
set_option maxHeartbeats 4000000 in
theorem pd_f2 : slV (bT (pdX X P D) (pdH bits b p t T (oneE pdEn)) 8#64 pick) = pdW2 := by kernel_rfl
set_option maxHeartbeats 4000000 in
theorem pd_m2 : (bT (pdX X P D) (pdH bits b p t T (oneE pdEn)) 8#64 pick).theM (pdH bits b p t T (oneE pdEn)) = pdH bits b p t T (oneE pdEn) := by kernel_rfl
set_option maxHeartbeats 4000000 in
theorem pd_f3 : slV (bT (pdX X P D) (pdH bits b p t T (oneE pdEn)) 12#64 pick) = pdW3 := by kernel_rfl
set_option maxHeartbeats 4000000 in
theorem pd_m3 : (bT (pdX X P D) (pdH bits b p t T (oneE pdEn)) 12#64 pick).theM (pdH bits b p t T (oneE pdEn)) = pdH bits b p t T (oneE pdEn) := by kernel_rfl
end
end Go.Proofs.YtfehilinnalflaaGreat
namespace Go.Proofs.YtfehilinnalflaaGreat
open Go.RowKit Go.BigFrame
set_option linter.unusedSimpArgs false
set_option linter.unusedVariables false
set_option maxRecDepth 100000
section
variable (bits : BitVec 64) (b p t : Nat) (T : BitVec 64) (pick : Int) (X : Nat → BitVec 64) (P D : BitVec 64)
def trN (p : Nat) : Bool := (((((decide (p = p) && true) && true) && (((decide (p = p) && true) && true) && true)) && true) && true)
theorem trN_true (p : Nat) : trN p = true := by unfold trN; simp
set_option maxHeartbeats 4000000 in
theorem pd_n1 : (bT (pdX X P D) (pdH bits b p t T e0T) 4#64 pick).needB = (((decide (t = t) && true) && (decide (b = b) && (trN p && ((decide (t = t) && true) && true)))) && (((decide (b = b) && true) && true) && true)) := by kernel_rfl
set_option maxHeartbeats 4000000 in
theorem pd_n2 : (bT (pdX X P D) (pdH bits b p t T (oneE pdEn)) 8#64 pick).needB = (((decide (t = t) && true) && true) && (((decide (b = b) && true) && true) && true)) := by kernel_rfl
set_option maxHeartbeats 4000000 in
theorem pd_n3 : (bT (pdX X P D) (pdH bits b p t T (oneE pdEn)) 12#64 pick).needB = (((decide (t = t) && true) && true) && (((decide (b = b) && true) && true) && true)) := by kernel_rfl
theorem pd_fn0 : (t_fence_Do (pdH bits b p t T e0T) (pdH bits b p t T e0T).t pdB 54 0 5 0 0 384).needB = ((decide (t = t) && true) && true) := by kernel_rfl
end
end Go.Proofs.YtfehilinnalflaaGreat
namespace Go.Proofs.YtfehilinnalflaaGreat
open Go.RowKit Go.BigFrame
set_option linter.unusedSimpArgs false
set_option linter.unusedVariables false
set_option maxRecDepth 100000
section
variable (b p t : Nat) (T : BitVec 64) (pick : Int)
noncomputable def pdY : St := pdX pdB.x 4#64 1#64
noncomputable def pdH1 (b p t : Nat) (T : BitVec 64) : HS := pdH 207#64 b p t T (oneE pdEn)
noncomputable def pdH0 (b p t : Nat) (T : BitVec 64) : HS := pdH 201#64 b p t T (oneE pdEn)
theorem pd_iv1 : intV pdY false false = (0#64, 0, false, false) := by kernel_rfl
set_option maxHeartbeats 4000000 in
theorem pd_t1 : eT (E3 pdY (pdH1 b p t T) pdV1) = pdX (updC pdB.x 6 4242#64) 8#64 2#64 := by kernel_rfl
set_option maxHeartbeats 4000000 in
theorem pd_r1 : rF (E3 pdY (pdH1 b p t T) pdV1) = ⟨4#64, 0x0003b303, 6, 4242#64, false, 0#64, 0#64, 0#64, false, 0, false, false⟩ := by kernel_rfl
set_option maxHeartbeats 4000000 in
theorem pd_s1 : (E3 pdY (pdH1 b p t T) pdV1).theM (pdH1 b p t T) = pdH1 b p t T := by kernel_rfl
theorem pd_fe1 : fenM pdY pdV1 (pdH1 b p t T) = pdH1 b p t T := by kernel_rfl
theorem pd_fn1 : (t_fence_Do (pdH1 b p t T) (pdH1 b p t T).t pdY 14 6 7 0 0 0).needB = true := by kernel_rfl
set_option maxHeartbeats 4000000 in
theorem pd_q1 : rF (E3 pdY (pdH0 b p t T) pdV1) = ⟨4#64, 0x0003b303, 0, 0#64, true, 13#64, 264#64, 0#64, false, 3, false, false⟩ := by kernel_rfl
set_option maxHeartbeats 4000000 in
theorem pd_qs : (E3 pdY (pdH0 b p t T) pdV1).theM (pdH0 b p t T) = pdH0 b p t T := by kernel_rfl
end
end Go.Proofs.YtfehilinnalflaaGreat
namespace Go.Proofs.YtfehilinnalflaaGreat
open Go.RowKit Go.BigFrame
set_option linter.unusedSimpArgs false
set_option linter.unusedVariables false
set_option maxRecDepth 100000
def pdSl : Nat → SlV
  | 0 => pdW0
  | 1 => pdW1
  | 2 => pdW2
  | _ => pdW3
theorem pd_mv : (t_insn_Size pdW0.i.op).needB = true ∧ (t_insn_Size pdW1.i.op).needB = true ∧ (t_insn_Size pdW2.i.op).needB = true ∧ (t_insn_Size pdW3.i.op).needB = true := by refine ⟨?_, ?_, ?_, ?_⟩ <;> kernel_rfl
theorem pd_w0 : (wtT pdW0.i pdW0.i).needB = true ∧ (wtT pdW0.i pdW1.i).needB = true ∧ (wtT pdW0.i pdW2.i).needB = true ∧ (wtT pdW0.i pdW3.i).needB = true := by refine ⟨?_, ?_, ?_, ?_⟩ <;> kernel_rfl
theorem pd_w1 : (wtT pdW1.i pdW0.i).needB = true ∧ (wtT pdW1.i pdW1.i).needB = true ∧ (wtT pdW1.i pdW2.i).needB = true ∧ (wtT pdW1.i pdW3.i).needB = true := by refine ⟨?_, ?_, ?_, ?_⟩ <;> kernel_rfl
theorem pd_w2 : (wtT pdW2.i pdW0.i).needB = true ∧ (wtT pdW2.i pdW1.i).needB = true ∧ (wtT pdW2.i pdW2.i).needB = true ∧ (wtT pdW2.i pdW3.i).needB = true := by refine ⟨?_, ?_, ?_, ?_⟩ <;> kernel_rfl
theorem pd_w3 : (wtT pdW3.i pdW0.i).needB = true ∧ (wtT pdW3.i pdW1.i).needB = true ∧ (wtT pdW3.i pdW2.i).needB = true ∧ (wtT pdW3.i pdW3.i).needB = true := by refine ⟨?_, ?_, ?_, ?_⟩ <;> kernel_rfl
theorem pd_mvs (i j : Nat) : (t_insn_Size (pdSl i).i.op).needB = true ∧ (wtT (pdSl i).i (pdSl j).i).needB = true := by
  obtain ⟨m0, m1, m2, m3⟩ := pd_mv
  obtain ⟨a0, a1, a2, a3⟩ := pd_w0
  obtain ⟨b0, b1, b2, b3⟩ := pd_w1
  obtain ⟨c0, c1, c2, c3⟩ := pd_w2
  obtain ⟨d0, d1, d2, d3⟩ := pd_w3
  match i, j with
  | 0, 0 => exact ⟨m0, a0⟩
  | 0, 1 => exact ⟨m0, a1⟩
  | 0, 2 => exact ⟨m0, a2⟩
  | 0, _ + 3 => exact ⟨m0, a3⟩
  | 1, 0 => exact ⟨m1, b0⟩
  | 1, 1 => exact ⟨m1, b1⟩
  | 1, 2 => exact ⟨m1, b2⟩
  | 1, _ + 3 => exact ⟨m1, b3⟩
  | 2, 0 => exact ⟨m2, c0⟩
  | 2, 1 => exact ⟨m2, c1⟩
  | 2, 2 => exact ⟨m2, c2⟩
  | 2, _ + 3 => exact ⟨m2, c3⟩
  | _ + 3, 0 => exact ⟨m3, d0⟩
  | _ + 3, 1 => exact ⟨m3, d1⟩
  | _ + 3, 2 => exact ⟨m3, d2⟩
  | _ + 3, _ + 3 => exact ⟨m3, d3⟩
def pdLast : Nat → Bool
  | 0 => true
  | 1 => false
  | 2 => false
  | _ => true
noncomputable def pdP (bits : BitVec 64) (b p t : Nat) : Plan where
  st n := match n with
    | 0 => pdB
    | 1 => pdY
    | _ => pdX (updC pdB.x 6 4242#64) 8#64 2#64
  hs n m := match n with
    | 0 => pdH bits b p t 0#64 e0T
    | 1 => if m ≤ 1 then pdH bits b p t 0#64 e0T else pdH bits b p t 0#64 (oneE pdEn)
    | _ => pdH bits b p t 1#64 (oneE pdEn)
  slot := pdSl
  pc m := match m with
    | 0 => 0#64
    | 1 => 4#64
    | 2 => 8#64
    | _ => 12#64
  last := pdLast
  fl n := n == 0
  ret n := match n with
    | 0 => ⟨0#64, 0x18029073, 0, 0#64, false, 0#64, 0#64, 0#64, false, 0, false, false⟩
    | _ => ⟨4#64, 0x0003b303, 6, 4242#64, false, 0#64, 0#64, 0#64, false, 0, false, false⟩
theorem pd_x0 : (t_guess_Next pdW0.pc pdW0.w).needB = true ∧ (alT pdW0.i).needB = true ∧ (!pdW0.ok || (!pdW0.is || alV pdW0.i)) = true := by refine ⟨?_, ?_, ?_⟩ <;> kernel_rfl
theorem pd_x1 : (t_guess_Next pdW1.pc pdW1.w).needB = true ∧ (alT pdW1.i).needB = true ∧ (!pdW1.ok || (!pdW1.is || alV pdW1.i)) = false ∧ nxV pdW1.pc pdW1.w = 8#64 := by refine ⟨?_, ?_, ?_, ?_⟩ <;> kernel_rfl
theorem pd_x2 : (t_guess_Next pdW2.pc pdW2.w).needB = true ∧ (alT pdW2.i).needB = true ∧ (!pdW2.ok || (!pdW2.is || alV pdW2.i)) = false ∧ nxV pdW2.pc pdW2.w = 12#64 := by refine ⟨?_, ?_, ?_, ?_⟩ <;> kernel_rfl
theorem pd_x3 : (t_guess_Next pdW3.pc pdW3.w).needB = true ∧ (alT pdW3.i).needB = true ∧ (!pdW3.ok || (!pdW3.is || alV pdW3.i)) = true := by refine ⟨?_, ?_, ?_⟩ <;> kernel_rfl
theorem pd_y0 : alV pdV0.i = true ∧ (t_guess_Wrong pdV0.pc pdV0.w 4#64).needB = true ∧ (alT pdV0.i).needB = true := by refine ⟨?_, ?_, ?_⟩ <;> kernel_rfl
theorem pd_y1 : alV pdV1.i = false ∧ wrV pdV1.pc pdV1.w 8#64 = false ∧ (t_guess_Wrong pdV1.pc pdV1.w 8#64).needB = true ∧ (alT pdV1.i).needB = true := by refine ⟨?_, ?_, ?_, ?_⟩ <;> kernel_rfl
end Go.Proofs.YtfehilinnalflaaGreat
namespace Go.Proofs.YtfehilinnalflaaGreat
open Go.RowKit Go.BigFrame
set_option linter.unusedSimpArgs false
set_option linter.unusedVariables false
set_option maxRecDepth 100000
section
variable (b p t : Nat) (T : BitVec 64) (pick : Int)
set_option maxHeartbeats 4000000 in
theorem pd_d1 : (E3 pdY (pdH1 b p t T) pdV1).needB = ((((decide (b = b) && (trN p && (((decide (b = b) && true) && true) && true))) && true) && true) && true) := by kernel_rfl
end
end Go.Proofs.YtfehilinnalflaaGreat
namespace Go.Proofs.YtfehilinnalflaaGreat
open Go.RowKit Go.BigFrame
set_option linter.unusedSimpArgs false
set_option linter.unusedVariables false
set_option maxRecDepth 100000
section
variable (b p t : Nat) (T : BitVec 64) (pick : Int)
set_option maxHeartbeats 4000000 in
theorem pd_d2 : (E3 pdY (pdH0 b p t T) pdV1).needB = ((((decide (b = b) && (trN p && true)) && true) && true) && true) := by kernel_rfl
end
end Go.Proofs.YtfehilinnalflaaGreat
namespace Go.Proofs.YtfehilinnalflaaGreat
open Go.RowKit Go.BigFrame
set_option linter.unusedSimpArgs false
set_option linter.unusedVariables false
set_option maxRecDepth 100000
theorem pd_pb : pdB.pc = 0#64 := by kernel_rfl
section
variable (b p t : Nat) (T : BitVec 64) (pick : Int)
noncomputable def pdZ2 : St := eT (E3 pdY (pdH0 b p t T) pdV1)
theorem pd_pc0 : (pdZ2 b p t T).pc = 0#64 := by kernel_rfl
set_option maxHeartbeats 4000000 in
theorem pd_zf : slV (bT (pdZ2 b p t T) (pdH0 b p t T) 0#64 pick) = pdW0 := by kernel_rfl
set_option maxHeartbeats 4000000 in
theorem pd_zn : (bT (pdZ2 b p t T) (pdH0 b p t T) 0#64 pick).needB = (((decide (b = b) && true) && true) && true) := by kernel_rfl
end
end Go.Proofs.YtfehilinnalflaaGreat
namespace Go.Proofs.YtfehilinnalflaaGreat
open Go.RowKit Go.BigFrame
set_option linter.unusedSimpArgs false
set_option linter.unusedVariables false
set_option maxRecDepth 100000
theorem pd_iv (bits : BitVec 64) (b p t : Nat) (T : BitVec 64) (tl : Nat → EntV) (s : St) (h : T.toNat < 18446744073709551615) (line : Bool) : ivQ s (pdH bits b p t T tl) line = intV s false line := by
  unfold ivQ
  have e : decide ((pdH bits b p t T tl).bus.al.toNat ≤ (pdH bits b p t T tl).bus.t.toNat) = false := ones_no T h
  rw [e]
theorem pd_ret0 (bits : BitVec 64) (b p t : Nat) (at_ : BitVec 64) (stops : Bool) :
    (dT pdB (pdH bits b p t 0#64 e0T) at_ stops pdV0 false).needB = true ∧ retV (dT pdB (pdH bits b p t 0#64 e0T) at_ stops pdV0 false) = ⟨0#64, 0x18029073, 0, 0#64, false, 0#64, 0#64, 0#64, false, 0, false, false⟩ ∧ stT (dT pdB (pdH bits b p t 0#64 e0T) at_ stops pdV0 false) = pdY ∧ flT (dT pdB (pdH bits b p t 0#64 e0T) at_ stops pdV0 false) = true ∧ (dT pdB (pdH bits b p t 0#64 e0T) at_ stops pdV0 false).theM (pdH bits b p t 0#64 e0T) = pdH bits b p t 0#64 e0T := by
  obtain ⟨y1, y2, y3⟩ := pd_y0
  have key := plain_ret (s := pdB) (S := pdH bits b p t 0#64 e0T) (S' := pdH bits b p t 0#64 e0T) (x := pdV0) at_ stops (by rw [pd_iv bits b p t 0#64 e0T pdB (by decide), pd_iv0]) rfl (pd_t0 bits b p t 0#64) (pd_r0 bits b p t 0#64) rfl (pd_d0 bits b p t 0#64) (pd_s0 bits b p t 0#64) (pd_fe0 bits b p t 0#64) (show (t_fence_Do (pdH bits b p t 0#64 e0T) (pdH bits b p t 0#64 e0T).t pdB 54 0 5 0 0 384).needB = true by rw [pd_fn0]; simp) y3 y2 ⟨rfl, rfl, rfl⟩
  rw [y1, Bool.true_or] at key
  exact key
theorem pd_ret1 (b p t : Nat) (at_ : BitVec 64) (stops : Bool) :
    (dT pdY (pdH1 b p t 1#64) at_ stops pdV1 false).needB = true ∧ retV (dT pdY (pdH1 b p t 1#64) at_ stops pdV1 false) = ⟨4#64, 0x0003b303, 6, 4242#64, false, 0#64, 0#64, 0#64, false, 0, false, false⟩ ∧ stT (dT pdY (pdH1 b p t 1#64) at_ stops pdV1 false) = pdX (updC pdB.x 6 4242#64) 8#64 2#64 ∧ flT (dT pdY (pdH1 b p t 1#64) at_ stops pdV1 false) = false ∧ (dT pdY (pdH1 b p t 1#64) at_ stops pdV1 false).theM (pdH1 b p t 1#64) = pdH1 b p t 1#64 := by
  obtain ⟨y1, y2, y3, y4⟩ := pd_y1
  have key := plain_ret (s := pdY) (S := pdH1 b p t 1#64) (S' := pdH1 b p t 1#64) (x := pdV1) at_ stops (by unfold pdH1; rw [pd_iv 207#64 b p t 1#64 (oneE pdEn) pdY (by decide), pd_iv1]) rfl (pd_t1 b p t 1#64) (pd_r1 b p t 1#64) rfl (by rw [pd_d1, trN_true]; simp) (pd_s1 b p t 1#64) (pd_fe1 b p t 1#64) (pd_fn1 b p t 1#64) y4 y3 ⟨rfl, rfl, rfl⟩
  have e : (alV pdV1.i || wrV pdV1.pc pdV1.w (pdX (updC pdB.x 6 4242#64) 8#64 2#64).pc) = false := by rw [y1]; exact y2
  rw [e] at key
  exact key
theorem pd_ne1 {bits : BitVec 64} {b p t : Nat} {T : BitVec 64} {X : Nat → BitVec 64} {P D : BitVec 64} {pick : Int} : (bT (pdX X P D) (pdH bits b p t T e0T) 4#64 pick).needB = true := by rw [pd_n1, trN_true]; simp
theorem pd_ne2 {bits : BitVec 64} {b p t : Nat} {T : BitVec 64} {X : Nat → BitVec 64} {P D : BitVec 64} {pick : Int} : (bT (pdX X P D) (pdH bits b p t T (oneE pdEn)) 8#64 pick).needB = true := by rw [pd_n2]; simp
theorem pd_ne3 {bits : BitVec 64} {b p t : Nat} {T : BitVec 64} {X : Nat → BitVec 64} {P D : BitVec 64} {pick : Int} : (bT (pdX X P D) (pdH bits b p t T (oneE pdEn)) 12#64 pick).needB = true := by rw [pd_n3]; simp
theorem pd_last2 {n m : Nat} (h : ∀ j, n ≤ j → j + 1 < m → pdLast j = false) (hn : n ≤ 3) : m ≤ 4 := by
  by_cases c : m ≤ 4
  · exact c
  · have := h 3 hn (by omega); cases this
theorem pd_plan (bits : BitVec 64) (b p t N : Nat) (hN : N ≤ 1 ∨ (bits = 207#64 ∧ N ≤ 2)) : PlanOk (pdP bits b p t) N false := by
  refine ⟨fun m => ?_, fun i j => pd_mvs i j, fun n m pick hn hw hm => ?_, fun n m hn hw hm => ?_, fun n m at_ stops hn hw hm => ?_, fun n hn => ?_⟩
  · match m with
    | 0 => rfl
    | 1 => rfl
    | 2 => rfl
    | _ + 3 => rfl
  · have hl : ∀ j, n ≤ j → j + 1 < m + 1 → pdLast j = false := hw.2.2
    have h2 : n ≤ 2 := by omega
    have h4 : m + 1 ≤ 4 := pd_last2 hl (by omega)
    match n, m with
    | 0, 0 => exact ⟨by show (bT pdB (pdH bits b p t 0#64 e0T) 0#64 pick).needB = true; rw [pd_n0]; simp, pd_f0 .., pd_m0 ..⟩
    | 0, m + 1 => have := hl 0 (by omega) (by omega); cases this
    | 1, 0 => omega
    | 1, 1 => exact ⟨(pd_ne1 : (bT (pdX pdB.x 4#64 1#64) (pdH bits b p t 0#64 e0T) 4#64 pick).needB = true), pd_f1 .., pd_m1 ..⟩
    | 1, 2 => exact ⟨(pd_ne2 : (bT (pdX pdB.x 4#64 1#64) (pdH bits b p t 0#64 (oneE pdEn)) 8#64 pick).needB = true), pd_f2 .., pd_m2 ..⟩
    | 1, 3 => exact ⟨(pd_ne3 : (bT (pdX pdB.x 4#64 1#64) (pdH bits b p t 0#64 (oneE pdEn)) 12#64 pick).needB = true), pd_f3 .., pd_m3 ..⟩
    | 1, m + 4 => omega
    | 2, 0 => omega
    | 2, 1 => omega
    | 2, 2 => exact ⟨(pd_ne2 : (bT (pdX (updC pdB.x 6 4242#64) 8#64 2#64) (pdH bits b p t 1#64 (oneE pdEn)) 8#64 pick).needB = true), pd_f2 .., pd_m2 ..⟩
    | 2, 3 => exact ⟨(pd_ne3 : (bT (pdX (updC pdB.x 6 4242#64) 8#64 2#64) (pdH bits b p t 1#64 (oneE pdEn)) 12#64 pick).needB = true), pd_f3 .., pd_m3 ..⟩
    | 2, m + 4 => omega
    | n + 3, m => omega
  · match m with
    | 0 => exact ⟨pd_x0.1, pd_x0.2.1, pd_x0.2.2, fun h => by cases h⟩
    | 1 => exact ⟨pd_x1.1, pd_x1.2.1, pd_x1.2.2.1, fun _ => pd_x1.2.2.2⟩
    | 2 => exact ⟨pd_x2.1, pd_x2.2.1, pd_x2.2.2.1, fun _ => pd_x2.2.2.2⟩
    | _ + 3 => exact ⟨pd_x3.1, pd_x3.2.1, pd_x3.2.2, fun h => by cases h⟩
  · have hl : ∀ j, n ≤ j → j + 1 < m → pdLast j = false := hw.2.2
    have h4 : m ≤ 4 := pd_last2 hl (by omega)
    match n with
    | 0 =>
      have e1 : m = 1 := by
        by_cases c : m ≤ 1
        · omega
        · have := hl 0 (by omega) (by omega); cases this
      subst e1
      obtain ⟨h1, h2, h3, h4, h5⟩ := pd_ret0 bits b p t at_ stops
      refine ⟨h1, ?_, h3, h4, h5⟩
      show ({ retV (dT pdB (pdH bits b p t 0#64 e0T) at_ stops pdV0 false) with line := false } : RetV) = _
      rw [h2]; rfl
    | 1 =>
      have hb : bits = 207#64 := by
        rcases hN with h | h
        · omega
        · exact h.1
      subst hb
      obtain ⟨h1, h2, h3, h4, h5⟩ := pd_ret1 b p t at_ stops
      have e : retS ((pdP 207#64 b p t).hs 1 m) ((pdP 207#64 b p t).st 1) = pdH1 b p t 1#64 := by
        show retS (if m ≤ 1 then pdH 207#64 b p t 0#64 e0T else pdH 207#64 b p t 0#64 (oneE pdEn)) pdY = _
        rw [if_neg (by omega)]
        rfl
      rw [e]
      refine ⟨h1, ?_, h3, h4, h5⟩
      show ({ retV (dT pdY (pdH1 b p t 1#64) at_ stops pdV1 false) with line := false } : RetV) = _
      rw [h2]; rfl
    | n + 2 => omega
  · match n with
    | 0 => exact ⟨fun _ => rfl, fun _ => rfl⟩
    | 1 => exact ⟨fun h => (by cases h), fun h => (by cases h)⟩
    | n + 2 => omega
def pdR : RetV := ⟨4#64, 0x0003b303, 0, 0#64, true, 13#64, 264#64, 0#64, false, 3, false, false⟩
theorem pd_trap (b p t : Nat) {m : Nat} {V : PipV} {S : HS} (hI : PInv (pdP 201#64 b p t) 1 m V S) {x : SlV} {l : List SlV} (hV : V.l = x :: l) (h3 : x.stage = 3) (hx0 : x.left = 0) (late pick : Int) (h0 : 0 ≤ late) (h7 : late ≤ 7) :
    ∃ V' S', Cyc V S late pick false (some pdR) V' S' ∧ mu V' ≤ 21 := by
  have hl := hI.l
  have hlen := hI.len
  rw [hV] at hlen hl
  have hnm : 1 < m := by simp at hlen; omega
  have hl' : core x :: (l ++ V.nv.toList).map core = pdW1 :: (List.range' 2 (m - 2)).map pdSl := by
    rw [show m - 1 = (m - 2) + 1 by omega, List.range'_succ] at hl
    exact hl
  injection hl' with hx hrest
  have hxx : x = pdV1 := by
    have : x = { core x with stage := 3, left := 0 } := by
      cases x
      dsimp only [core] at *
      subst h3; subst hx0; rfl
    rw [this, hx]; rfl
  have hs : V.s = pdY := hI.s
  have hS : retS S V.s = pdH0 b p t 1#64 := by
    rw [hI.S, hs]
    show retS (if m ≤ 1 then pdH 201#64 b p t 0#64 e0T else pdH 201#64 b p t 0#64 (oneE pdEn)) pdY = _
    rw [if_neg (by omega)]
    rfl
  have hdT : dTV V S x false = dT pdY (pdH0 b p t 1#64) V.at_ V.stops pdV1 false := by unfold dTV; rw [hS, hs, hxx]
  have hq : (ivQ pdY (pdH0 b p t 1#64) false).2.2.2 = false := by unfold pdH0; rw [pd_iv 201#64 b p t 1#64 (oneE pdEn) pdY (by decide), pd_iv1]
  obtain ⟨e1, e2⟩ := doE_no (s := pdY) (S := pdH0 b p t 1#64) (x := pdV1) (line := false) hq rfl
  have htr : eTr (E3 pdY (pdH0 b p t 1#64) pdV1) = true := by rw [← rF_trap, pd_q1]
  have n1 := does_n pdY (pdH0 b p t 1#64) V.at_ V.stops pdV1 false
  have n2 := does_ret pdY (pdH0 b p t 1#64) V.at_ V.stops pdV1 false
  have n3 := does_st pdY (pdH0 b p t 1#64) V.at_ V.stops pdV1 false
  have n4 := does_fl pdY (pdH0 b p t 1#64) V.at_ V.stops pdV1 false
  have n5 := does_m pdY (pdH0 b p t 1#64) V.at_ V.stops pdV1 false
  rw [← hdT] at n1 n2 n3 n4 n5
  rw [e1] at n1 n2 n3 n4 n5
  rw [e2] at n1 n5
  rw [htr, Bool.true_or] at n4
  rw [htr, cond_true, pd_qs] at n5
  rw [pd_q1] at n2
  rw [show eT (E3 pdY (pdH0 b p t 1#64) pdV1) = pdZ2 b p t 1#64 from rfl] at n3
  have n5' : (dTV V S x false).theM (retS S V.s) = pdH0 b p t 1#64 := by rw [hS]; exact n5
  have hd : (dTV V S x false).needB = true := by
    rw [n1, pd_d2, trN_true, tailN_trap _ _ htr]; simp
  have hV1 := after_eq V S x l false
  rw [n4, n3, cond_true, pd_pc0] at hV1
  have key := cyc_some hV h3 hx0 late pick h0 h7 false (by have := hI.sl.1; rw [hV] at this; simp at this; omega) hd hV1 n5' ⟨by simp, fun y hy => by cases hy⟩ (fun y hy => by cases hy) (fun y hy => by cases hy)
    (fetN_mk (by rw [pd_zn]; simp) (pd_zf ..) pd_x0.1 pd_x0.2.1)
  rw [n2] at key
  refine ⟨_, _, key, ?_⟩
  have := mu_less (V := ⟨pdZ2 b p t 1#64, [], none, 0#64, false⟩) (S := pdH0 b p t 1#64) (late := late) (pick := pick) h0 h7 ⟨by simp, fun y hy => by cases hy⟩ (fun y hy => by cases hy) (fun _ _ => rfl) (fun y l' h => by cases h)
  exact Nat.le_of_lt this
theorem pd_drive1 (b p t : Nat) : Drive 2 false fun L V S => L = (List.range L.length).map (fun i => (pdP 207#64 b p t).ret (0 + i)) ∧ L.length ≤ 2 ∧ ∃ m, PInv (pdP 207#64 b p t) (0 + L.length) m V S := drive_plan (pd_plan 207#64 b p t 2 (.inr ⟨rfl, by omega⟩)) (n := 0) 2 (by omega)
def pdL0 : List RetV := [⟨0#64, 0x18029073, 0, 0#64, false, 0#64, 0#64, 0#64, false, 0, false, false⟩]
theorem pd_drive0 (b p t : Nat) : Drive 2 false fun L V S => (L.length ≤ 1 ∧ L = (List.range L.length).map (fun i => (pdP 201#64 b p t).ret i) ∧ ∃ m, PInv (pdP 201#64 b p t) L.length m V S) ∨ (L = pdL0 ++ [pdR] ∧ mu V ≤ 21) := by
  refine ⟨fun L V S h => ?_, fun L V S late pick hL h0 h7 h => ?_⟩
  · rcases h with ⟨_, _, m, h⟩ | ⟨_, h⟩
    · exact mu_le h.sl h.nv
    · exact h
  · rcases h with ⟨hk, e, m, h⟩ | ⟨h, _⟩
    · rcases plan_cyc (pd_plan 201#64 b p t 1 (.inl (by omega))) hk h h0 h7 pick with ⟨V', S', m', hc, hI, hmu⟩ | ⟨⟨x, l, hV, h3, hx0⟩, hN⟩
      · exact .inl ⟨V', S', hc, .inl ⟨hk, e, m', hI⟩, hmu⟩
      · by_cases c : L.length < 1
        · obtain ⟨V', S', m', hc, hI⟩ := hN c
          refine .inr ⟨_, V', S', hc, .inl ⟨by rw [List.length_append, List.length_singleton]; omega, ?_, m', by simpa using hI⟩⟩
          rw [List.length_append, List.length_singleton, List.range_succ, List.map_append, ← e]
          rfl
        · have h1 : L.length = 1 := by omega
          rw [h1] at h e
          obtain ⟨V', S', hc, hm⟩ := pd_trap b p t h hV h3 hx0 late pick h0 h7
          refine .inr ⟨_, V', S', hc, .inr ⟨?_, hm⟩⟩
          rw [e]; rfl
    · rw [h] at hL; simp [pdL0] at hL
end Go.Proofs.YtfehilinnalflaaGreat
namespace Go.Proofs.YtfehilinnalflaaGreat
open Go.RowKit Go.BigFrame
set_option linter.unusedSimpArgs false
set_option linter.unusedVariables false
set_option maxRecDepth 100000
theorem pd_fbT {w w5 w6 : World} (h : Below w.heap.size w w5) (k : Fr (fun c => w.heap.size ≤ c) w5 w6) : Below w.heap.size w w6 :=
  ⟨k.os.trans h.os, k.tape.trans h.tape, k.output.trans h.output, Nat.le_trans h.size k.size, fun i hi => (k.block i (Nat.lt_of_lt_of_le hi h.size) (fun e => by omega)).trans (h.block i hi)⟩
def pdSaT : St := { St0 with lev := 1 }
def pdSbT : St := { pdSaT with x := updC St0.x 5 0x8000000000000010#64 }
theorem pd_zaT : Tryz.zeroCells37.setIfInBounds 33 (.int .i64 1) = stA pdSaT := by kernel_rfl
theorem pd_zbT : (stA pdSaT).setIfInBounds 5 (.int .u64 9223372036854775824) = stA pdSbT := by kernel_rfl
theorem pd_zcT : (stA pdSbT).setIfInBounds 7 (.int .u64 264) = stA pdS := by kernel_rfl
theorem pd_orT : U (7680#64 ||| 207#64) = .int .u64 (bits .or .u64 7680 207) := by kernel_rfl
theorem pd_coT : codeOf 4096#64 8 = 0 ∧ codeOf 4352#64 8 = 0 ∧ codeOf 4360#64 8 = 0 ∧ codeOf 7688#64 8 = 0 := by refine ⟨?_, ?_, ?_, ?_⟩ <;> kernel_rfl
set_option maxHeartbeats 4000000 in
theorem walkWholePagedT (late : Int) (w0 : (Lit.int .u8 late).wf = true) (w : World) :
    Calls Tryz.prog 4 #[.int .u8 late, .bool true] w fun e w' => e = .returned (.bool true) ∧ Below w.heap.size w w' := by
  obtain ⟨lN, rfl, hlN⟩ := u8_open w0
  have HLN := Lib.hid hlN
  clear w0 hlN
  go_enter Tryz.func4, Tryz.ntmps4
  go_wp2_with fail
  (with_reducible refine (known_b.run _).mono ?_)
  rintro e w1 ⟨rfl, HB0⟩
  have HB0 := Lib.hid HB0
  go_wp2_with fail
  have hk := (MapKept.heap_alloc w1 (.cells #[.int .i64 54, .int .i64 0, .int .i64 5, .int .i64 0, .int .i64 0, .int .i64 384, .int .i64 14, .int .i64 6, .int .i64 7, .int .i64 0, .int .i64 0, .int .i64 0, .int .i64 22, .int .i64 8, .int .i64 0, .int .i64 0, .int .i64 3, .int .i64 0] 28)).1
  have hb0 : Below w.heap.size w (w1.alloc (.cells #[.int .i64 54, .int .i64 0, .int .i64 5, .int .i64 0, .int .i64 0, .int .i64 384, .int .i64 14, .int .i64 6, .int .i64 7, .int .i64 0, .int .i64 0, .int .i64 0, .int .i64 22, .int .i64 8, .int .i64 0, .int .i64 0, .int .i64 3, .int .i64 0] 28)) := HBstep HB0.out ((Below.refl _ _).alloc (Nat.le_refl _) _)
  generalize w1.alloc (.cells #[.int .i64 54, .int .i64 0, .int .i64 5, .int .i64 0, .int .i64 0, .int .i64 384, .int .i64 14, .int .i64 6, .int .i64 7, .int .i64 0, .int .i64 0, .int .i64 0, .int .i64 22, .int .i64 8, .int .i64 0, .int .i64 0, .int .i64 3, .int .i64 0] 28) = W1 at hk hb0 ⊢
  have key := laid_code [pdI0, pdI1, pdI2] (by decide) pdE (fun j x hx => by
    match j, hx with
    | 0, hx => cases hx; exact pd_enc0
    | 1, hx => cases hx; exact pd_enc1
    | 2, hx => cases hx; exact pd_enc2
    | j + 3, hx => cases hx) W1 w1.heap.size 28 hk 3 rfl
  (with_reducible refine key.mono ?_)
  clear key
  rintro e w2 ⟨p, g, q, h, rfl, hA, hL⟩
  have HM := Lib.hid (show IsMem w2 p g 92 pdF0 from hL.m)
  have hA1 := Lib.hid (show w.heap.size ≤ p ∧ w.heap.size ≤ g from ⟨Nat.le_trans hb0.size hA.lp, Nat.le_trans hb0.size hA.lg⟩)
  have HB2 := Lib.hid (HBstep hb0 hL.hb)
  clear hk hb0 hA hL HB0
  obtain ⟨q1, q2, q3, q4⟩ := pd_coT
  have Q1 := Lib.hid q1
  have Q2 := Lib.hid q2
  have Q3 := Lib.hid q3
  have Q4 := Lib.hid q4
  clear q1 q2 q3 q4
  have k1 : Calls Tryz.prog 13 #[.pointer (some ⟨p, 0, none⟩), .int .u64 4096, .int .i64 8, .int .u64 4353] w2 _ := write_all 4096#64 8 4353#64 w2 HM.out
  have K1 := Lib.hid k1
  clear k1
  go_wp2_with fail
  (with_reducible refine K1.out.mono ?_)
  rintro e w3 ⟨rfl, hu, M3⟩
  have HB3 := Lib.hid (hu.below HB2.out HB2.out.size hA1.out.2)
  have k2 : Calls Tryz.prog 13 #[.pointer (some ⟨p, 0, none⟩), .int .u64 4352, .int .i64 8, .int .u64 207] w3 _ := write_all 4352#64 8 207#64 w3 M3
  have K2 := Lib.hid k2
  clear hu M3 k2 K1 HB2 HM
  go_wp2_with fail
  (with_reducible refine K2.out.mono ?_)
  rintro e w4 ⟨rfl, hu, M4⟩
  have HB4 := Lib.hid (hu.below HB3.out HB3.out.size hA1.out.2)
  have k3 : Calls Tryz.prog 13 #[.pointer (some ⟨p, 0, none⟩), .int .u64 4360, .int .i64 8, .int .u64 (bits .or .u64 7680 207)] w4 _ := pd_orT ▸ write_all 4360#64 8 (7680#64 ||| 207#64) w4 M4
  have K3 := Lib.hid k3
  clear hu M4 k3 K2 HB3
  go_wp2_with fail
  (with_reducible refine K3.out.mono ?_)
  rintro e w5 ⟨rfl, hu, M5⟩
  have HB5 := Lib.hid (hu.below HB4.out HB4.out.size hA1.out.2)
  have k4 : Calls Tryz.prog 13 #[.pointer (some ⟨p, 0, none⟩), .int .u64 7688, .int .i64 8, .int .u64 4242] w5 _ := write_all 7688#64 8 4242#64 w5 M5
  have K4 := Lib.hid k4
  clear hu M5 k4 K3 HB4
  go_wp2_with fail
  (with_reducible refine K4.out.mono ?_)
  rintro e w6 ⟨rfl, hu, M6⟩
  have HM := Lib.hid (show IsMem w6 p g 92 (pdF 207#64) from M6)
  have HB2 := Lib.hid (hu.below HB5.out HB5.out.size hA1.out.2)
  clear hu M6 K4 HB5
  have hz1 : HasSt (w6.alloc (.cells Tryz.zeroCells37 37)) w6.heap.size St0 := by rw [z37]; exact HasSt.new w6 St0
  have hz0 := st_new w6 pdSaT
  rw [← z37] at hz0
  have hzs := pd_zaT
  obtain ⟨k3, hk3⟩ : ∃ k3, w6.heap.size = k3 := ⟨_, rfl⟩
  rw [hk3] at hz0 hz1
  obtain ⟨W3, hW3⟩ : ∃ W3, (w6.alloc (.cells Tryz.zeroCells37 37)).setRow k3 (stA pdSaT) = W3 := ⟨_, rfl⟩
  rw [hW3] at hz0
  have H1 := Lib.hid hz1
  have H0 := Lib.hid hz0
  clear hz1 hz0
  have c5 : W3.cell? ⟨k3, 5, none⟩ = some (U (pdSaT.x 5)) := H0.out.1.cell (stA_x pdSaT 5 (by omega))
  have c7 : W3.cell? ⟨k3, 7, none⟩ = some (U (pdSaT.x 7)) := H0.out.1.cell (stA_x pdSaT 7 (by omega))
  have cf : ∀ j, W3.frozen? ⟨k3, j, none⟩ = false := fun j => H0.out.1.free j
  go_wp2_with (first | (refine step_sts (S := pdSaT) rfl rfl H1.out rfl rfl rfl ?_; rw [hW3]))
  have s0 : HasSt ((W3.setCell ⟨k3, 5, none⟩ (.int .u64 9223372036854775824)).setCell ⟨k3, 7, none⟩ (.int .u64 264)) k3 pdS := (H0.out.1.set 5 _ pd_zbT).set 7 _ pd_zcT
  have hk : w6.heap.size ≤ k3 := by omega
  have b3 : Below w6.heap.size w6 W3 := by rw [hk3]; exact H0.out.2
  have b4 : Below w6.heap.size w6 ((W3.setCell ⟨k3, 5, none⟩ (.int .u64 9223372036854775824)).setCell ⟨k3, 7, none⟩ (.int .u64 264)) := by
    have h1 := st_cell (k := 5) (v := .int .u64 9223372036854775824) b3 b3.size hk
    exact st_cell (k := 7) (v := .int .u64 264) h1 h1.size hk
  generalize ((W3.setCell ⟨k3, 5, none⟩ (.int .u64 9223372036854775824)).setCell ⟨k3, 7, none⟩ (.int .u64 264)) = W4 at s0 b4 ⊢
  have HS4 := Lib.hid s0
  have HM4 := Lib.hid (HM.out.below b4)
  have HB4 := Lib.hid (HBstep HB2.out b4)
  clear s0 hk b3 b4 c5 c7 cf H0 H1 hW3 hk3 hzs HM HB2 Q1 Q2 Q3 Q4
  go_cut [10] from 42 to 45 (fun v wx => ∃ (P : Nat) (G : Nat → Prop) (b t : Nat), v = .pointer (some ⟨P, 0, none⟩) ∧ Pip wx G P ⟨cleanS pdS, [], none, (cleanS pdS).pc, false⟩ ⟨busV0 (pdF 207#64), tl0, b, p, t⟩ ∧ (∀ c, G c → w.heap.size ≤ c) ∧ Below w.heap.size w wx)
  case first =>
    have sd : HasSt W4.drew k3 pdS := HS4.out.below (Below.refl _ _).drew
    have md : IsMem W4.drew p g 92 (pdF 207#64) := HM4.out.below (Below.refl _ _).drew
    have bd : Below w.heap.size w W4.drew := HBstep HB4.out (Below.refl _ _).drew
    have SD := Lib.hid sd
    have MD := Lib.hid md
    have BD := Lib.hid bd
    clear sd md bd
    refine wp_region_any (by kernel_rfl) ?_
    show wpAny _ _ _ _ 5 #[false, false, false, false, false] _ W4.drew
    refine wpAny_take (i := 1) rfl (by kernel_rfl) (by kernel_rfl) (by kernel_rfl) (fun c a w h => h) (.inl ⟨rfl, fun w => rfl⟩) ?_
    refine wpAny_all (rs := [0, 2]) (by kernel_rfl) (by simp) ?_
    intro i hi
    have hi' : i = 0 ∨ i = 2 := by simpa using hi
    rcases hi' with rfl | rfl
    · skip
      refine wpOp_step rfl ?_
      intro K1 hK1
      refine step_load_rl SD.out rfl rfl rfl (hK1 _ _ ?_)
      refine wpAny_all (rs := [2]) (by kernel_rfl) (by simp) ?_
      intro i hi
      obtain rfl : i = 2 := by simpa using hi
      refine wpOp_step rfl ?_
      intro K2 hK2
      rw [if_pos (by simp [Region.wanted])]
      unfold Oper.wp
      go_simp
      (with_reducible refine (bus_b _ MD.out).mono ?_)
      rintro e w5 ⟨b, rfl, hbl, ⟨ks, vs, hBus⟩, hb5⟩
      refine hK2 _ _ ?_
      refine wpAny_all (rs := [3]) (by kernel_rfl) (by simp) ?_
      intro i hi
      obtain rfl : i = 3 := by simpa using hi
      refine wpOp_step rfl ?_
      intro K3 hK3
      rw [if_pos (by simp [Region.wanted])]
      unfold Oper.wp
      go_simp
      (with_reducible refine (pipe_b (B := w.heap.size) hBus pdS (Nat.le_trans BD.out.size hbl) hA1.out.1 hA1.out.2 (HBstep BD.out hb5).size).mono ?_)
      rintro e w6 ⟨P, G, t, rfl, hP, hG, hF⟩
      have hb6 := pd_fbT (HBstep BD.out hb5) hF
      refine hK3 _ _ ?_
      refine wpAny_all (rs := [4]) (by kernel_rfl) (by simp) ?_
      intro i hi
      obtain rfl : i = 4 := by simpa using hi
      refine wpOp_step rfl ?_
      intro K4 hK4
      rw [if_pos (by simp [Region.wanted])]
      unfold Oper.wp
      go_simp
      refine hK4 _ _ ?_
      refine wpAny_done (by kernel_rfl) ?_ _
      go_wp2_with fail
      go_meet
      exact ⟨P, G, b, t, rfl, hP, hG, hb6⟩
    · skip
      refine wpOp_step rfl ?_
      intro K2 hK2
      rw [if_pos (by simp [Region.wanted])]
      unfold Oper.wp
      go_simp
      (with_reducible refine (bus_b _ MD.out).mono ?_)
      rintro e w5 ⟨b, rfl, hbl, ⟨ks, vs, hBus⟩, hb5⟩
      refine hK2 _ _ ?_
      refine wpAny_all (rs := [0]) (by kernel_rfl) (by simp) ?_
      intro i hi
      obtain rfl : i = 0 := by simpa using hi
      refine wpOp_step rfl ?_
      intro K1 hK1
      refine step_load_rl (SD.out.below hb5) rfl rfl rfl (hK1 _ _ ?_)
      refine wpAny_all (rs := [3]) (by kernel_rfl) (by simp) ?_
      intro i hi
      obtain rfl : i = 3 := by simpa using hi
      refine wpOp_step rfl ?_
      intro K3 hK3
      rw [if_pos (by simp [Region.wanted])]
      unfold Oper.wp
      go_simp
      (with_reducible refine (pipe_b (B := w.heap.size) hBus pdS (Nat.le_trans BD.out.size hbl) hA1.out.1 hA1.out.2 (HBstep BD.out hb5).size).mono ?_)
      rintro e w6 ⟨P, G, t, rfl, hP, hG, hF⟩
      have hb6 := pd_fbT (HBstep BD.out hb5) hF
      refine hK3 _ _ ?_
      refine wpAny_all (rs := [4]) (by kernel_rfl) (by simp) ?_
      intro i hi
      obtain rfl : i = 4 := by simpa using hi
      refine wpOp_step rfl ?_
      intro K4 hK4
      rw [if_pos (by simp [Region.wanted])]
      unfold Oper.wp
      go_simp
      refine hK4 _ _ ?_
      refine wpAny_done (by kernel_rfl) ?_ _
      go_wp2_with fail
      go_meet
      exact ⟨P, G, b, t, rfl, hP, hG, hb6⟩
  case rest =>
    obtain ⟨P, G, b, t, rfl, hP, hG, hb6⟩ := hcut
    have hP2 : Pip wc G P ⟨pdB, [], none, pdB.pc, false⟩ (pdH 207#64 b p t 0#64 e0T) := by
      have e : (⟨busV0 (pdF 207#64), e0T, b, p, t⟩ : HS) = pdH 207#64 b p t 0#64 e0T := rfl
      rw [tl0_eq, e] at hP
      exact hP
    have hI0 := pinv0 (pdP 207#64 b p t) pdB (pdH 207#64 b p t 0#64 e0T) rfl rfl (by rw [pd_pb]; rfl)
    have hw0 : wrap64 (lN : Int) = (lN : Int) := w64_in _ (by have := HLN.out; omega)
    have kR : Calls Tryz.prog 12 #[.pointer (some ⟨P, 0, none⟩), .int .i64 2, .int .i64 (lN : Int)] wc _ := runs_w (pd_drive1 b p t) (by omega) lN (by have := HLN.out; omega) hP2 ⟨rfl, by simp, 0, hI0⟩
    rw [← hw0] at kR
    clear hw0
    have KR := Lib.hid kR
    have HG := Lib.hid hG
    have HB := Lib.hid hb6
    clear hP hG hb6 HS4 HM4 HB4 hA1 hP2 hI0 kR
    go_wp2_with fail
    (with_reducible refine KR.out.mono ?_)
    rintro e w7 ⟨v, L, t7, rfl, hlen, hR⟩
    obtain ⟨V7, S7, G7, hI7, hP7, hW7, hRt, _⟩ := hR.st
    have hL : L = pdL0 ++ [⟨4#64, 0x0003b303, 6, 4242#64, false, 0#64, 0#64, 0#64, false, 0, false, false⟩] := by
      have e := hI7.1
      rw [hlen] at e
      rw [e]; rfl
    have FIN := Lib.hid (show Below w.heap.size w w7 from by
      have h1 := hW7
      exact ⟨h1.fr.os.trans HB.out.os, h1.fr.tape.trans HB.out.tape, h1.fr.output.trans HB.out.output, Nat.le_trans HB.out.size h1.fr.size, fun k hk => (h1.fr.block k (Nat.lt_of_lt_of_le hk HB.out.size) (fun hg => by have := HG.out k hg; omega)).trans (HB.out.block k hk)⟩)
    subst hL
    rcases hRt with ⟨_, h0⟩ | ⟨La, ca, rfl, hAt, _, _⟩
    · cases h0
    have x4 : w7.cell? ⟨La, 4, none⟩ = some (.bool false) := hAt.cell (k := 0) (j := 4) rfl rfl
    have y2 : w7.cell? ⟨La, 14, none⟩ = some (.int .i64 6) := hAt.cell (k := 1) (j := 2) rfl rfl
    have y3 : w7.cell? ⟨La, 15, none⟩ = some (.int .u64 4242) := hAt.cell (k := 1) (j := 3) rfl rfl
    have y4 : w7.cell? ⟨La, 16, none⟩ = some (.bool false) := hAt.cell (k := 1) (j := 4) rfl rfl
    have y5 : w7.cell? ⟨La, 17, none⟩ = some (.int .u64 0) := hAt.cell (k := 1) (j := 5) rfl rfl
    have y6 : w7.cell? ⟨La, 18, none⟩ = some (.int .u64 0) := hAt.cell (k := 1) (j := 6) rfl rfl
    have y7 : w7.cell? ⟨La, 19, none⟩ = some (.int .u64 0) := hAt.cell (k := 1) (j := 7) rfl rfl
    have y8 : w7.cell? ⟨La, 20, none⟩ = some (.bool false) := hAt.cell (k := 1) (j := 8) rfl rfl
    have y9 : w7.cell? ⟨La, 21, none⟩ = some (.int .i64 0) := hAt.cell (k := 1) (j := 9) rfl rfl
    clear hAt hI7 hP7 hW7 hR KR HG HB hlen
    go_wp2_with fail
    go_ret
    exact ⟨rfl, FIN.out⟩
end Go.Proofs.YtfehilinnalflaaGreat
