/- The document's walk answers as walkV; no condition but the memory's. -/
import Derived.Test.YtkjbhjmjfacjcaaRefTab
import Derived.Test.YtkjbhjmjfacjcaaBusA
import Derived.Deep.RegionLaw
import Derived.Laws.AppendOwn
import Derived.OpenShut
namespace Go.Proofs.Ytkjbhjmjfacjcaa
open Go.RowKit Go.BigFrame
set_option linter.unusedSimpArgs false
set_option linter.unusedVariables false
set_option maxRecDepth 100000

/-- append of one whole number to a row of the call's own: its run. -/
theorem ints_app (W : World) (base : Nat) (v : Value) (n : Nat) (xs : List Value) (hown : W.ownsRow base 3 1 v n xs) (b : Nat) (x : Int) (hc : W.cell? ⟨b, 0, none⟩ = some (.int .i64 x)) (hn : n ≤ 1000) (hb : base ≤ W.heap.size) :
    ∃ v' w', (Builtin.append_ #[32, 32] 32 #[v, .slice (some ⟨b, 0, none⟩) 1 1]).run Try.prog W = .ok v' w' ∧ w'.ownsRow base 3 1 v' (n + 1) (xs ++ [.int .i64 x]) ∧ W.grownBy w' v.ownBlock ∧ ∃ a l c, v' = .slice a l c := by
  obtain ⟨i0, hi, hz0, hz1, hz2⟩ := info_parts (P := Try.prog) (e := 3) (z := .int .i64 0) (size := 1) (bytes := 8) (by kernel_rfl)
  obtain ⟨v', w', h1, h2, h3, _⟩ := run_append_own (P := Try.prog) W base 32 32 3 i0 (.int .i64 0) 1 8 Try.underlying32 hi hz0 hz1 hz2 rfl (by omega) v n xs hown ⟨b, 0, none⟩ 1 1 [.int .i64 x] rfl
    (fun j u hu => by
      match j, hu with
      | 0, hu => simp at hu; subst hu; exact hc) (fun u hu => by simp at hu; subst hu; rfl) (by simp only [maxLen]; omega) (by omega) hb
  refine ⟨v', w', h1, h2, h3, ?_⟩
  rcases h2.2 with ⟨rfl, _⟩ | ⟨g, c, cur, rfl, _⟩ <;> exact ⟨_, _, _, rfl⟩
theorem wpList_append_ex {P : Program} {ops : Array Oper} {rest : List Oper} {o : Oper} {a : Act} {w : World} {Q : Exit → Act → World → Prop} (hgd : o.guard = none) (s x : Operand) (t1 t2 : TypeId)
    (ho : o.op = .call { callee := .builtin .append, args := #[s, x], argTypes := #[t1, t2] }) (sv xv : Value) (hs : a.eval s = sv) (hx : a.eval x = xv) {Φ : Value → World → Prop}
    (hr : ∃ v w', (Builtin.append_ #[t1, t2] o.type #[sv, xv]).run P w = .ok v w' ∧ Φ v w') (h : ∀ v w', Φ v w' → wpList P ops Q rest (a.put o.dst v) w') : wpList P ops Q (o :: rest) a w := by
  obtain ⟨v, w', h1, h2⟩ := hr
  exact wpList_append_run hgd s x t1 t2 ho sv xv hs hx v w' h1 (h v w' h2)
/-- A result that lies in cells, as the walk ends. -/
theorem loadVar_list {P : Program} (w : World) (g : Nat) (ty : TypeId) (cs : List Value) (d : TypeDesc) (hc : ∀ j v, cs[j]? = some v → w.cell? ⟨g, j, none⟩ = some v)
    (hu : P.underlying ty = some d) (hd : (match d with | .struct _ | .array _ _ => true | _ => false) = true) (hi : (P.info? ty).map (·.size) = some cs.length) :
    (loadVar ty ⟨g, 0, none⟩).run P w = .ok (.agg cs.toArray) w := by
  have hl : (loadCells ⟨g, 0, none⟩ cs.length).run P w = .ok cs.toArray w :=
    run_loadCells_list (P := P) w ⟨g, 0, none⟩ cs (fun j v hv => by
      have hadd : (⟨g, 0, none⟩ : Addr).add j = ⟨g, j, none⟩ := by unfold Addr.add; split <;> simp_all
      rw [hadd]
      exact hc j v hv)
  cases hq : P.info? ty with
  | none => simp [hq] at hi
  | some i =>
    have hs : i.size = cs.length := by simpa [hq] using hi
    have hagg : (isAgg ty).run P w = .ok true w := by
      unfold isAgg
      rw [Sem.run_bind, run_underlying hu w]
      cases d <;> simp_all
    simp [loadVar, Sem.run_bind, hagg, sizeOf, typeInfo, hq, hs, hl]
theorem cell_ret {P : Program} {fn : Func} {p : Tmp} {ty : TypeId} (h : fn.results = #[.cell p ty]) (tmps : Array Value) (w : World) (g : Nat) (cs : List Value) (d : TypeDesc)
    (hp : tmps.getD p undef = .pointer (some ⟨g, 0, none⟩)) (hc : ∀ j v, cs[j]? = some v → w.cell? ⟨g, j, none⟩ = some v)
    (hu : P.underlying ty = some d) (hd : (match d with | .struct _ | .array _ _ => true | _ => false) = true) (hi : (P.info? ty).map (·.size) = some cs.length) :
    (results fn tmps).run P w = .ok (.agg cs.toArray) w := by
  have hp' : tmps[p]?.getD undef = .pointer (some ⟨g, 0, none⟩) := by simpa using hp
  simp [results, h, hp', asAddr, loadVar_list w g ty cs d hc hu hd hi]
theorem four_cells {w : World} {g : Nat} {a b c d : Value} (h0 : w.cell? ⟨g, 0, none⟩ = some a) (h1 : w.cell? ⟨g, 1, none⟩ = some b) (h2 : w.cell? ⟨g, 2, none⟩ = some c) (h3 : w.cell? ⟨g, 3, none⟩ = some d) :
    ∀ j v, ([a, b, c, d] : List Value)[j]? = some v → w.cell? ⟨g, j, none⟩ = some v := by
  intro j v hv
  match j, hv with
  | 0, hv => simp at hv; subst hv; exact h0
  | 1, hv => simp at hv; subst hv; exact h1
  | 2, hv => simp at hv; subst hv; exact h2
  | 3, hv => simp at hv; subst hv; exact h3
theorem rwalk_far {p g : Nat} {f : Nat → UInt8} (root : Int) (at_ : BitVec 64) (w : World) (h : 65536 ≤ at_.toNat) :
    Calls Try.prog 17 #[.pointer (some ⟨p, 0, none⟩), .int .i64 root, U at_] w fun e w' => e = .returned (.agg #[.int .u64 0, .int .i64 0, .int .i64 1, .slice none 0 0]) ∧ Below w.heap.size w w' := by
  have d0 : decide ((65536 : Int) ≤ (at_.toNat : Int)) = true := decide_eq_true (by omega)
  clear h
  go_enter Try.func17, Try.ntmps17
  go_wp2
  (try simp only [Exit.inBlock, Exit.then])
  refine bodyPost_ret (cell_ret rfl _ _ w.heap.size _ _ rfl (four_cells (a := .int .u64 0) (b := .int .i64 0) (c := .int .i64 1) (d := .slice none 0 0) (by go_cell) (by go_cell) (by go_cell) (by go_cell)) Try.underlying34 rfl (by kernel_rfl)) rfl ?_
  refine ⟨rfl, ?_⟩
  exact ((Below.refl _ _).alloc (Nat.le_refl _) _).alloc (by simp) _
theorem cell_at {w : World} {b : Nat} {cs : Array Value} {T : TypeId} (h : w.heap[b]? = some (.cells cs T (0, 0))) (j : Nat) {v : Value} (hv : cs[j]? = some v) : w.cell? ⟨b, j, none⟩ = some v := by simp [World.cell?, h, hv]
theorem free_at {w : World} {b : Nat} {cs : Array Value} {T : TypeId} (h : w.heap[b]? = some (.cells cs T (0, 0))) (j : Nat) : w.frozen? ⟨b, j, none⟩ = false := by simp [World.frozen?, h]
abbrev wz (v : Value) : Array Value := #[.int .u64 0, .int .i64 0, .int .i64 0, v]
/-- What lies in memory on the way of the document's walk: its result's cells, the cells of w. -/
structure WB (w W : World) (v : Value) (p g : Nat) (f : Nat → UInt8) : Prop where
  r : W.heap[w.heap.size]? = some (.cells (wz (.slice none 0 0)) 34 (0, 0))
  v : W.heap[w.heap.size + 1]? = some (.cells (wz v) 34 (0, 0))
  m : IsMem W p g 85 f
  hb : Below w.heap.size w W
  z : w.heap.size + 3 ≤ W.heap.size
theorem WB.grown {w W W' : World} {v v' : Value} {p g : Nat} {f : Nat → UInt8} {row : Option Nat} (h : WB w W v p g f) (k : W.grownBy W' row) (hr : ∀ i, row = some i → w.heap.size + 3 ≤ i) (hp : p < w.heap.size) (hg : g < w.heap.size) :
    WB w (W'.setCell ⟨w.heap.size + 1, 3, none⟩ v') v' p g f := by
  have hz := h.z
  have o : ∀ i, i < w.heap.size + 3 → W'.heap[i]? = W.heap[i]? := fun i hi => k.block i (by omega) (fun e => by have := hr i e.symm; omega)
  have s1 := k.size
  have r2 : (W'.setCell ⟨w.heap.size + 1, 3, none⟩ v').heap.size = W'.heap.size := by show (W'.heap.modify _ _).size = _; simp
  refine ⟨?_, ?_, ?_, ?_, by omega⟩
  · rw [set_other _ _ _ _ _ (by omega), o _ (by omega)]; exact h.r
  · have := set_block (v := v') ((o (w.heap.size + 1) (by omega)).trans h.v) (show 3 < (wz v).size by simp [wz])
    rw [this]; rfl
  · obtain ⟨rs, a, b⟩ := h.m
    exact ⟨rs, by rw [set_other _ _ _ _ _ (by omega), o _ (by omega)]; exact a, by rw [set_other _ _ _ _ _ (by omega), o _ (by omega)]; exact b⟩
  · refine Below.setCell ?_ (by simp) _
    exact h.hb.trans ⟨k.os, k.tape, k.output, k.size, fun i hi => o i (by omega)⟩
theorem owns_keep {w w' : World} {base : Nat} {e : TypeId} {size : Nat} {v : Value} {n : Nat} {xs : List Value} (h : w.ownsRow base e size v n xs) (hk : ∀ i, base ≤ i → i < w.heap.size → w'.heap[i]? = w.heap[i]?) : w'.ownsRow base e size v n xs := by
  obtain ⟨h1, h2⟩ := h
  refine ⟨h1, h2.imp id ?_⟩
  rintro ⟨g, cap, cur, a, b, c, d⟩
  exact ⟨g, cap, cur, a, b, (hk g b (blk_lt c)).trans c, d⟩
theorem and15 (e : BitVec 64) : bits .and .i64 (frameB e : Int) 15 = ((bitsB e 8 4).toNat : Int) := by
  have k := bits_lt e 8 8 (by omega)
  have h15 : (BitVec.ofInt 64 15) = 15#64 := by decide
  have key : (BitVec.ofInt 64 (frameB e : Int) &&& BitVec.ofInt 64 15) = bitsB e 8 4 := by
    have e1 : BitVec.ofInt 64 (frameB e : Int) = bitsB e 8 8 := by apply BitVec.eq_of_toNat_eq; rw [BitVec.toNat_ofInt]; show _ = frameB e; unfold frameB; omega
    rw [e1, h15]
    apply BitVec.eq_of_getLsbD_eq
    intro i hi
    rw [BitVec.getLsbD_and, bits_bit, bits_bit]
    have e2 : (15#64).getLsbD i = decide (i < 4) := by
      rw [show (15#64) = BitVec.ofNat 64 (2 ^ 4 - 1) from rfl, BitVec.getLsbD_ofNat, Nat.testBit_two_pow_sub_one]; simp [hi]
    rw [e2]
    by_cases c : i < 4
    · simp [c, show i < 8 by omega, show i < 64 by omega]
    · simp [c]
  show IntKind.i64.wrap ((BitVec.ofInt 64 (frameB e : Int) &&& BitVec.ofInt 64 15).toNat : Nat) = _
  rw [key]
  exact i64_of_u64 _ (by have := bits_lt e 8 4 (by omega); omega)
theorem or_low (e a : BitVec 64) (h : bitsB e 8 4 = 0#64) : bits .or .u64 (e.toNat : Int) (((bitsB a 8 4).toNat : Int) * 256) = ((setB e 8 4 (bitsB a 8 4)).toNat : Int) := by
  have k := bits_lt a 8 4 (by omega)
  have h1 := u_or e ((bitsB a 8 4) <<< 8)
  have h2 := u_shl (bitsB a 8 4) 8
  rw [IntWalk.u64_in _ ⟨by omega, by omega⟩] at h2
  rw [← h2] at h1
  rw [show (256 : Int) = 2 ^ 8 from rfl, h1]
  congr 2
  apply BitVec.eq_of_getLsbD_eq
  intro i hi
  rw [set_bit _ _ _ _ _ hi, BitVec.getLsbD_or, BitVec.getLsbD_shiftLeft]
  have z : ∀ j, j < 4 → e.getLsbD (8 + j) = false := fun j hj => by
    have := congrArg (fun x : BitVec 64 => x.getLsbD j) h
    simp only [bits_bit] at this
    simpa [hj, show j < 64 by omega] using this
  by_cases c : 8 ≤ i
  · by_cases c2 : i < 12
    · have := z (i - 8) (by omega)
      rw [show 8 + (i - 8) = i by omega] at this
      rw [this]; simp [c, c2, hi, show ¬ i < 8 by omega]
    · simp only [bits_bit]
      simp [c, c2, hi, show ¬ i < 8 by omega, show ¬ (i - 8 < 4) by omega]
  · simp [c, hi, show i < 8 by omega]
/-- append whose run is known, as one step of a region that draws. -/
theorem step_append_run2 {P : Program} {ops : Array Oper} {o : Oper} {a : Act} {w : World} {K : Act → World → Prop} {Q : Exit → Act → World → Prop} {E : Prop}
    (hg : o.guard = none) (s x : Operand) (t tx : TypeId) (hop : o.op = Op.call { callee := Callee.builtin Builtin.append, args := #[s, x], argTypes := #[t, tx] })
    (sv xv : Value) (hs : a.eval s = sv) (hx : a.eval x = xv) (v : Value) (w' : World) (hrun : (Builtin.append_ #[t, tx] o.type #[sv, xv]).run P w = .ok v w')
    (hK : K (a.put o.dst v) w') : if Region.wanted o (yielded ops a.tmps) = true then Oper.wp P o a w K Q else E := by
  have hw : Region.wanted o (yielded ops a.tmps) = true := by simp [Region.wanted, hg]
  rw [if_pos hw]
  unfold Oper.wp
  simp [execOp, hop, resolve, invoke, builtin, hs, hx, hrun, Result.andThen]
  exact hK
set_option maxHeartbeats 4000000 in
theorem rwalk_near {p g : Nat} {f : Nat → UInt8} (root : Int) (at_ e0 e1 : BitVec 64) (c0 c1 : Bool) (w : World) (hM : IsMem w p g 85 f) (h : at_.toNat < 65536)
    (he0 : ∀ W, IsMem W p g 85 f → Calls Try.prog 19 #[.pointer (some ⟨p, 0, none⟩), .int .i64 root, .int .i64 ((bitsB at_ 12 4).toNat : Int)] W fun e w' => e = .returned (.tuple #[U e0, .bool c0]) ∧ W = w')
    (he1 : ∀ W, IsMem W p g 85 f → Calls Try.prog 19 #[.pointer (some ⟨p, 0, none⟩), .int .i64 (frameB e0 : Int), .int .i64 ((bitsB at_ 8 4).toNat : Int)] W fun e w' => e = .returned (.tuple #[U e1, .bool c1]) ∧ W = w')
    (r : BitVec 64 × Int) (hr : r = if c0 = false then (0#64, 2) else if isB e0 = false then (0#64, 1) else if leafB e0 = true then (if bitsB e0 8 4 = 0#64 then (setB e0 8 4 (bitsB at_ 8 4), 0) else (0#64, 1)) else if c1 = false then (0#64, 2) else if leafB e1 = true then (e1, 0) else (0#64, 1)) :
    Calls Try.prog 17 #[.pointer (some ⟨p, 0, none⟩), .int .i64 root, U at_] w fun e w' => (∃ fr ta tl tc, e = .returned (.agg #[U r.1, .int .i64 fr, .int .i64 r.2, .slice ta tl tc])) ∧ Below w.heap.size w w' := by
  have d0 : decide ((65536 : Int) ≤ (at_.toNat : Int)) = false := decide_eq_false (by omega)
  have h1 : bits .and .u64 ((at_.toNat : Int) / 4096) 15 = ((bitsB at_ 12 4).toNat : Int) := part_of at_ 12 4 (by omega) (by omega)
  have h2 : bits .and .u64 ((at_.toNat : Int) / 256) 15 = ((bitsB at_ 8 4).toNat : Int) := part_of at_ 8 4 (by omega) (by omega)
  have w1 := i64_of_u64 (bitsB at_ 12 4) (by have := bits_lt at_ 12 4 (by omega); omega)
  have w2 := i64_of_u64 (bitsB at_ 8 4) (by have := bits_lt at_ 8 4 (by omega); omega)
  have hpl := hM.p_lt
  have hgl := hM.g_lt
  have HE0 := Lib.hid he0
  have HE1 := Lib.hid he1
  clear h
  have yw : IntKind.u64.wrap ((bitsB at_ 8 4).toNat : Int) = ((bitsB at_ 8 4).toNat : Int) := IntWalk.u64_in _ ⟨by omega, by have := bits_lt at_ 8 4 (by omega); omega⟩
  have yw2 : IntKind.u64.wrap (((bitsB at_ 8 4).toNat : Int) * 256) = ((bitsB at_ 8 4).toNat : Int) * 256 := IntWalk.u64_in _ ⟨by omega, by have := bits_lt at_ 8 4 (by omega); omega⟩
  have b0 : Below w.heap.size w ((w.alloc (.cells (wz (.slice none 0 0)) 34)).alloc (.cells (wz (.slice none 0 0)) 34)) := ((Below.refl _ _).alloc (Nat.le_refl _) _).alloc (by simp) _
  have M1 := hM.below b0
  clear he0 he1
  go_enter Try.func17, Try.ntmps17
  go_wp2_with fail
  (with_reducible refine (HE0.out _ M1).mono ?_)
  rintro e w' ⟨rfl, rfl⟩
  have WB0 : ∀ (w1 : World), (((w.alloc (.cells (wz (.slice none 0 0)) 34)).alloc (.cells (wz (.slice none 0 0)) 34)).alloc (.cells #[.int .i64 root] 3)).grownBy w1 none →
      w1.heap[w.heap.size]? = some (.cells (wz (.slice none 0 0)) 34 (0, 0)) ∧ w1.heap[w.heap.size + 1]? = some (.cells (wz (.slice none 0 0)) 34 (0, 0)) ∧ ∀ v', WB w (w1.setCell ⟨w.heap.size + 1, 3, none⟩ v') v' p g f := by
    intro w1 hg
    have h0 : WB w (((w.alloc (.cells (wz (.slice none 0 0)) 34)).alloc (.cells (wz (.slice none 0 0)) 34)).alloc (.cells #[.int .i64 root] 3)) (.slice none 0 0) p g f := by
      refine ⟨?_, ?_, M1.below ((Below.refl _ _).alloc (Nat.le_refl _) _), b0.alloc (by simp; omega) _, by simp⟩
      · rw [Below.heap_alloc _ _ _ (by simp; omega), Below.heap_alloc _ _ _ (by simp)]; exact (MapKept.heap_alloc _ _).1
      · have := (MapKept.heap_alloc (w.alloc (.cells (wz (.slice none 0 0)) 34)) (.cells (wz (.slice none 0 0)) 34)).1
        rw [Below.heap_alloc _ _ _ (by simp)]
        simpa using this
    have hz := h0.z
    refine ⟨(hg.block _ (by omega) (by simp)).trans h0.r, (hg.block _ (by omega) (by simp)).trans h0.v, fun v' => h0.grown hg (by simp) hpl hgl⟩
  have WB0 := Lib.hid WB0
  clear M1 b0
  by_cases hc0 : c0 = false
  · subst hc0
    rw [if_pos rfl] at hr
    subst hr
    go_wp2_with (at_builtin; refine wpList_append_ex rfl _ _ _ _ rfl _ _ rfl rfl (ints_app _ (w.heap.size + 3) (.slice none 0 0) 0 [] ⟨rfl, .inl ⟨rfl, rfl⟩⟩ (w.heap.size + 2) root (by go_simp) (by omega) (by simp)) ?_; rintro v w1 ⟨ho, hg, a1, l1, q1, rfl⟩; obtain ⟨q6, q7, WB1⟩ := WB0.out w1 hg; have WB1 := Lib.hid (WB1 (.slice a1 l1 q1)); have u0 := cell_at q6 0 rfl; have u1 := cell_at q6 1 rfl; have u2 := cell_at q6 2 rfl; have u3 := cell_at q6 3 rfl; have v0 := cell_at q7 0 rfl; have v1 := cell_at q7 1 rfl; have v2 := cell_at q7 2 rfl; have v3 := cell_at q7 3 rfl; have z6 := fun j => free_at q6 j; have z7 := fun j => free_at q7 j; clear q6 q7 hg)
    (try simp only [Exit.inBlock, Exit.then])
    refine bodyPost_ret (cell_ret rfl _ _ w.heap.size _ _ rfl (four_cells (a := .int .u64 0) (b := .int .i64 0) (c := .int .i64 2) (d := .slice a1 l1 q1) (by go_cell) (by go_cell) (by go_cell) (by go_cell)) Try.underlying34 rfl (by kernel_rfl)) rfl ?_
    refine ⟨⟨_, _, _, _, rfl⟩, ?_⟩
    iterate 5 (refine Below.setCell ?_ (by simp) _)
    exact WB1.out.hb
  obtain rfl : c0 = true := by simpa using hc0
  rw [if_neg (by simp)] at hr
  go_wp2_with (at_builtin; refine wpList_append_ex rfl _ _ _ _ rfl _ _ rfl rfl (ints_app _ (w.heap.size + 3) (.slice none 0 0) 0 [] ⟨rfl, .inl ⟨rfl, rfl⟩⟩ (w.heap.size + 2) root (by go_simp) (by omega) (by simp)) ?_; rintro v w1 ⟨ho, hg, a1, l1, q1, rfl⟩; obtain ⟨q6, q7, WB1⟩ := WB0.out w1 hg; have WB1 := Lib.hid (WB1 (.slice a1 l1 q1)); have u0 := cell_at q6 0 rfl; have u1 := cell_at q6 1 rfl; have u2 := cell_at q6 2 rfl; have u3 := cell_at q6 3 rfl; have v0 := cell_at q7 0 rfl; have v1 := cell_at q7 1 rfl; have v2 := cell_at q7 2 rfl; have v3 := cell_at q7 3 rfl; have z6 := fun j => free_at q6 j; have z7 := fun j => free_at q7 j; clear q6 q7 hg)
  have hO1 := owns_keep (w' := w1.setCell ⟨w.heap.size + 1, 3, none⟩ (.slice a1 l1 q1)) ho (fun i hi _ => set_other _ _ _ _ _ (by omega))
  obtain ⟨W, hW⟩ : ∃ W, W = w1.setCell ⟨w.heap.size + 1, 3, none⟩ (.slice a1 l1 q1) := ⟨_, rfl⟩
  rw [← hW] at WB1 hO1 ⊢
  clear ho u0 u1 u2 u3 v0 v1 v2 v3 z6 z7 WB0 hW hM
  have WBW := WB1.out
  clear WB1
  have WBH := Lib.hid WBW
  have q6 := WBW.r
  have q7 := WBW.v
  have M := Lib.hid WBW.m
  have HB := Lib.hid WBW.hb
  have hz := Lib.hid WBW.z
  have hpl := Lib.hid hpl
  have hgl := Lib.hid hgl
  clear WBW
  have Q6 := Lib.hid q6
  have Q7 := Lib.hid q7
  have u0 := cell_at q6 0 rfl
  have u1 := cell_at q6 1 rfl
  have u2 := cell_at q6 2 rfl
  have u3 := cell_at q6 3 rfl
  have v0 := cell_at q7 0 rfl
  have v1 := cell_at q7 1 rfl
  have v2 := cell_at q7 2 rfl
  have v3 := cell_at q7 3 rfl
  have z6 := fun j => free_at q6 j
  have z7 := fun j => free_at q7 j
  clear q6 q7
  (with_reducible refine (ris_s e0 W).mono ?_)
  rintro e w4 ⟨rfl, rfl⟩
  by_cases hi : isB e0 = false
  · rw [if_pos hi] at hr
    subst hr
    go_wp2
    (try simp only [Exit.inBlock, Exit.then])
    refine bodyPost_ret (cell_ret rfl _ _ w.heap.size _ _ rfl (four_cells (a := .int .u64 0) (b := .int .i64 0) (c := .int .i64 1) (d := .slice a1 l1 q1) (by go_cell) (by go_cell) (by go_cell) (by go_cell)) Try.underlying34 rfl (by kernel_rfl)) rfl ?_
    refine ⟨⟨_, _, _, _, rfl⟩, ?_⟩
    repeat (with_reducible refine Below.setCell ?_ (by simp) _)
    exact HB.out
  rw [if_neg hi] at hr
  have hi : isB e0 = true := by simpa using hi
  have hO1 := Lib.hid hO1
  go_wp2_with fail
  (with_reducible refine (rleaf_s e0 W).mono ?_)
  rintro e w4 ⟨rfl, rfl⟩
  by_cases hl : leafB e0 = true
  · rw [if_pos hl] at hr
    by_cases h5 : bitsB e0 8 4 = 0#64
    · rw [if_pos h5] at hr
      subst hr
      have AO := and15 e0
      have OL := or_low e0 at_ h5
      have tz : ((bitsB e0 8 4).toNat : Int) = 0 := by rw [h5]; rfl
      rw [tz] at AO
      clear h5 tz
      go_wp2_with fail
      (with_reducible refine (rframe_s e0 _).mono ?_)
      rintro e w4 ⟨rfl, rfl⟩
      go_wp2_with fail
      (with_reducible refine (rframe_s e0 _).mono ?_)
      rintro e w4 ⟨rfl, rfl⟩
      go_wp2
      (try simp only [Exit.inBlock, Exit.then])
      refine bodyPost_ret (cell_ret rfl _ _ w.heap.size _ _ rfl (four_cells (a := U (setB e0 8 4 (bitsB at_ 8 4))) (b := .int .i64 (bits .or .i64 (frameB e0 : Int) ((bitsB at_ 8 4).toNat : Int))) (c := .int .i64 0) (d := .slice a1 l1 q1) (by go_cell) (by go_cell) (by go_cell) (by go_cell)) Try.underlying34 rfl (by kernel_rfl)) rfl ?_
      refine ⟨⟨_, _, _, _, rfl⟩, ?_⟩
      repeat (with_reducible refine Below.setCell ?_ (by simp) _)
      exact HB.out
    · rw [if_neg h5] at hr
      subst hr
      have AO : (bits .and .i64 (frameB e0 : Int) 15 != 0) = true := by
        rw [and15, bne_iff_ne]; intro e; exact h5 (BitVec.eq_of_toNat_eq (by simp; omega))
      have AO2 : (bits .and .i64 (frameB e0 : Int) 15 == 0) = false := by simpa using AO
      clear h5
      go_wp2_with fail
      (with_reducible refine (rframe_s e0 _).mono ?_)
      rintro e w4 ⟨rfl, rfl⟩
      go_wp2_with fail
      (with_reducible refine (rframe_s e0 _).mono ?_)
      rintro e w4 ⟨rfl, rfl⟩
      obtain ⟨fr, hfr⟩ : ∃ fr, fr = bits .or .i64 (frameB e0 : Int) ((bitsB at_ 8 4).toNat : Int) := ⟨_, rfl⟩
      rw [← hfr]
      have g7 := set_block (v := .int .i64 fr) (set_block (v := U e0) Q7.out (show 0 < (wz (.slice a1 l1 q1)).size by simp)) (show 1 < _ by simp)
      have g6 : ((W.setCell ⟨w.heap.size + 1, 0, none⟩ (U e0)).setCell ⟨w.heap.size + 1, 1, none⟩ (.int .i64 fr)).heap[w.heap.size]? = _ := (set_other _ _ _ _ _ (by omega)).trans ((set_other _ _ _ _ _ (by omega)).trans Q6.out)
      have HB2 : Below w.heap.size w ((W.setCell ⟨w.heap.size + 1, 0, none⟩ (U e0)).setCell ⟨w.heap.size + 1, 1, none⟩ (.int .i64 fr)) := (HB.out.setCell (by simp) _).setCell (by simp) _
      generalize (W.setCell ⟨w.heap.size + 1, 0, none⟩ (U e0)).setCell ⟨w.heap.size + 1, 1, none⟩ (.int .i64 fr) = W5 at g7 g6 HB2 ⊢
      have HB2 := Lib.hid HB2
      clear u0 u1 u2 u3 v0 v1 v2 v3 z6 z7 hfr
      have u0 := cell_at g6 0 rfl
      have u1 := cell_at g6 1 rfl
      have u2 := cell_at g6 2 rfl
      have u3 := cell_at g6 3 rfl
      have v0 := cell_at g7 0 rfl
      have v1 := cell_at g7 1 rfl
      have v2 := cell_at g7 2 rfl
      have v3 := cell_at g7 3 rfl
      have z6 := fun j => free_at g6 j
      have z7 := fun j => free_at g7 j
      clear g6 g7
      go_wp2
      (try simp only [Exit.inBlock, Exit.then])
      refine bodyPost_ret (cell_ret rfl _ _ w.heap.size _ _ rfl (four_cells (a := .int .u64 0) (b := .int .i64 0) (c := .int .i64 1) (d := .slice a1 l1 q1) (by go_cell) (by go_cell) (by go_cell) (by go_cell)) Try.underlying34 rfl (by kernel_rfl)) rfl ?_
      refine ⟨⟨_, _, _, _, rfl⟩, ?_⟩
      repeat (with_reducible refine Below.setCell ?_ (by simp) _)
      exact HB2.out
  rw [if_neg hl] at hr
  have hl : leafB e0 = false := by simpa using hl
  go_wp2_with fail
  have WBD : WB w (W.drew.alloc (.cells #[.int .i64 (frameB e0 : Int)] 3)) (.slice a1 l1 q1) p g f := by
    have h := WBH.out
    have hz := h.z
    refine ⟨?_, ?_, h.m.below ((Below.refl _ _).drew.alloc (Nat.le_refl _) _), h.hb.drew.alloc (by show _ ≤ W.heap.size; omega) _, by simp; omega⟩
    · rw [Below.heap_alloc _ _ _ (by show _ < W.heap.size; omega)]; exact h.r
    · rw [Below.heap_alloc _ _ _ (by show _ < W.heap.size; omega)]; exact h.v
  replace WBD : WB w (W.alloc (.cells #[.int .i64 (frameB e0 : Int)] 3)).drew (.slice a1 l1 q1) p g f := WBD
  obtain ⟨v2', w5, hap, ho2, hg2, a2, l2, c2, rfl⟩ := ints_app (W.alloc (.cells #[.int .i64 (frameB e0 : Int)] 3)).drew (w.heap.size + 3) (.slice a1 l1 q1) (0 + 1) _
    (owns_keep hO1.out (fun i hi hl => Below.heap_alloc W _ _ hl)) W.heap.size (frameB e0 : Int) (cell_at (b := W.heap.size) (show (W.alloc (.cells #[.int .i64 (frameB e0 : Int)] 3)).drew.heap[W.heap.size]? = _ from (MapKept.heap_alloc W _).1) 0 rfl) (by omega) (by have := hz.out; show _ ≤ (W.alloc _).heap.size; simp; omega)
  have hne : ∀ i, (Value.slice a1 l1 q1).ownBlock = some i → w.heap.size + 3 ≤ i := by
    intro i hi
    rcases hO1.out.2 with ⟨e, _⟩ | ⟨g2, c2, cur, e, h3, _⟩
    · cases e; cases hi
    · cases e; cases hi; exact h3
  have zz := WBD.z
  have g7 : w5.heap[w.heap.size + 1]? = _ := (hg2.block _ (by omega) (fun e => by have := hne _ e.symm; omega)).trans WBD.v
  have WB6 := Lib.hid (WBD.grown (v' := .slice a2 l2 c2) hg2 hne hpl.out hgl.out)
  have x3 := cell_at g7 3 rfl
  have d3 : (W.alloc (.cells #[.int .i64 (frameB e0 : Int)] 3)).cell? ⟨w.heap.size + 1, 3, none⟩ = _ := cell_at WBD.v 3 rfl
  have y7 := fun j => free_at g7 j
  clear zz g7 hg2 WBD hne ho2
  go_region_law (first
    | (refine step_append_run2 rfl _ _ _ _ rfl _ _ rfl rfl _ _ hap ?_)
    | (go_simp; go_at_call 51; (with_reducible refine (rframe_s e0 _).mono ?_); rintro e w9 ⟨rfl, rfl⟩))
  all_goals (
    obtain ⟨W6, hW6⟩ : ∃ W6, W6 = w5.setCell ⟨w.heap.size + 1, 3, none⟩ (.slice a2 l2 c2) := ⟨_, rfl⟩
    rw [← hW6] at WB6 ⊢
    clear hW6
    have Q6 := Lib.hid WB6.out.r
    have Q7 := Lib.hid WB6.out.v
    have M := WB6.out.m
    have HB := Lib.hid WB6.out.hb
    have u0 := cell_at Q6.out 0 rfl
    have u1 := cell_at Q6.out 1 rfl
    have u2 := cell_at Q6.out 2 rfl
    have u3 := cell_at Q6.out 3 rfl
    have v0 := cell_at Q7.out 0 rfl
    have v1 := cell_at Q7.out 1 rfl
    have v2 := cell_at Q7.out 2 rfl
    have v3 := cell_at Q7.out 3 rfl
    have z6 := fun j => free_at Q6.out j
    have z7 := fun j => free_at Q7.out j
    go_wp2_with fail
    (with_reducible refine (rframe_s e0 _).mono ?_)
    rintro e w4 ⟨rfl, rfl⟩
    go_wp2_with fail
    (with_reducible refine (HE1.out _ M).mono ?_)
    rintro e w4 ⟨rfl, rfl⟩
    have M := Lib.hid M
    by_cases hc : c1 = false
    · subst hc
      rw [if_pos rfl] at hr
      subst hr
      go_wp2
      (try simp only [Exit.inBlock, Exit.then])
      refine bodyPost_ret (cell_ret rfl _ _ w.heap.size _ _ rfl (four_cells (a := .int .u64 0) (b := .int .i64 0) (c := .int .i64 2) (d := .slice a2 l2 c2) (by go_cell) (by go_cell) (by go_cell) (by go_cell)) Try.underlying34 rfl (by kernel_rfl)) rfl ?_
      refine ⟨⟨_, _, _, _, rfl⟩, ?_⟩
      repeat (with_reducible refine Below.setCell ?_ (by simp) _)
      exact HB.out
    obtain rfl : c1 = true := by simpa using hc
    rw [if_neg (by simp)] at hr
    go_wp2_with fail
    (with_reducible refine (rleaf_s e1 _).mono ?_)
    rintro e w4 ⟨rfl, rfl⟩
    by_cases hf : leafB e1 = true
    · rw [if_pos hf] at hr
      subst hr
      go_wp2_with fail
      (with_reducible refine (rframe_s e1 _).mono ?_)
      rintro e w4 ⟨rfl, rfl⟩
      go_wp2
      (try simp only [Exit.inBlock, Exit.then])
      refine bodyPost_ret (cell_ret rfl _ _ w.heap.size _ _ rfl (four_cells (a := U e1) (b := .int .i64 (frameB e1 : Int)) (c := .int .i64 0) (d := .slice a2 l2 c2) (by go_cell) (by go_cell) (by go_cell) (by go_cell)) Try.underlying34 rfl (by kernel_rfl)) rfl ?_
      refine ⟨⟨_, _, _, _, rfl⟩, ?_⟩
      repeat (with_reducible refine Below.setCell ?_ (by simp) _)
      exact HB.out
    · rw [if_neg hf] at hr
      have hf : leafB e1 = false := by simpa using hf
      subst hr
      go_wp2
      (try simp only [Exit.inBlock, Exit.then])
      refine bodyPost_ret (cell_ret rfl _ _ w.heap.size _ _ rfl (four_cells (a := .int .u64 0) (b := .int .i64 0) (c := .int .i64 1) (d := .slice a2 l2 c2) (by go_cell) (by go_cell) (by go_cell) (by go_cell)) Try.underlying34 rfl (by kernel_rfl)) rfl ?_
      refine ⟨⟨_, _, _, _, rfl⟩, ?_⟩
      repeat (with_reducible refine Below.setCell ?_ (by simp) _)
      exact HB.out
    )
end Go.Proofs.Ytkjbhjmjfacjcaa
