/- Part 18 of the texts behind the law: contracts and lemmas, each proved; no condition but what each names. -/

import Derived.Test.YtfehilinnalflaaGreatQ01
import Derived.Test.YtfehilinnalflaaGreatQ02
import Derived.Test.YtfehilinnalflaaGreatQ03
import Derived.Test.YtfehilinnalflaaGreatQ09
import Derived.Test.YtfehilinnalflaaGreatQ11
import Derived.Test.YtfehilinnalflaaGreatQ15
import Derived.Test.YtfehilinnalflaaGreatQ16
import Derived.Test.YtfehilinnalflaaGreatQ17
namespace Go.Proofs.YtfehilinnalflaaGreat
open Go.RowKit Go.BigFrame
set_option linter.unusedSimpArgs false
set_option linter.unusedVariables false
set_option maxRecDepth 100000
theorem zero_tlb (w : World) : (zeroValue 122).run Tryz.prog w = .ok (.agg (tlbA fun _ => Ent0)) w := (zero_of_info (P := Tryz.prog) (t := 122) (v := .agg (tlbA fun _ => Ent0)) (n := 144) (by kernel_rfl)).1 w
theorem tnew_b (w : World) : Calls Tryz.prog 23 #[] w fun e w' => e = .returned (.pointer (some ⟨w.heap.size, 0, none⟩)) ∧ w' = w.alloc (.cells (tlbA fun _ => Ent0) 122) := by
  have hz := zero_tlb
  have hsz : (tlbA fun _ => Ent0).size = 144 := by simp [tlbA, tlbL_len]
  generalize (tlbA fun _ => Ent0) = A at hz hsz
  go_enter Tryz.func23, Tryz.ntmps23
  go_wp2_with fail
  go_ret
  exact ⟨rfl, rfl⟩
theorem z80_pip (b t : Nat) : ((Tryz.zeroCells80.setIfInBounds 65 (.pointer (some ⟨b, 0, none⟩))).setIfInBounds 66 (.pointer (some ⟨t, 0, none⟩))) = (pipL St0 b t (none, 0, 0) none 0#64 false 0).toArray := by kernel_rfl
theorem step_lst {ops : Array Oper} {rest : List Oper} {o : Oper} {a : Act} {w : World} {Q : Exit → Act → World → Prop} {g : Nat} {T : TypeId} {A : Array Value} {x : Operand} (hg : w.heap[g]? = some (.cells A T (0, 0))) (hs : A.size = 65)
    (ho : o.op = .load 37 x) (hx : a.eval x = .pointer (some ⟨g, 0, none⟩)) (hw : Region.wanted o (yielded ops a.tmps) = true)
    (h : wpList Tryz.prog ops Q rest (a.put o.dst (.agg A)) w) : wpList Tryz.prog ops Q (o :: rest) a w :=
  wpList_step fun K hK => by
    simp only [hw, if_true]
    exact wp_load_row 37 x ho g hx _ _ _ _ hg Tryz.underlying37 rfl (by rw [hs]; exact infoSt) (hK _ _ h)
noncomputable def setT (s : St) (S : HS) (S0 : St) (a : Option Addr × Nat × Nat) (nx : Option Addr) (at_ : BitVec 64) (stops : Bool) (cy : Int) : Tr := t__pipe_Pipe_Set S S0 S.b S.t a nx at_ stops cy s
set_option maxHeartbeats 4000000 in
theorem set_block' (s : St) (S : HS) (S0 : St) (a : Option Addr × Nat × Nat) (nx : Option Addr) (at_ : BitVec 64) (stops : Bool) (cy : Int) : flat (selG (setT s S S0 a nx at_ stops cy) 0 0 (pipK S.b S.t)) = pipL (cleanS s) S.b S.t (none, 0, 0) none (cleanS s).pc false cy := by kernel_rfl
theorem set_w {w : World} {G F : Nat → Prop} {P : Nat} {S0 : St} {S : HS} {a : Option Addr × Nat × Nat} {nx : Option Addr} {at_ : BitVec 64} {stops : Bool} {cy : Int} {l : List SlV} {nv : Option SlV} (h : PW w G F P S0 S a nx at_ stops cy l nv) (s : St) (hn : (setT s S S0 a nx at_ stops cy).needB = true) :
    Calls Tryz.prog 24 #[.pointer (some ⟨P, 0, none⟩), .agg (stA s)] w fun e w' => e = .returned (.tuple #[]) ∧ ∃ F', PW w' (fun b => G b ∨ F' b) F' P (cleanS s) ((setT s S S0 a nx at_ stops cy).theM S) (none, 0, 0) none (cleanS s).pc false cy [] none ∧ (∀ b, F' b → F b ∨ w.heap.size ≤ b) ∧ Fr G w w' := by
  have hb := set_block' s S S0 a nx at_ stops cy
  obtain ⟨_, hT⟩ := FnZE_ok.specX 24 [.p 0 0, .d (.s (.S s))] (pipH S0 S a nx at_ stops cy) (setT s S S0 a nx at_ stops cy).needB (.t []) ⟨[⟨80, selG (setT s S S0 a nx at_ stops cy) 0 0 (pipK S.b S.t)⟩], some ((setT s S S0 a nx at_ stops cy).theM S), true, 0⟩ (by kernel_rfl) hn
  generalize setT s S S0 a nx at_ stops cy = t at *
  refine (hT _ _ _ w [.pointer (some ⟨P, 0, none⟩), .agg (stA s)] (FRel.cons ⟨P, rfl, rfl⟩ (FRel.cons rfl ⟨rfl, fun i av hi => by cases hi⟩)) h.mrel).mono ?_
  rintro e w' ⟨v, rfl, hv, M'⟩
  have hv' : v = .tuple #[] := hv
  refine ⟨by rw [hv'], ?_⟩
  exact h.back M' rfl rfl rfl rfl hb rfl (.inl ⟨rfl, rfl, rfl⟩) (.inl ⟨rfl, rfl⟩)
end Go.Proofs.YtfehilinnalflaaGreat
namespace Go.Proofs.YtfehilinnalflaaGreat
open Go.RowKit Go.BigFrame
set_option linter.unusedSimpArgs false
set_option linter.unusedVariables false
set_option maxRecDepth 100000
theorem isbus_lt {w : World} {B b p g : Nat} {ks : Nat → Option Nat} {vs : Nat → Value} {S : BusV} (h : IsBus w B b p g ks vs S) : ∀ c, FB b p g ks c → c < w.heap.size := by
  rintro c (rfl | rfl | rfl | ⟨i, hi, e⟩)
  · exact blk_lt h.blk
  · exact h.mem.p_lt
  · exact h.mem.g_lt
  · have := h.row i hi
    rw [e] at this
    exact this.lt
theorem set_need (Sb : BusV) (b p t : Nat) (s : St) : (setT s ⟨Sb, fun _ => Ent0, b, p, t⟩ St0 (none, 0, 0) none 0#64 false 0).needB = ((decide (t = t) && true) && true) := by kernel_rfl
set_option maxHeartbeats 3000000 in
theorem new_b {w : World} {b p g : Nat} {ks : Nat → Option Nat} {vs : Nat → Value} {Sb : BusV} (hB : IsBus w 0 b p g ks vs Sb) (s : St) :
    Calls Tryz.prog 10 #[.agg (stA s), .pointer (some ⟨b, 0, none⟩)] w fun e w' => ∃ (P : Nat) (G : Nat → Prop), e = .returned (.pointer (some ⟨P, 0, none⟩)) ∧ Pip w' G P ⟨cleanS s, [], none, (cleanS s).pc, false⟩ ((setT s ⟨Sb, fun _ => Ent0, b, p, w.heap.size + 1⟩ St0 (none, 0, 0) none 0#64 false 0).theM ⟨Sb, fun _ => Ent0, b, p, w.heap.size + 1⟩) ∧ (∀ c, G c → FB b p g ks c ∨ w.heap.size ≤ c) ∧ Fr (FB b p g ks) w w' := by
  have hlt := isbus_lt hB
  have hbl := hlt b (.inl rfl)
  have sz := stA_size s
  have fin : ∀ A, A = stA s → ∃ W : World, W = ((w.alloc (.cells A 37)).alloc (.cells (tlbA fun _ => Ent0) 122)).alloc (.cells ((Tryz.zeroCells80.setIfInBounds 65 (.pointer (some ⟨b, 0, none⟩))).setIfInBounds 66 (.pointer (some ⟨w.heap.size + 1, 0, none⟩))) 80) ∧ W.heap[w.heap.size]? = some (.cells A 37 (0, 0)) ∧ Below w.heap.size w W ∧
      PW W (fun c => FB b p g ks c ∨ c = w.heap.size + 1 ∨ c = w.heap.size + 2) (fun c => FB b p g ks c ∨ c = w.heap.size + 1) (w.heap.size + 2) St0 ⟨Sb, fun _ => Ent0, b, p, w.heap.size + 1⟩ (none, 0, 0) none 0#64 false 0 [] none := by
    intro A _
    have s1 : (w.alloc (.cells A 37)).heap.size = w.heap.size + 1 := by simp
    have s2 : ((w.alloc (.cells A 37)).alloc (.cells (tlbA fun _ => Ent0) 122)).heap.size = w.heap.size + 2 := by simp
    have bW : Below w.heap.size w (((w.alloc (.cells A 37)).alloc (.cells (tlbA fun _ => Ent0) 122)).alloc (.cells ((Tryz.zeroCells80.setIfInBounds 65 (.pointer (some ⟨b, 0, none⟩))).setIfInBounds 66 (.pointer (some ⟨w.heap.size + 1, 0, none⟩))) 80)) :=
      (((Below.refl _ _).alloc (Nat.le_refl _) _).alloc (by omega) _).alloc (by omega) _
    have e0 := (MapKept.heap_alloc w (.cells A 37)).1
    have e1 := (MapKept.heap_alloc (w.alloc (.cells A 37)) (.cells (tlbA fun _ => Ent0) 122)).1
    have e2 := (MapKept.heap_alloc ((w.alloc (.cells A 37)).alloc (.cells (tlbA fun _ => Ent0) 122)) (.cells ((Tryz.zeroCells80.setIfInBounds 65 (.pointer (some ⟨b, 0, none⟩))).setIfInBounds 66 (.pointer (some ⟨w.heap.size + 1, 0, none⟩))) 80)).1
    have k1 := (MapKept.heap_alloc (w.alloc (.cells A 37)) (.cells (tlbA fun _ => Ent0) 122)).2
    have k2 := (MapKept.heap_alloc ((w.alloc (.cells A 37)).alloc (.cells (tlbA fun _ => Ent0) 122)) (.cells ((Tryz.zeroCells80.setIfInBounds 65 (.pointer (some ⟨b, 0, none⟩))).setIfInBounds 66 (.pointer (some ⟨w.heap.size + 1, 0, none⟩))) 80)).2
    rw [s1] at e1 k1
    rw [s2] at e2 k2
    have e0' := (k2 w.heap.size (by omega)).trans ((k1 w.heap.size (by omega)).trans e0)
    have e1' := (k2 (w.heap.size + 1) (by omega)).trans e1
    refine ⟨_, rfl, e0', bW, ?_⟩
    have hW : w.heap.size + 3 ≤ (((w.alloc (.cells A 37)).alloc (.cells (tlbA fun _ => Ent0) 122)).alloc (.cells ((Tryz.zeroCells80.setIfInBounds 65 (.pointer (some ⟨b, 0, none⟩))).setIfInBounds 66 (.pointer (some ⟨w.heap.size + 1, 0, none⟩))) 80)).heap.size := by
      have := blk_lt e2; omega
    generalize (((w.alloc (.cells A 37)).alloc (.cells (tlbA fun _ => Ent0) 122)).alloc (.cells ((Tryz.zeroCells80.setIfInBounds 65 (.pointer (some ⟨b, 0, none⟩))).setIfInBounds 66 (.pointer (some ⟨w.heap.size + 1, 0, none⟩))) 80)) = W at *
    rw [z80_pip] at e2
    have kp : ∀ c, FB b p g ks c → W.heap[c]? = w.heap[c]? := fun c hc => bW.block c (hlt c hc)
    have hne : ∀ c, FB b p g ks c → w.heap.size + 1 ≠ c := fun c hc e => by have := hlt c hc; omega
    refine ⟨⟨⟨g, ks, vs, hB.keep (kp b (.inl rfl)) (kp p (.inr (.inl rfl))) (kp g (.inr (.inr (.inl rfl)))) (fun i k hi e => kp k (.inr (.inr (.inr ⟨i, hi, e⟩)))), .inl (.inl rfl), .inl (.inr (.inl rfl)), .inl (.inr (.inr (.inl rfl))), fun i k hi e => .inl (.inr (.inr (.inr ⟨i, hi, e⟩))), hne b (.inl rfl), hne p (.inr (.inl rfl)), hne g (.inr (.inr (.inl rfl))), fun i hi e => hne _ (.inr (.inr (.inr ⟨i, hi, e⟩))) rfl⟩, e1', .inr rfl, fun c hc => ?_⟩,
      fun c hc => hc.elim .inl (fun h => .inr (.inl h)), fun hc => ?_, .inr (.inr rfl), e2, rfl, .inl ⟨rfl, rfl, rfl⟩, .inl ⟨rfl, rfl⟩, fun c hc => ?_⟩
    · rcases hc with hc | hc
      · have := hlt c hc; omega
      · omega
    · rcases hc with hc | hc
      · have := hlt _ hc; omega
      · omega
    · rcases hc with hc | hc | hc
      · have := hlt c hc; omega
      · omega
      · omega
  obtain ⟨A, hA⟩ : ∃ A, A = stA s := ⟨_, rfl⟩
  have fin2 := fin A hA
  rw [← hA] at sz ⊢
  have HA := Lib.hid hA
  have HF := Lib.hid fin2
  have HS := Lib.hid sz
  clear fin fin2 hA sz hlt hB
  go_enter Tryz.func10, Tryz.ntmps10
  go_wp2_with fail
  (with_reducible refine (tnew_b _).mono ?_)
  rintro e w1 ⟨rfl, hw1⟩
  subst hw1
  obtain ⟨W, hW, hW0, hWb, hWp⟩ := HF.out
  have HW0 := Lib.hid (hW ▸ hW0)
  have HWB := Lib.hid (hW ▸ hWb)
  have HWP := Lib.hid (hW ▸ hWp)
  clear hW hW0 hWb hWp
  go_wp2_with (first | (with_reducible refine step_lst HW0.out HS.out (by with_unfolding_all rfl) (by with_unfolding_all rfl) (by with_unfolding_all rfl) ?_))
  have hn : (setT s ⟨Sb, fun _ => Ent0, b, p, w.heap.size + 1⟩ St0 (none, 0, 0) none 0#64 false 0).needB = true := by rw [set_need]; simp
  have key := set_w HWP.out s hn
  rw [← HA.out] at key
  refine key.mono ?_
  rintro e w' ⟨rfl, F', hP, hF', hFr⟩
  have hs := HWB.out.size
  have hG : ∀ c, (FB b p g ks c ∨ c = w.heap.size + 1 ∨ c = w.heap.size + 2) → FB b p g ks c ∨ w.heap.size ≤ c := fun c hc => by
    rcases hc with hc | hc | hc
    · exact .inl hc
    · exact .inr (by omega)
    · exact .inr (by omega)
  have fin : ∃ (P : Nat) (G : Nat → Prop), Ending.returned (.pointer (some ⟨w.heap.size + 1 + 1, 0, none⟩)) = Ending.returned (.pointer (some ⟨P, 0, none⟩)) ∧ Pip w' G P ⟨cleanS s, [], none, (cleanS s).pc, false⟩ ((setT s ⟨Sb, fun _ => Ent0, b, p, w.heap.size + 1⟩ St0 (none, 0, 0) none 0#64 false 0).theM ⟨Sb, fun _ => Ent0, b, p, w.heap.size + 1⟩) ∧ (∀ c, G c → FB b p g ks c ∨ w.heap.size ≤ c) ∧ Fr (FB b p g ks) w w' := by
    refine ⟨w.heap.size + 2, fun c => (FB b p g ks c ∨ c = w.heap.size + 1 ∨ c = w.heap.size + 2) ∨ F' c, rfl, ⟨F', _, _, _, hP⟩, fun c hc => ?_, (Fr.of_below HWB.out).then_ hFr hG⟩
    rcases hc with hc | hc
    · exact hG c hc
    · rcases hF' c hc with h | h
      · exact hG c (h.elim .inl (fun e => .inr (.inl e)))
      · exact .inr (by omega)
  have FIN := Lib.hid fin
  clear fin hP hF' hFr key hn hs hG
  go_wp2_with fail
  go_ret
  exact FIN.out
end Go.Proofs.YtfehilinnalflaaGreat
namespace Go.Proofs.YtfehilinnalflaaGreat
open Go.RowKit Go.BigFrame
set_option linter.unusedSimpArgs false
set_option linter.unusedVariables false
set_option maxRecDepth 100000
theorem state_w {w : World} {G : Nat → Prop} {P : Nat} {V : PipV} {S : HS} (h : Pip w G P V S) : Calls Tryz.prog 15 #[.pointer (some ⟨P, 0, none⟩)] w fun e w' => e = .returned (.agg (stA V.s)) ∧ Below w.heap.size w w' := by
  obtain ⟨F, a, nx, cy, h⟩ := h
  obtain ⟨_, hT⟩ := FnZaE_ok.specR 15 [.p 0 0] (pipH V.s S a nx V.at_ V.stops cy) true (.d (.s (.S V.s))) (by kernel_rfl) rfl
  obtain ⟨v, hv, hc⟩ := hT _ _ _ w [.pointer (some ⟨P, 0, none⟩)] (FRel.cons ⟨P, rfl, rfl⟩ ⟨rfl, fun i av hi => by cases hi⟩) h.mrel
  have hv' : v = .agg (stA V.s) := hv
  rw [hv'] at hc
  exact hc w (Below.refl _ _)
end Go.Proofs.YtfehilinnalflaaGreat
namespace Go.Proofs.YtfehilinnalflaaGreat
open Go.RowKit Go.BigFrame
set_option linter.unusedSimpArgs false
set_option linter.unusedVariables false
set_option maxRecDepth 100000
def inC (i : InV) : List Ch := [.x false (.int .i64 i.op), .x false (.int .i64 i.rd), .x false (.int .i64 i.rs1), .x false (.int .i64 i.rs2), .x false (.int .i64 i.imm), .x false (.int .i64 i.csr)]
noncomputable def wtT (a b : InV) : Tr := t_hazard_Waits a.op a.rd a.rs1 a.rs2 a.imm a.csr b.op b.rd b.rs1 b.rs2 b.imm b.csr
noncomputable def wtV (a b : InV) : Bool := (wtT a b).sel false fun vs => (pickC vs 0 0).B
noncomputable def szV (o : Int) : Int := (t_insn_Size o).sel 0 fun vs => (pickC vs 0 0).I
noncomputable def alT (i : InV) : Tr := t_hazard_Alone i.op i.rd i.rs1 i.rs2 i.imm i.csr
noncomputable def alV (i : InV) : Bool := (alT i).sel false fun vs => (pickC vs 0 0).B
noncomputable def nxV (pc : BitVec 64) (w : Int) : BitVec 64 := (t_guess_Next pc w).sel 0#64 fun vs => (pickC vs 0 0).U
theorem wt_gives (a b : InV) (h : (wtT a b).needB = true) : Gives Tryz.prog 47 #[.agg (inL a).toArray, .agg (inL b).toArray] (.bool (wtV a b)) := by
  obtain ⟨_, v, hv, hg⟩ := FnGE_ok.spec 47 [.g (inC a), .g (inC b)] (wtT a b).needB (.d (.s (.x false (.bool (wtV a b))))) (by kernel_rfl) h
  have hv' : v = .bool (wtV a b) := hv []
  rw [hv'] at hg
  exact hg
theorem al_gives (i : InV) (h : (alT i).needB = true) : Gives Tryz.prog 51 #[.agg (inL i).toArray] (.bool (alV i)) := by
  obtain ⟨_, v, hv, hg⟩ := FnGE_ok.spec 51 [.g (inC i)] (alT i).needB (.d (.s (.x false (.bool (alV i))))) (by kernel_rfl) h
  have hv' : v = .bool (alV i) := hv []
  rw [hv'] at hg
  exact hg
theorem sz_gives (o : Int) (h : (t_insn_Size o).needB = true) : Gives Tryz.prog 73 #[.int .i64 o] (.int .i64 (szV o)) := by
  obtain ⟨_, v, hv, hg⟩ := FnAE_ok.spec 73 [.s (.x false (.int .i64 o))] (t_insn_Size o).needB (.d (.s (.x false (.int .i64 (szV o))))) (by kernel_rfl) h
  have hv' : v = .int .i64 (szV o) := hv []
  rw [hv'] at hg
  exact hg
theorem nx_gives (pc : BitVec 64) (x : Int) (h : (t_guess_Next pc x).needB = true) : Gives Tryz.prog 50 #[U pc, .int .u32 x] (U (nxV pc x)) := by
  obtain ⟨_, v, hv, hg⟩ := FnSE_ok.spec 50 [.s (.u false pc), .s (.x false (.int .u32 x))] (t_guess_Next pc x).needB (.d (.s (.u false (nxV pc x)))) (by kernel_rfl) h
  have hv' : v = U (nxV pc x) := hv []
  rw [hv'] at hg
  exact hg
def MvNeeds (l : List SlV) : Prop := ∀ x ∈ l, (t_insn_Size x.i.op).needB = true ∧ ∀ y ∈ l, (wtT x.i y.i).needB = true
noncomputable def movV (V : PipV) (late : Int) : PipV := { V with l := movesV wtV (fun i => decide (0 < szV i.op)) late none V.l }
theorem mov_step (V : PipV) (S : HS) (late : Int) (hl : SlOk V.l) (hN : MvNeeds V.l) : Step 31 [.int .i64 late] V S (movV V late) S :=
  moves_step (Q := fun i => ∃ x ∈ V.l, x.i = i) (wt := wtV) (sz := szV) (fun a b ⟨x, hx, ea⟩ ⟨y, hy, eb⟩ => wt_gives a b (by rw [← ea, ← eb]; exact (hN x hx).2 y hy))
    (fun i ⟨x, hx, e⟩ => sz_gives _ (by rw [← e]; exact (hN x hx).1)) V S late hl fun x hx => ⟨x, hx, rfl⟩
def canPush (l : List SlV) : Bool := match l.getLast? with
  | none => true
  | some z => decide (l.length < 4) && decide (0 < z.stage)
noncomputable def newS (V : PipV) (S : HS) (pick : Int) : SlV := slV (bT V.s S V.at_ pick)
noncomputable def fetV (V : PipV) (S : HS) (late pick : Int) : PipV × HS :=
  match V.nv with
  | none => if V.stops = true then (V, S) else
      (⟨V.s, V.l, some { newS V S pick with left := late }, nxV (newS V S pick).pc (newS V S pick).w, !(newS V S pick).ok || (!(newS V S pick).is || alV (newS V S pick).i)⟩, (bT V.s S V.at_ pick).theM S)
  | some x => if 0 < x.left then ({ V with nv := some { x with left := x.left - 1 } }, S)
      else if canPush V.l = true then (⟨V.s, V.l ++ [x], none, V.at_, V.stops⟩, S) else (V, S)
def FetNeeds (V : PipV) (S : HS) (pick : Int) : Prop := V.nv = none → V.stops = false → (bT V.s S V.at_ pick).needB = true ∧ (t_guess_Next (newS V S pick).pc (newS V S pick).w).needB = true ∧ (alT (newS V S pick).i).needB = true
theorem fet_step (V : PipV) (S : HS) (late pick : Int) (hnv : ∀ y, V.nv = some y → 0 ≤ y.left ∧ y.left ≤ 7) (hN : FetNeeds V S pick) : Step 32 [.int .i64 late, .int .i64 pick] V S (fetV V S late pick).1 (fetV V S late pick).2 := by
  obtain ⟨s, l, nv, at_, stops⟩ := V
  cases nv with
  | none =>
    cases stops with
    | true => exact fetch_stop s S l at_ late pick
    | false =>
      obtain ⟨h1, h2, h3⟩ := hN rfl rfl
      exact fetch_begin s S l at_ late pick (slV (bT s S at_ pick)) ((bT s S at_ pick).theM S) (nx_gives _ _ h2) (al_gives _ h3) fun P a cy => begins_ok P s S a at_ cy l pick h1
  | some x =>
    obtain ⟨h0, h7⟩ := hnv x rfl
    by_cases c : 0 < x.left
    · have e : fetV ⟨s, l, some x, at_, stops⟩ S late pick = (⟨s, l, some { x with left := x.left - 1 }, at_, stops⟩, S) := if_pos c
      rw [e]; exact fetch_wait s S l x at_ stops late pick c h7
    · have c0 : x.left = 0 := by omega
      by_cases d : canPush l = true
      · have e : fetV ⟨s, l, some x, at_, stops⟩ S late pick = (⟨s, l ++ [x], none, at_, stops⟩, S) := (if_neg c).trans (if_pos d)
        rw [e]
        have hd : l.length < 4 ∧ ∀ z, l.getLast? = some z → 0 < z.stage := by
          unfold canPush at d
          cases hz : l.getLast? with
          | none => rw [List.getLast?_eq_none_iff] at hz; subst hz; exact ⟨by decide, fun z hz => by cases hz⟩
          | some z => rw [hz] at d; simp at d; exact ⟨d.1, fun y hy => by cases hy; exact d.2⟩
        exact fetch_push s S l x at_ stops late pick c0 hd.1 hd.2
      · have e : fetV ⟨s, l, some x, at_, stops⟩ S late pick = (⟨s, l, some x, at_, stops⟩, S) := (if_neg c).trans (if_neg d)
        rw [e]
        rcases List.eq_nil_or_concat l with rfl | ⟨l0, z, rfl⟩
        · exact absurd rfl d
        · rw [List.concat_eq_append] at *
          refine fetch_full s S l0 z x at_ stops late pick c0 ?_
          have d' : ¬ ((l0 ++ [z]).length < 4 ∧ 0 < z.stage) := fun h => d (by simp [canPush]; simpa using h)
          simp at d'
          omega
def Cyc (V : PipV) (S : HS) (late pick : Int) (line : Bool) (o : Option RetV) (V' : PipV) (S' : HS) : Prop :=
  ∀ (w : World) (G : Nat → Prop) (P : Nat), Pip w G P V S → Calls Tryz.prog 14 #[.pointer (some ⟨P, 0, none⟩), .agg #[.int .i64 late, .int .i64 pick, .bool line]] w fun e w' => ∃ G', OutRel o w.heap.size e w' G' ∧ Pip w' G' P V' S' ∧ Went w G w' G'
def NvOk (nv : Option SlV) : Prop := ∀ y, nv = some y → 0 ≤ y.stage ∧ y.stage ≤ 3 ∧ 0 ≤ y.left ∧ y.left ≤ 7
def SlGood (x : SlV) : Prop := 0 ≤ x.stage ∧ x.stage ≤ 3 ∧ 0 ≤ x.left ∧ x.left ≤ 7
theorem moveOne_good {wt : InV → InV → Bool} {sz : InV → Bool} {late : Int} (h0 : 0 ≤ late) (h7 : late ≤ 7) (p : Option SlV) {x : SlV} (h : SlGood x) : SlGood (moveOne wt sz late p x) := by
  obtain ⟨h1, h2, h3, h4⟩ := h
  unfold moveOne
  split
  · refine ⟨h1, h2, ?_, ?_⟩ <;> (show _ ≤ _; dsimp only; split <;> omega)
  · split
    · exact ⟨h1, h2, h3, h4⟩
    · split
      · exact ⟨by show 0 ≤ x.stage + 1; omega, by show x.stage + 1 ≤ 3; omega, h0, h7⟩
      · exact ⟨by show 0 ≤ x.stage + 1; omega, by show x.stage + 1 ≤ 3; omega, h3, h4⟩
theorem movesV_good {wt : InV → InV → Bool} {sz : InV → Bool} {late : Int} (h0 : 0 ≤ late) (h7 : late ≤ 7) : ∀ (l : List SlV) (p : Option SlV), (∀ x ∈ l, SlGood x) → ∀ x ∈ movesV wt sz late p l, SlGood x
  | [], p, h, x, hx => by cases hx
  | y :: l, p, h, x, hx => by
    rcases List.mem_cons.1 (show x ∈ moveOne wt sz late p y :: movesV wt sz late (some (moveOne wt sz late p y)) l from hx) with rfl | hx
    · exact moveOne_good h0 h7 p (h y (by simp))
    · exact movesV_good h0 h7 l _ (fun z hz => h z (by simp [hz])) x hx
theorem mov_ok (V : PipV) {late : Int} (h0 : 0 ≤ late) (h7 : late ≤ 7) (hl : SlOk V.l) : SlOk (movV V late).l :=
  ⟨by show (movesV _ _ _ _ _).length ≤ 4; rw [movesV_len]; exact hl.1, movesV_good h0 h7 V.l none hl.2⟩
theorem cyc_none {V : PipV} {S : HS} (late pick : Int) (h0 : 0 ≤ late) (h7 : late ≤ 7) (line : Bool) (hl : SlOk V.l) (hnv : NvOk V.nv) (hN : MvNeeds V.l) (hF : FetNeeds (movV V late) S pick)
    (hr : ∀ x l, V.l = x :: l → x.stage = 3 → 0 < x.left) : Cyc V S late pick line none (fetV (movV V late) S late pick).1 (fetV (movV V late) S late pick).2 := by
  have hM := mov_step V S late hl hN
  have hF' := fet_step (movV V late) S late pick (fun y hy => ⟨(hnv y hy).2.2.1, (hnv y hy).2.2.2⟩) hF
  intro w G P h
  cases hV : V.l with
  | nil => exact cycle0 hV late pick h0 h7 line hM hF' w G P h
  | cons x l =>
    refine cycle1 hV late pick h0 h7 line (retires_not V S x l line hV ?_) hM hF' w G P h
    by_cases c : x.stage = 3
    · exact .inr (decide_eq_true (hr x l hV c))
    · exact .inl (by simpa using c)
noncomputable def dTV (V : PipV) (S : HS) (x : SlV) (line : Bool) : Tr := dT V.s (retS S V.s) V.at_ V.stops x line
theorem cyc_some {V : PipV} {S : HS} {x : SlV} {l : List SlV} (hV : V.l = x :: l) (h3 : x.stage = 3) (hx0 : x.left = 0) (late pick : Int) (h0 : 0 ≤ late) (h7 : late ≤ 7) (line : Bool) (hll : l.length < 4) (hd : (dTV V S x line).needB = true)
    {V1 : PipV} (hV1 : afterV V S x l line = V1) {S1 : HS} (hS1 : (dTV V S x line).theM (retS S V.s) = S1) (hl : SlOk V1.l) (hnv : NvOk V1.nv) (hN : MvNeeds V1.l) (hF : FetNeeds (movV V1 late) S1 pick) :
    Cyc V S late pick line (some { retV (dTV V S x line) with line := line }) (fetV (movV V1 late) S1 late pick).1 (fetV (movV V1 late) S1 late pick).2 := by
  have hM := mov_step V1 S1 late hl hN
  have hF' := fet_step (movV V1 late) S1 late pick (fun y hy => ⟨(hnv y hy).2.2.1, (hnv y hy).2.2.2⟩) hF
  have hR := retires_go V S x l line hV h3 hx0 hll hd
  rw [hV1] at hR
  intro w G P h
  exact cycle1 hV late pick h0 h7 line (hS1 ▸ hR) hM hF' w G P h
end Go.Proofs.YtfehilinnalflaaGreat
namespace Go.Proofs.YtfehilinnalflaaGreat
open Go.RowKit Go.BigFrame
set_option linter.unusedSimpArgs false
set_option linter.unusedVariables false
set_option maxRecDepth 100000
def core (x : SlV) : SlV := { x with stage := 0, left := 0 }
theorem core_moveOne (wt : InV → InV → Bool) (sz : InV → Bool) (late : Int) (p : Option SlV) (x : SlV) : core (moveOne wt sz late p x) = core x := by
  unfold moveOne
  split
  · rfl
  · split
    · rfl
    · split <;> rfl
theorem core_movesV (wt : InV → InV → Bool) (sz : InV → Bool) (late : Int) : ∀ (l : List SlV) (p : Option SlV), (movesV wt sz late p l).map core = l.map core
  | [], p => rfl
  | x :: l, p => by
    show core (moveOne wt sz late p x) :: (movesV wt sz late _ l).map core = core x :: l.map core
    rw [core_moveOne, core_movesV wt sz late l _]
def mu (V : PipV) : Nat :=
  match V.l with
  | x :: _ => if x.stage = 3 then x.left.toNat else (3 - x.stage).toNat + 7
  | [] => match V.nv with
    | some x => x.left.toNat + 12
    | none => 21
theorem mu_le {V : PipV} (hl : SlOk V.l) (hnv : NvOk V.nv) : mu V ≤ 21 := by
  unfold mu
  cases hV : V.l with
  | cons x l =>
    obtain ⟨h1, h2, h3, h4⟩ := hl.2 x (by rw [hV]; simp)
    dsimp only
    split <;> omega
  | nil =>
    cases hn : V.nv with
    | none => dsimp only; omega
    | some x => obtain ⟨h1, h2, h3, h4⟩ := hnv x hn; dsimp only; omega
theorem fet_head {V : PipV} {S : HS} {late pick : Int} {x : SlV} {l : List SlV} (h : V.l = x :: l) : ∃ l', (fetV V S late pick).1.l = x :: l' := by
  unfold fetV
  split
  · split
    · exact ⟨l, h⟩
    · exact ⟨l, h⟩
  · split
    · exact ⟨l, h⟩
    · split
      · exact ⟨_, by show V.l ++ _ = _; rw [h]; rfl⟩
      · exact ⟨l, h⟩
theorem mu_cons {V : PipV} {x : SlV} {l : List SlV} (h : V.l = x :: l) : mu V = if x.stage = 3 then x.left.toNat else (3 - x.stage).toNat + 7 := by unfold mu; rw [h]
theorem mu_nil {V : PipV} (h : V.l = []) : mu V = match V.nv with
    | some x => x.left.toNat + 12
    | none => 21 := by unfold mu; rw [h]
theorem mu_less {V : PipV} {S : HS} {late pick : Int} (h0 : 0 ≤ late) (h7 : late ≤ 7) (hl : SlOk V.l) (hnv : NvOk V.nv) (hs : V.l = [] → V.nv = none → V.stops = false)
    (hr : ∀ x l, V.l = x :: l → x.stage = 3 → 0 < x.left) : mu (fetV (movV V late) S late pick).1 < mu V := by
  cases hV : V.l with
  | cons x l =>
    obtain ⟨h1, h2, h3, h4⟩ := hl.2 x (by rw [hV]; simp)
    have hm : (movV V late).l = moveOne wtV (fun i => decide (0 < szV i.op)) late none x :: movesV wtV (fun i => decide (0 < szV i.op)) late (some (moveOne wtV (fun i => decide (0 < szV i.op)) late none x)) l := by
      show movesV _ _ _ _ V.l = _; rw [hV]; rfl
    obtain ⟨l', hf⟩ := fet_head (S := S) (late := late) (pick := pick) hm
    rw [mu_cons hf, mu_cons hV]
    have hr' := hr x l hV
    unfold moveOne
    by_cases c : x.stage = 3
    · have := hr' c
      rw [if_pos c, if_pos c]
      dsimp only
      rw [if_pos c]
      split <;> omega
    · rw [if_neg c, if_neg c, if_neg (show ¬ blocked wtV none x = true by simp [blocked])]
      split
      · rename_i d; dsimp only; rw [if_pos d.1]; omega
      · dsimp only; split <;> omega
  | nil =>
    have hm : (movV V late).l = [] := by show movesV _ _ _ _ V.l = _; rw [hV]; rfl
    rw [mu_nil hV]
    cases hn : V.nv with
    | none =>
      have hst := hs hV hn
      have e : (fetV (movV V late) S late pick).1.l = [] ∧ ∃ y, (fetV (movV V late) S late pick).1.nv = some y ∧ y.left = late := by
        unfold fetV
        have hn' : (movV V late).nv = none := hn
        have hs' : (movV V late).stops = false := hst
        rw [hn']
        dsimp only
        rw [if_neg (by rw [hs']; simp)]
        exact ⟨hm, _, rfl, rfl⟩
      obtain ⟨e1, y, e2, e3⟩ := e
      rw [mu_nil e1, e2]
      dsimp only
      omega
    | some y =>
      obtain ⟨h1, h2, h3, h4⟩ := hnv y hn
      have hn' : (movV V late).nv = some y := hn
      unfold fetV
      rw [hn']
      dsimp only
      by_cases c : 0 < y.left
      · rw [if_pos c, mu_nil (by exact hm)]
        dsimp only
        omega
      · rw [if_neg c, if_pos (by rw [hm]; rfl)]
        rw [mu_cons (x := y) (l := []) (by show (movV V late).l ++ [y] = _; rw [hm]; rfl)]
        split <;> omega
structure Plan where
  st : Nat → St
  hs : Nat → Nat → HS
  slot : Nat → SlV
  pc : Nat → BitVec 64
  last : Nat → Bool
  fl : Nat → Bool
  ret : Nat → RetV
def Win (p : Plan) (n m : Nat) : Prop := n ≤ m ∧ m ≤ n + 5 ∧ ∀ j, n ≤ j → j + 1 < m → p.last j = false
structure PlanOk (p : Plan) (N : Nat) (line : Bool) : Prop where
  sl0 : ∀ m, core (p.slot m) = p.slot m
  mvs : ∀ i j, (t_insn_Size (p.slot i).i.op).needB = true ∧ (wtT (p.slot i).i (p.slot j).i).needB = true
  fet : ∀ n m pick, n ≤ N → Win p n (m + 1) → n ≤ m → (bT (p.st n) (p.hs n m) (p.pc m) pick).needB = true ∧ slV (bT (p.st n) (p.hs n m) (p.pc m) pick) = p.slot m ∧ (bT (p.st n) (p.hs n m) (p.pc m) pick).theM (p.hs n m) = p.hs n (m + 1)
  nxt : ∀ n m, n ≤ N → Win p n (m + 1) → n ≤ m → (t_guess_Next (p.slot m).pc (p.slot m).w).needB = true ∧ (alT (p.slot m).i).needB = true ∧ (!(p.slot m).ok || (!(p.slot m).is || alV (p.slot m).i)) = p.last m ∧ (p.last m = false → nxV (p.slot m).pc (p.slot m).w = p.pc (m + 1))
  ret : ∀ n m at_ stops, n < N → Win p n m → n < m → (dT (p.st n) (retS (p.hs n m) (p.st n)) at_ stops { p.slot n with stage := 3, left := 0 } line).needB = true ∧
    { retV (dT (p.st n) (retS (p.hs n m) (p.st n)) at_ stops { p.slot n with stage := 3, left := 0 } line) with line := line } = p.ret n ∧ stT (dT (p.st n) (retS (p.hs n m) (p.st n)) at_ stops { p.slot n with stage := 3, left := 0 } line) = p.st (n + 1) ∧
    flT (dT (p.st n) (retS (p.hs n m) (p.st n)) at_ stops { p.slot n with stage := 3, left := 0 } line) = p.fl n ∧ (dT (p.st n) (retS (p.hs n m) (p.st n)) at_ stops { p.slot n with stage := 3, left := 0 } line).theM (retS (p.hs n m) (p.st n)) = p.hs (n + 1) (if p.fl n = true then n + 1 else m)
  flp : ∀ n, n < N → (p.fl n = true → (p.st (n + 1)).pc = p.pc (n + 1)) ∧ (p.last n = true → p.fl n = true)
structure PInv (p : Plan) (n m : Nat) (V : PipV) (S : HS) : Prop where
  win : Win p n m
  s : V.s = p.st n
  S : S = p.hs n m
  l : (V.l ++ V.nv.toList).map core = (List.range' n (m - n)).map p.slot
  at_ : V.stops = false → V.at_ = p.pc m
  stops : V.stops = if n < m then p.last (m - 1) else false
  sl : SlOk V.l
  nv : NvOk V.nv
theorem PInv.mov {p : Plan} {n m : Nat} {V : PipV} {S : HS} (h : PInv p n m V S) {late : Int} (h0 : 0 ≤ late) (h7 : late ≤ 7) : PInv p n m (movV V late) S := by
  refine ⟨h.win, h.s, h.S, ?_, h.at_, h.stops, mov_ok V h0 h7 h.sl, h.nv⟩
  show (movesV _ _ _ _ V.l ++ V.nv.toList).map core = _
  rw [List.map_append, core_movesV, ← List.map_append]
  exact h.l
theorem PInv.len {p : Plan} {n m : Nat} {V : PipV} {S : HS} (h : PInv p n m V S) : V.l.length + V.nv.toList.length = m - n := by
  have := congrArg List.length h.l
  simpa using this
theorem PInv.mem {p : Plan} {n m : Nat} {V : PipV} {S : HS} (h : PInv p n m V S) {x : SlV} (hx : x ∈ V.l) : ∃ k, x.i = (p.slot k).i := by
  have h1 : core x ∈ (V.l ++ V.nv.toList).map core := List.mem_map.2 ⟨x, by simp [hx], rfl⟩
  rw [h.l] at h1
  obtain ⟨k, _, e⟩ := List.mem_map.1 h1
  exact ⟨k, by rw [e]; rfl⟩
theorem PInv.needs {p : Plan} {N n m : Nat} {line : Bool} {V : PipV} {S : HS} (hp : PlanOk p N line) (h : PInv p n m V S) : MvNeeds V.l := by
  intro x hx
  obtain ⟨i, hi⟩ := h.mem hx
  refine ⟨by rw [hi]; exact (hp.mvs i i).1, fun y hy => ?_⟩
  obtain ⟨j, hj⟩ := h.mem hy
  rw [hi, hj]; exact (hp.mvs i j).2
theorem PInv.fetN {p : Plan} {N n m : Nat} {line : Bool} {V : PipV} {S : HS} (hp : PlanOk p N line) (hn : n ≤ N) (h : PInv p n m V S) (hnv : V.nv = none) (hs : V.stops = false) : Win p n (m + 1) := by
  have hlen := h.len
  have h4 := h.sl.1
  rw [hnv] at hlen
  have hlen' : V.l.length = m - n := by simpa using hlen
  have hw := h.win
  refine ⟨by have := hw.1; omega, by have := hw.1; omega, fun j h1 h2 => ?_⟩
  by_cases c : j + 1 < m
  · exact hw.2.2 j h1 c
  · have hst := h.stops
    rw [hs, if_pos (by omega)] at hst
    have : j = m - 1 := by omega
    rw [this]; exact hst.symm
theorem PInv.fneeds {p : Plan} {N n m : Nat} {line : Bool} {V : PipV} {S : HS} (hp : PlanOk p N line) (hn : n ≤ N) (h : PInv p n m V S) (pick : Int) : FetNeeds V S pick := by
  intro hnv hs
  have hw := h.fetN hp hn hnv hs
  obtain ⟨f1, f2, f3⟩ := hp.fet n m pick hn hw h.win.1
  obtain ⟨g1, g2, g3, g4⟩ := hp.nxt n m hn hw h.win.1
  unfold newS
  rw [h.s, h.S, h.at_ hs, f2]
  exact ⟨f1, g1, g2⟩
theorem fet_new {V : PipV} {S : HS} {late pick : Int} (hnv : V.nv = none) (hs : V.stops = false) : ∃ y S' a b, y = newS V S pick ∧ S' = (bT V.s S V.at_ pick).theM S ∧ a = nxV y.pc y.w ∧ b = (!y.ok || (!y.is || alV y.i)) ∧ fetV V S late pick = (⟨V.s, V.l, some { y with left := late }, a, b⟩, S') := by
  refine ⟨_, _, _, _, rfl, rfl, rfl, rfl, ?_⟩
  unfold fetV
  rw [hnv]
  dsimp only
  rw [if_neg (by rw [hs]; simp)]
theorem fet_stops {V : PipV} {S : HS} {late pick : Int} (hnv : V.nv = none) (hs : V.stops = true) : fetV V S late pick = (V, S) := by
  unfold fetV
  rw [hnv]
  dsimp only
  rw [if_pos hs]
theorem fet_some {V : PipV} {S : HS} {late pick : Int} {x : SlV} (hnv : V.nv = some x) : fetV V S late pick = if 0 < x.left then ({ V with nv := some { x with left := x.left - 1 } }, S) else if canPush V.l = true then (⟨V.s, V.l ++ [x], none, V.at_, V.stops⟩, S) else (V, S) := by
  unfold fetV
  rw [hnv]
theorem canPush_len {l : List SlV} (d : canPush l = true) : l.length < 4 := by
  unfold canPush at d
  cases hz : l.getLast? with
  | none => rw [List.getLast?_eq_none_iff] at hz; rw [hz]; decide
  | some z => rw [hz] at d; simp at d; exact d.1
theorem PInv.fet_n {p : Plan} {N n m : Nat} {line : Bool} {V : PipV} {S : HS} (hp : PlanOk p N line) (hn : n ≤ N) (h : PInv p n m V S) {late : Int} (h0 : 0 ≤ late) (h7 : late ≤ 7) (pick : Int) (hnv : V.nv = none) (hs : V.stops = false) : ∃ m', PInv p n m' (fetV V S late pick).1 (fetV V S late pick).2 := by
  have hw := h.fetN hp hn hnv hs
  obtain ⟨f1, f2, f3⟩ := hp.fet n m pick hn hw h.win.1
  obtain ⟨g1, g2, g3, g4⟩ := hp.nxt n m hn hw h.win.1
  obtain ⟨y, S', a, b, hy, hS', ha, hb, e⟩ := fet_new (V := V) (S := S) (late := late) (pick := pick) hnv hs
  have hnew : y = p.slot m := by rw [hy]; unfold newS; rw [h.s, h.S, h.at_ hs]; exact f2
  have hS2 : S' = p.hs n (m + 1) := by rw [hS', h.S, h.s, h.at_ hs]; exact f3
  rw [e]
  clear e hy hS' f1 f2 f3
  have hl := h.l
  rw [hnv] at hl
  have hl' : V.l.map core = (List.range' n (m - n)).map p.slot := by simpa using hl
  have hnm := h.win.1
  have hc := hp.sl0 m
  rw [← hnew] at hc g3 g4
  rw [← hb] at g3
  rw [← ha] at g4
  clear ha hb g1 g2
  refine ⟨m + 1, hw, h.s, hS2, ?_, ?_, ?_, h.sl, ?_⟩
  · show (V.l ++ [{ y with left := late }]).map core = _
    rw [List.map_append, hl', show m + 1 - n = (m - n) + 1 by omega, List.range'_concat, List.map_append]
    congr 1
    show [core y] = [p.slot (n + 1 * (m - n))]
    rw [show n + 1 * (m - n) = m by omega, hc, hnew]
  · intro hs2
    have hs3 : b = false := hs2
    rw [g3] at hs3
    show a = _
    exact g4 hs3
  · show b = _
    rw [g3, if_pos (by omega)]; rfl
  · intro z hz
    cases hz
    have e1 : y.stage = 0 := by rw [← hc]; rfl
    exact ⟨by show 0 ≤ y.stage; omega, by show y.stage ≤ 3; omega, h0, h7⟩
theorem PInv.fet {p : Plan} {N n m : Nat} {line : Bool} {V : PipV} {S : HS} (hp : PlanOk p N line) (hn : n ≤ N) (h : PInv p n m V S) {late : Int} (h0 : 0 ≤ late) (h7 : late ≤ 7) (pick : Int) : ∃ m', PInv p n m' (fetV V S late pick).1 (fetV V S late pick).2 := by
  cases hnv : V.nv with
  | none =>
    cases hs : V.stops with
    | true => rw [fet_stops hnv hs]; exact ⟨m, h⟩
    | false => exact h.fet_n hp hn h0 h7 pick hnv hs
  | some x =>
    rw [fet_some hnv]
    obtain ⟨q1, q2, q3, q4⟩ := h.nv x hnv
    have hl := h.l
    rw [hnv] at hl
    have hl2 : V.l.map core ++ [core x] = (List.range' n (m - n)).map p.slot := by
      rw [← hl]
      show _ = (V.l ++ [x]).map core
      rw [List.map_append]; rfl
    by_cases c : 0 < x.left
    · rw [if_pos c]
      refine ⟨m, h.win, h.s, h.S, (by show (V.l ++ [{ x with left := x.left - 1 }]).map core = _; rw [List.map_append]; exact hl2), h.at_, h.stops, h.sl, ?_⟩
      intro y hy
      cases hy
      exact ⟨q1, q2, by show 0 ≤ x.left - 1; omega, by show x.left - 1 ≤ 7; omega⟩
    · rw [if_neg c]
      by_cases d : canPush V.l = true
      · rw [if_pos d]
        have d4 := canPush_len d
        refine ⟨m, h.win, h.s, h.S, ?_, h.at_, h.stops, ⟨by show (V.l ++ [x]).length ≤ 4; simp; omega, ?_⟩, fun y hy => by cases hy⟩
        · show ((V.l ++ [x]) ++ []).map core = _
          rw [List.append_nil]
          exact hl
        · intro y hy
          rcases List.mem_append.1 hy with hy | hy
          · exact h.sl.2 y hy
          · have : y = x := by simpa using hy
            subst this; exact ⟨q1, q2, q3, q4⟩
      · rw [if_neg d]; exact ⟨m, h⟩
theorem after_eq (V : PipV) (S : HS) (x : SlV) (l : List SlV) (line : Bool) : afterV V S x l line = bif flT (dTV V S x line) then ⟨stT (dTV V S x line), [], none, (stT (dTV V S x line)).pc, false⟩ else ⟨stT (dTV V S x line), l, V.nv, V.at_, V.stops⟩ := rfl
theorem PInv.retire {p : Plan} {N n m : Nat} {line : Bool} {V : PipV} {S : HS} (hp : PlanOk p N line) (hn : n < N) (h : PInv p n m V S) {x : SlV} {l : List SlV} (hV : V.l = x :: l) (h3 : x.stage = 3) (h0 : x.left = 0) :
    (dTV V S x line).needB = true ∧ { retV (dTV V S x line) with line := line } = p.ret n ∧ ∃ m', PInv p (n + 1) m' (afterV V S x l line) ((dTV V S x line).theM (retS S V.s)) := by
  have hl := h.l
  have hlen := h.len
  rw [hV] at hlen hl
  have hnm : n < m := by simp at hlen; omega
  have hl' : core x :: (l ++ V.nv.toList).map core = p.slot n :: (List.range' (n + 1) (m - (n + 1))).map p.slot := by
    rw [show m - n = (m - (n + 1)) + 1 by omega, List.range'_succ] at hl
    exact hl
  injection hl' with hx hrest
  have hxx : x = { p.slot n with stage := 3, left := 0 } := by
    rw [← hx]
    cases x
    dsimp only [core] at *
    subst h3; subst h0; rfl
  obtain ⟨r1, r2, r3, r4, r5⟩ := hp.ret n m V.at_ V.stops hn h.win hnm
  obtain ⟨q1, q2⟩ := hp.flp n hn
  rw [← hxx] at r1 r2 r3 r4 r5
  have e : dT (p.st n) (retS (p.hs n m) (p.st n)) V.at_ V.stops x line = dTV V S x line := by unfold dTV; rw [h.s, h.S]
  have e5 : retS (p.hs n m) (p.st n) = retS S V.s := by rw [h.s, h.S]
  rw [e] at r1 r2 r3 r4 r5
  rw [e5] at r5
  have hSok : ∀ y ∈ l, 0 ≤ y.stage ∧ y.stage ≤ 3 ∧ 0 ≤ y.left ∧ y.left ≤ 7 := fun y hy => h.sl.2 y (by rw [hV]; simp [hy])
  have hlen4 : l.length ≤ 4 := by have := h.sl.1; rw [hV] at this; simp at this; omega
  refine ⟨r1, r2, ?_⟩
  rw [after_eq, r5, r3, r4]
  clear r1 r2 r3 r4 r5 e e5
  cases hf : p.fl n with
  | true =>
    refine ⟨n + 1, ⟨Nat.le_refl _, by omega, fun j h1 h2 => by omega⟩, rfl, rfl, ?_, fun _ => q1 hf, ?_, ⟨by simp, fun y hy => by cases hy⟩, fun y hy => by cases hy⟩
    · show [] = _
      rw [Nat.sub_self]; rfl
    · show false = _
      rw [if_neg (by omega)]
  | false =>
    have hnl : p.last n = false := by
      cases hq : p.last n with
      | false => rfl
      | true => rw [q2 hq] at hf; cases hf
    refine ⟨m, ⟨by omega, by have := h.win.2.1; omega, fun j h1 h2 => h.win.2.2 j (by omega) h2⟩, rfl, rfl, hrest, h.at_, ?_, ⟨hlen4, hSok⟩, h.nv⟩
    show V.stops = _
    rw [h.stops, if_pos hnm]
    by_cases c : n + 1 < m
    · rw [if_pos c]
    · rw [if_neg c, show m - 1 = n by omega]; exact hnl
theorem plan_cyc {p : Plan} {N n m : Nat} {line : Bool} {V : PipV} {S : HS} (hp : PlanOk p N line) (hn : n ≤ N) (h : PInv p n m V S) {late : Int} (h0 : 0 ≤ late) (h7 : late ≤ 7) (pick : Int) :
    (∃ V' S' m', Cyc V S late pick line none V' S' ∧ PInv p n m' V' S' ∧ mu V' < mu V) ∨ (∃ x l, V.l = x :: l ∧ x.stage = 3 ∧ x.left = 0) ∧ (n < N → ∃ V' S' m', Cyc V S late pick line (some (p.ret n)) V' S' ∧ PInv p (n + 1) m' V' S') := by
  by_cases hr : ∃ x l, V.l = x :: l ∧ x.stage = 3 ∧ x.left = 0
  · obtain ⟨x, l, hV, h3, hx0⟩ := hr
    refine .inr ⟨⟨x, l, hV, h3, hx0⟩, fun hN => ?_⟩
    obtain ⟨r1, r2, m1, r3⟩ := h.retire hp hN hV h3 hx0
    have M1 := r3.mov h0 h7
    obtain ⟨m2, F1⟩ := M1.fet hp (show n + 1 ≤ N from hN) h0 h7 pick
    have hc := cyc_some hV h3 hx0 late pick h0 h7 line (by have := h.sl.1; rw [hV] at this; simp at this; omega) r1 rfl rfl r3.sl r3.nv (r3.needs hp) (M1.fneeds hp (show n + 1 ≤ N from hN) pick)
    rw [r2] at hc
    exact ⟨_, _, m2, hc, F1⟩
  · refine .inl ?_
    have hr' : ∀ x l, V.l = x :: l → x.stage = 3 → 0 < x.left := fun x l hV h3 => by
      obtain ⟨_, _, q3, _⟩ := h.sl.2 x (by rw [hV]; simp)
      by_cases c : x.left = 0
      · exact absurd ⟨x, l, hV, h3, c⟩ hr
      · omega
    have M1 := h.mov h0 h7
    obtain ⟨m2, F1⟩ := M1.fet hp hn h0 h7 pick
    refine ⟨_, _, m2, cyc_none late pick h0 h7 line h.sl h.nv (h.needs hp) (M1.fneeds hp hn pick) hr', F1, ?_⟩
    refine mu_less h0 h7 h.sl h.nv (fun e1 e2 => ?_) hr'
    have hlen := h.len
    rw [e1, e2] at hlen
    have : ¬ n < m := by simp at hlen; omega
    rw [h.stops, if_neg this]
end Go.Proofs.YtfehilinnalflaaGreat
namespace Go.Proofs.YtfehilinnalflaaGreat
open Go.RowKit Go.BigFrame
set_option linter.unusedSimpArgs false
set_option linter.unusedVariables false
set_option maxRecDepth 100000
def RtAt (w : World) (L c : Nat) (l : List RetV) : Prop :=
  ∃ arr : Array Value, w.heap[L]? = some (.cells arr 47 (0, 0)) ∧ c * 12 ≤ arr.size ∧ l.length ≤ c ∧ ∀ (k : Nat) (x : RetV), l[k]? = some x → ∀ (j : Nat) (v : Value), (retL x)[j]? = some v → arr[k * 12 + j]? = some v
theorem retL_len (x : RetV) : (retL x).length = 12 := rfl
theorem RtAt.cell {w : World} {L c : Nat} {l : List RetV} (h : RtAt w L c l) {k : Nat} {x : RetV} (hk : l[k]? = some x) {j : Nat} {v : Value} (hj : (retL x)[j]? = some v) : w.cell? ⟨L, k * 12 + j, none⟩ = some v := by
  obtain ⟨arr, h1, h2, h3, h4⟩ := h
  simp [World.cell?, h1, h4 k x hk j v hj]
theorem RtAt.free {w : World} {L c : Nat} {l : List RetV} (h : RtAt w L c l) (o : Nat) : w.frozen? ⟨L, o, none⟩ = false := by
  obtain ⟨arr, h1, h2, h3, h4⟩ := h
  simp [World.frozen?, h1]
theorem RtAt.keep {w w' : World} {L c : Nat} {l : List RetV} (h : RtAt w L c l) (e : w'.heap[L]? = w.heap[L]?) : RtAt w' L c l := by
  obtain ⟨arr, h1, h2⟩ := h
  exact ⟨arr, by rw [e]; exact h1, h2⟩
theorem RtAt.lt {w : World} {L c : Nat} {l : List RetV} (h : RtAt w L c l) : L < w.heap.size := by
  obtain ⟨arr, h1, _⟩ := h
  exact blk_lt h1
def Rets (w : World) (B : Nat) (G : Nat → Prop) (v : Value) (l : List RetV) : Prop :=
  (v = .slice none 0 0 ∧ l = []) ∨ ∃ L c, v = .slice (some ⟨L, 0, none⟩) l.length c ∧ RtAt w L c l ∧ B ≤ L ∧ ¬ G L
theorem Rets.keep {w w' : World} {B : Nat} {G G' : Nat → Prop} {v : Value} {l : List RetV} (h : Rets w B G v l) (k : Went w G w' G') : Rets w' B G' v l := by
  rcases h with h | ⟨L, c, h1, h2, h3, h4⟩
  · exact .inl h
  · exact .inr ⟨L, c, h1, h2.keep (k.fr.block L h2.lt h4), h3, fun hg => (k.new L hg).elim h4 (fun h => by have := h2.lt; omega)⟩
theorem Rets.below {w w' : World} {B : Nat} {G : Nat → Prop} {v : Value} {l : List RetV} (h : Rets w B G v l) (k : Below w.heap.size w w') : Rets w' B G v l := h.keep (Went.below k)
theorem flat12 : ∀ (l : List RetV) (k : Nat) (x : RetV), l[k]? = some x → ∀ (j : Nat) (v : Value), (retL x)[j]? = some v → (l.flatMap retL)[k * 12 + j]? = some v
  | [], k, x, h, _, _, _ => by cases h
  | y :: l, k, x, h, j, v, hv => by
    have hj : j < 12 := by have := (List.getElem?_eq_some_iff.1 hv).1; rw [retL_len] at this; exact this
    cases k with
    | zero =>
      cases h
      rw [List.flatMap_cons, List.getElem?_append_left (by rw [retL_len]; omega), Nat.zero_mul, Nat.zero_add]; exact hv
    | succ k =>
      rw [List.flatMap_cons, List.getElem?_append_right (by rw [retL_len]; omega), retL_len, show (k + 1) * 12 + j - 12 = k * 12 + j by omega]
      exact flat12 l k x h j v hv
theorem flat12_len : ∀ (l : List RetV), (l.flatMap retL).length = l.length * 12
  | [] => rfl
  | x :: l => by rw [List.flatMap_cons, List.length_append, flat12_len l, retL_len, List.length_cons]; omega
theorem RtAt.append {w : World} {L c : Nat} {l : List RetV} (h : RtAt w L c l) (hr : l.length < c) (x : RetV) :
    RtAt (w.setCells L (l.length * 12) (retL x)) L c (l ++ [x]) ∧ Upd w (w.setCells L (l.length * 12) (retL x)) L := by
  obtain ⟨arr, h1, h2, h3, h4⟩ := h
  have hlen : l.length * 12 + 12 ≤ arr.size := by omega
  have e : arr = (arr.toList.take (l.length * 12) ++ arr.toList.drop (l.length * 12)).toArray := by rw [List.take_append_drop]
  have hpl : (arr.toList.take (l.length * 12)).length = l.length * 12 := by simp; omega
  have hdl : (arr.toList.drop (l.length * 12)).length = arr.size - (l.length * 12) := by simp
  have hg := h1
  rw [e] at hg
  obtain ⟨s1, s2⟩ := set_vals L 47 (retL x) w _ _ (by rw [hdl, retL_len]; omega) hg
  rw [hpl] at s1 s2
  have low : ∀ i, i < l.length * 12 → (arr.toList.take (l.length * 12) ++ retL x ++ (arr.toList.drop (l.length * 12)).drop (retL x).length).toArray[i]? = arr[i]? := fun i hi => by
    rw [List.getElem?_toArray, List.append_assoc, List.getElem?_append_left (by rw [hpl]; exact hi), List.getElem?_take_of_lt hi, Array.getElem?_toList]
  have hsz : (arr.toList.take (l.length * 12) ++ retL x ++ (arr.toList.drop (l.length * 12)).drop (retL x).length).toArray.size = arr.size := by
    rw [List.size_toArray, List.length_append, List.length_append, hpl, List.length_drop, hdl, retL_len]; omega
  refine ⟨⟨_, s1, by rw [hsz]; exact h2, by simp; omega, fun k y hk j v hv => ?_⟩, s2⟩
  have hj : j < 12 := by have := (List.getElem?_eq_some_iff.1 hv).1; rw [retL_len] at this; exact this
  by_cases hkl : k < l.length
  · rw [List.getElem?_append_left hkl] at hk
    rw [low _ (by omega)]
    exact h4 k y hk j v hv
  · have hk2 : k = l.length := by have := (List.getElem?_eq_some_iff.1 hk).1; simp at this; omega
    subst hk2
    rw [List.getElem?_append_right (Nat.le_refl _), Nat.sub_self] at hk
    cases hk
    rw [List.getElem?_toArray, List.append_assoc, List.getElem?_append_right (by rw [hpl]; omega), hpl, show l.length * 12 + j - (l.length * 12) = j by omega, List.getElem?_append_left (by rw [retL_len]; exact hj)]
    exact hv
theorem RtAt.new (w : World) (l : List RetV) (x : RetV) (z : Value) (hz : z.cells.size = 12) (g : Nat) (hg : l.length + 1 ≤ g) :
    RtAt (w.alloc (.cells ((l.flatMap retL ++ retL x).toArray ++ Builtin.zeroCells z.cells (g - (l.length + 1))) 47)) w.heap.size g (l ++ [x]) := by
  refine ⟨_, (MapKept.heap_alloc w _).1, ?_, by simp; omega, fun k y hk j v hv => ?_⟩
  · rw [Array.size_append, size_zeroCells, hz, List.size_toArray, List.length_append, flat12_len, retL_len]
    omega
  · have e : (l ++ [x]).flatMap retL = l.flatMap retL ++ retL x := by rw [List.flatMap_append]; simp
    have hkl := (List.getElem?_eq_some_iff.1 hk).1
    have hj : j < 12 := by have := (List.getElem?_eq_some_iff.1 hv).1; rw [retL_len] at this; exact this
    have hs : (l.flatMap retL ++ retL x).toArray.size = (l.length + 1) * 12 := by rw [List.size_toArray, List.length_append, flat12_len, retL_len]; omega
    rw [Array.getElem?_append_left (by rw [hs]; simp at hkl; omega), List.getElem?_toArray, ← e]
    exact flat12 _ k y hk j v hv
end Go.Proofs.YtfehilinnalflaaGreat
namespace Go.Proofs.YtfehilinnalflaaGreat
open Go.RowKit Go.BigFrame
set_option linter.unusedSimpArgs false
set_option linter.unusedVariables false
set_option maxRecDepth 100000
theorem w64_in (n : Int) (h : -9223372036854775808 ≤ n ∧ n ≤ 9223372036854775807) : wrap64 n = n := by unfold wrap64; omega
theorem u64w (n : Int) : IntKind.u64.wrap n = n % 18446744073709551616 := by simp [IntKind.wrap, IntKind.bits, IntKind.signed]
def Puts (w : World) (a : Option Addr) (n : Nat) : Prop := 0 < n → ∃ (b o : Nat) (A V : Nat → BitVec 64), a = some ⟨b, o, none⟩ ∧ b < w.heap.size ∧ ∀ j, j < n → w.cell? ⟨b, o + j * 2, none⟩ = some (U (A j)) ∧ w.cell? ⟨b, o + j * 2 + 1, none⟩ = some (U (V j))
def Codes (w : World) (a : Option Addr) (n : Nat) (C : Nat → InV) : Prop := 0 < n → ∃ b o : Nat, a = some ⟨b, o, none⟩ ∧ b < w.heap.size ∧ ∀ j, j < n → ∀ (k : Nat) (v : Value), (inL (C j))[k]? = some v → w.cell? ⟨b, o + j * 6 + k, none⟩ = some v
structure Lays (w W : World) (p g q h : Nat) (f : Nat → UInt8) : Prop where
  m : IsMem W p g 92 f
  r : ∃ f', IsMem W q h 112 f'
  hb : Below w.heap.size w W
theorem Lays.below {w W W' : World} {p g q h : Nat} {f : Nat → UInt8} (t : Lays w W p g q h f) (b : Below W.heap.size W W') : Lays w W' p g q h f := by
  obtain ⟨f', r⟩ := t.r
  exact ⟨t.m.below b, ⟨f', r.below b⟩, HBstep t.hb b⟩
structure ApartL (w : World) (p g q h : Nat) : Prop where
  lp : w.heap.size ≤ p
  lg : w.heap.size ≤ g
  lq : w.heap.size ≤ q
  lh : w.heap.size ≤ h
  ph : p ≠ h
  gh : g ≠ h
  qg : q ≠ g
theorem Lays.mw {w W W' : World} {p g q h : Nat} {f f2 : Nat → UInt8} (t : Lays w W p g q h f) (a : ApartL w p g q h) (u : Upd W W' g) (m : IsMem W' p g 92 f2) : Lays w W' p g q h f2 := by
  obtain ⟨f', r, e1, e2⟩ := t.r
  refine ⟨m, ⟨f', r, ?_, ?_⟩, u.below t.hb t.hb.size a.lg⟩
  · rw [u.block q (blk_lt e1) a.qg]; exact e1
  · rw [u.block h (blk_lt e2) (Ne.symm a.gh)]; exact e2
theorem Lays.rw_ {w W W' : World} {p g q h : Nat} {f f2 : Nat → UInt8} (t : Lays w W p g q h f) (a : ApartL w p g q h) (u : Upd W W' h) (m : IsMem W' q h 112 f2) : Lays w W' p g q h f := by
  obtain ⟨r, e1, e2⟩ := t.m
  refine ⟨⟨r, ?_, ?_⟩, ⟨_, m⟩, u.below t.hb t.hb.size a.lh⟩
  · rw [u.block p (blk_lt e1) a.ph]; exact e1
  · rw [u.block g (blk_lt e2) a.gh]; exact e2
def atC (pc : BitVec 64) : BitVec 64 := (pc &&& ~~~3#64) % 16384#64
theorem atC_ok (pc : BitVec 64) : (atC pc).toNat % 4 = 0 ∧ (atC pc).toNat < 16384 := by
  have h : (atC pc).toNat = (pc &&& ~~~3#64).toNat % 16384 := by unfold atC; rw [BitVec.toNat_umod]; rfl
  have h2 : (pc &&& ~~~3#64).toNat % 4 = 0 := by
    have e : (pc &&& ~~~3#64) &&& 3#64 = 0#64 := by rw [BitVec.and_assoc]; simp
    have e2 := congrArg BitVec.toNat e
    rw [BitVec.toNat_and] at e2
    have e3 : ((pc &&& ~~~3#64).toNat &&& 3) = (pc &&& ~~~3#64).toNat % 4 := Nat.and_two_pow_sub_one_eq_mod _ 2
    rw [← e3]; exact e2
  omega
def codeF (f : Nat → UInt8) (at_ : BitVec 64) (enc : Nat → Int) : Nat → (Nat → UInt8)
  | 0 => f
  | k + 1 => wrF (codeF f at_ enc k) (at_ + BitVec.ofNat 64 (4 * k)) 4 (BitVec.ofInt 64 (enc k))
theorem code_at (pc : BitVec 64) (k : Nat) (hk : k < 4096) : codeOf (atC pc + BitVec.ofNat 64 (4 * k)) 4 = 0 := by
  obtain ⟨h1, h2⟩ := atC_ok pc
  have e : (atC pc + BitVec.ofNat 64 (4 * k)).toNat = (atC pc).toNat + 4 * k := by rw [BitVec.toNat_add, BitVec.toNat_ofNat]; omega
  unfold codeOf
  rw [e, if_neg (by omega), if_neg (by omega)]
set_option maxHeartbeats 4000000 in
theorem laid_w (a0 a1 : Option Addr) (n0 c0 n1 c1 : Nat) (s : St) (C : Nat → InV) (enc : Nat → Int) (ok : Nat → Bool) (w : World) (hP : Puts w a0 n0) (hC : Codes w a1 n1 C) (hn0 : n0 ≤ 1000) (hn1 : n1 ≤ 1000)
    (hE : ∀ j, j < n1 → Gives Tryz.prog 22 #[.agg (inL (C j)).toArray] (.tuple #[.int .u32 (enc j), .bool (ok j)])) :
    Calls Tryz.prog 9 #[.slice a0 n0 c0, .slice a1 n1 c1, .agg (stA s)] w fun e w' => ∃ p g q h f0, e = .returned (.tuple #[.pointer (some ⟨p, 0, none⟩), .pointer (some ⟨q, 0, none⟩)]) ∧ ApartL w p g q h ∧ Lays w w' p g q h (codeF f0 (atC s.pc) enc n1) ∧ (n0 = 0 → f0 = fun _ => 0) := by
  have hpc := stA_pc s
  obtain ⟨A, hA⟩ : ∃ A, A = stA s := ⟨_, rfl⟩
  have hsz : A.size = 65 := by rw [hA]; exact stA_size s
  rw [← hA] at hpc ⊢
  have HP := Lib.hid hP
  have HC := Lib.hid hC
  have HE := Lib.hid hE
  have HPC := Lib.hid hpc
  have HN0 := Lib.hid hn0
  have HN1 := Lib.hid hn1
  have HSZ := Lib.hid hsz
  clear hP hC hE hpc hA hn0 hn1 hsz
  go_enter Tryz.func9, Tryz.ntmps9
  go_wp2_with fail
  refine (new_all _).mono ?_
  rintro e w1 ⟨p, g, rfl, hp, hg, hpl, hgl, M, hb⟩
  go_wp2_with fail
  refine (rnew_all _).mono ?_
  rintro e w2 ⟨q, h, rfl, hq, hh, hql, hhl, N, hb2⟩
  have hst : w2.heap[w.heap.size]? = some (.cells A 37 (0, 0)) := by
    have h1 := (MapKept.heap_alloc w (.cells A 37)).1
    have hs : (w.alloc (.cells A 37)).heap.size = w.heap.size + 1 := by simp
    have h2 := (hb.block _ (blk_lt h1)).trans h1
    exact (hb2.block _ (blk_lt h2)).trans h2
  have hs1 : (w.alloc (.cells A 37)).heap.size = w.heap.size + 1 := by simp
  have AP := Lib.hid (show ApartL w p g q h from ⟨by omega, by omega, by have := hb.size; omega, by have := hb.size; omega, by omega, by omega, by omega⟩)
  have TW := Lib.hid (show Lays w w2 p g q h (fun _ => 0) from ⟨M.below hb2, ⟨_, N⟩, HBstep (HBstep ((Below.refl _ _).alloc (Nat.le_refl _) _) hb) hb2⟩)
  have ST := Lib.hid hst
  have KST := Lib.hid (show w.heap.size ≠ g ∧ w.heap.size ≠ h from by have := hb.size; omega)
  clear hp hg hpl hgl M hb hq hh hql hhl N hb2 hst hs1
  go_wp2_with fail
  go_loopw [10] (fun i wr => ∃ m : Nat, m ≤ n0 ∧ i = .int .i64 m ∧ ∃ f, Lays w wr p g q h f ∧ wr.heap[w.heap.size]? = some (.cells A 37 (0, 0)) ∧ (n0 = 0 → f = fun _ => 0)) (fun i _ => n0 - (intOf i).toNat)
  case atStart => exact ⟨0, by omega, rfl, _, TW.out, ST.out, fun _ => rfl⟩
  case round =>
    clear TW ST
    obtain ⟨m, hm, rfl, f, TW, ST, F0⟩ := hrel
    by_cases hmn : m < n0
    · have hw1 : wrap64 ((m : Int) + 1) = ((m + 1 : Nat) : Int) := by rw [w64_in _ (by have := HN0.out; omega)]; rfl
      have HW1 := Lib.hid hw1
      clear hw1
      obtain ⟨b, o, Aa, Vv, rfl, hb, hc⟩ := HP.out (by omega)
      obtain ⟨c0', c1'⟩ := hc m hmn
      clear hc
      have K0 := Lib.hid (show ∀ W : World, Below w.heap.size w W → W.cell? ⟨b, o + m * 2, none⟩ = some (U (Aa m)) from fun W hW => (hW.cell (p := ⟨b, o + m * 2, none⟩) hb).trans c0')
      have K1 := Lib.hid (show ∀ W : World, Below w.heap.size w W → W.cell? ⟨b, o + m * 2 + 1, none⟩ = some (U (Vv m)) from fun W hW => (hW.cell (p := ⟨b, o + m * 2 + 1, none⟩) hb).trans c1')
      rw [← TW.hb.cell (p := ⟨b, o + m * 2, none⟩) hb] at c0'
      rw [← TW.hb.cell (p := ⟨b, o + m * 2 + 1, none⟩) hb] at c1'
      generalize Aa m = aa at *
      generalize Vv m = vv at *
      have TW := Lib.hid TW
      have ST := Lib.hid ST
      have F0 := Lib.hid F0
      have HB := Lib.hid hb
      clear hb
      go_wp2_with fail
      obtain ⟨f', R⟩ := TW.out.r
      have key : Calls Tryz.prog 20 #[.pointer (some ⟨q, 0, none⟩), U aa, .int .i64 8] _ _ := rcode_any aa 8 wr R
      (with_reducible refine key.mono ?_)
      clear key R
      rintro e w6 ⟨rfl, rfl⟩
      by_cases hc : codeOf aa 8 = 0
      · rw [hc]
        go_wp2_with fail
        have g0 : ∀ z : Beyond wr, z.to.cell? ⟨b, o + m * 2, none⟩ = some (U aa) := fun z => K0.out _ (HBstep TW.out.hb z.ok)
        have g1 : ∀ z : Beyond wr, z.to.cell? ⟨b, o + m * 2 + 1, none⟩ = some (U vv) := fun z => K1.out _ (HBstep TW.out.hb z.ok)
        clear c0' c1'
        refine wp_region_quiet_tail (C := fun w' => ∃ z : Beyond wr, w' = z.to) 11 (by kernel_rfl) (by kernel_rfl) ⟨⟨_, (Below.refl _ _).drew⟩, rfl⟩ ?_
        simp only [List.take_succ_cons, List.take_zero, List.drop_succ_cons, List.drop_zero]
        repeat (go_big_quiet_step (fail))
        refine wpQuiet_nil ?_
        rintro w4 ⟨z, rfl⟩
        have T4 := TW.out.below z.ok
        have S4 := (z.ok.block w.heap.size (blk_lt ST.out)).trans ST.out
        have C40 := g0 z
        have C41 := g1 z
        generalize z.to = W4 at T4 S4 C40 C41
        clear g0 g1 TW
        have T4 := Lib.hid T4
        go_wp2_with fail
        have key := write_all aa 8 vv W4 T4.out.m
        rw [hc] at key
        (with_reducible refine key.mono ?_)
        clear key
        rintro e w5 ⟨rfl, hu, M5⟩
        have T5 := T4.out.mw AP.out hu M5
        have S5 := (hu.block w.heap.size (blk_lt S4) KST.out.1).trans S4
        have D50 : ∀ z : Beyond w5, z.to.cell? ⟨b, o + m * 2, none⟩ = some (U aa) := fun z => K0.out _ (HBstep T5.hb z.ok)
        have D51 : ∀ z : Beyond w5, z.to.cell? ⟨b, o + m * 2 + 1, none⟩ = some (U vv) := fun z => K1.out _ (HBstep T5.hb z.ok)
        have T5 := Lib.hid T5
        have S5 := Lib.hid S5
        have HCC := Lib.hid hc
        clear hu M5 T4 C40 C41 S4 hc
        go_wp2_with fail
        refine wp_region_quiet_tail (C := fun w' => ∃ z : Beyond w5, w' = z.to) 11 (by kernel_rfl) (by kernel_rfl) ⟨⟨_, (Below.refl _ _).drew⟩, rfl⟩ ?_
        simp only [List.take_succ_cons, List.take_zero, List.drop_succ_cons, List.drop_zero]
        repeat (go_big_quiet_step (fail))
        refine wpQuiet_nil ?_
        rintro w6 ⟨z, rfl⟩
        have T6 := T5.out.below z.ok
        have S6 := (z.ok.block w.heap.size (blk_lt S5.out)).trans S5.out
        generalize z.to = W6 at T6 S6
        clear D50 D51 T5 S5
        have T6 := Lib.hid T6
        go_wp2_with fail
        obtain ⟨f6, R6⟩ := T6.out.r
        have key : Calls Tryz.prog 21 #[.pointer (some ⟨q, 0, none⟩), U aa, .int .i64 8, U vv] _ _ := rwrite_any aa 8 vv W6 R6 HCC.out
        (with_reducible refine key.mono ?_)
        clear key
        rintro e w7 ⟨rfl, hu, M7⟩
        have T7 := Lib.hid (T6.out.rw_ AP.out hu M7)
        have S7 := Lib.hid ((hu.block w.heap.size (blk_lt S6) KST.out.2).trans S6)
        clear hu M7 T6 S6 R6
        go_wp2_with fail
        exact ⟨⟨m + 1, by omega, by rw [HW1.out], _, T7.out, S7.out, fun e => by omega⟩, by rw [HW1.out]; simp [intOf]; omega⟩
      · have dc : (codeOf aa 8 == 0) = false := by simpa using hc
        have HC8 := Lib.hid hc
        clear hc
        go_wp2_with fail
        exact ⟨⟨m + 1, by omega, by rw [HW1.out], _, TW.out, ST.out, fun e => by omega⟩, by rw [HW1.out]; simp [intOf]; omega⟩
    · have e : m = n0 := by omega
      subst e
      clear HP hm hmn
      have TW := Lib.hid TW
      have F0 := Lib.hid F0
      have ST := Lib.hid ST
      have e3 : Go.bits .andNot .u64 (s.pc.toNat : Int) 3 = ((s.pc &&& ~~~3#64).toNat : Int) := u_andNot s.pc 3#64
      obtain ⟨an, han⟩ : ∃ an, an = (atC s.pc).toNat := ⟨_, rfl⟩
      have HAN := Lib.hid han
      have e4 := Lib.hid (show ((s.pc.toNat &&& 18446744073709551612 : Nat) : Int) % 16384 = (an : Int) from by
        rw [han]
        unfold atC
        rw [BitVec.toNat_umod, BitVec.toNat_and]
        rfl)
      clear han
      have cpc : wr.cell? ⟨w.heap.size, 32, none⟩ = some (U s.pc) := by simp [World.cell?, ST.out, HPC.out]
      go_wp2_with fail
      rw [e4.out]
      clear cpc ST e3 e4
      obtain ⟨at_, hat⟩ : ∃ at_, at_ = atC s.pc := ⟨_, rfl⟩
      have HAT := Lib.hid (fun j hj => code_at s.pc j hj)
      rw [← hat] at HAT HAN
      have HATE := Lib.hid hat
      clear hat
      go_loopw [12, 13, 14] (fun i x y wr => ∃ m : Nat, m ≤ n1 ∧ i = .int .i64 m ∧ Lays w wr p g q h (codeF f at_ enc m)) (fun i _ _ _ => n1 - (intOf i).toNat)
      case atStart => exact ⟨0, by omega, rfl, TW.out⟩
      case round =>
        clear TW
        obtain ⟨k, hk, rfl, TW⟩ := hrel
        by_cases hkn : k < n1
        · have hw1 : wrap64 ((k : Int) + 1) = ((k + 1 : Nat) : Int) := by rw [w64_in _ (by have := HN1.out; omega)]; rfl
          have HW1 := Lib.hid hw1
          clear hw1
          obtain ⟨b, o, rfl, hb, hc⟩ := HC.out (by omega)
          have hE := HE.out k hkn
          have hck := hc k hkn
          obtain ⟨ek, hek⟩ : ∃ ek, ek = enc k := ⟨_, rfl⟩
          rw [← hek] at hE
          have HEK := Lib.hid hek
          generalize ok k = okk at hE
          clear hc hek
          revert hE hck
          generalize C k = x
          intro hck hE
          obtain ⟨x0, x1, x2, x3, x4, x5⟩ := x
          have q0 := (TW.hb.cell (p := ⟨b, o + k * 6, none⟩) hb).trans (hck 0 _ rfl)
          have q1 := (TW.hb.cell (p := ⟨b, o + k * 6 + 1, none⟩) hb).trans (hck 1 _ rfl)
          have q2 := (TW.hb.cell (p := ⟨b, o + k * 6 + 2, none⟩) hb).trans (hck 2 _ rfl)
          have q3 := (TW.hb.cell (p := ⟨b, o + k * 6 + 3, none⟩) hb).trans (hck 3 _ rfl)
          have q4 := (TW.hb.cell (p := ⟨b, o + k * 6 + 4, none⟩) hb).trans (hck 4 _ rfl)
          have q5 := (TW.hb.cell (p := ⟨b, o + k * 6 + 5, none⟩) hb).trans (hck 5 _ rfl)
          have hE2 : Gives Tryz.prog 22 #[.agg #[.int .i64 x0, .int .i64 x1, .int .i64 x2, .int .i64 x3, .int .i64 x4, .int .i64 x5]] (.tuple #[.int .u32 ek, .bool okk]) := hE
          have TW := Lib.hid TW
          have HE2 := Lib.hid hE2
          obtain ⟨a5, ha5⟩ : ∃ a5, a5 = at_ + BitVec.ofNat 64 (4 * k) := ⟨_, rfl⟩
          obtain ⟨n5, hn5⟩ : ∃ n5, n5 = a5.toNat := ⟨_, rfl⟩
          have e5 : IntKind.u64.wrap ((an : Int) + IntKind.u64.wrap (4 * IntKind.u64.wrap (k : Int))) = (n5 : Int) := by
            rw [hn5, ha5, HAN.out, BitVec.toNat_add, BitVec.toNat_ofNat, u64w, u64w, u64w]
            omega
          obtain ⟨a6, ha6⟩ : ∃ a6, a6 = BitVec.ofInt 64 ek := ⟨_, rfl⟩
          obtain ⟨n6, hn6⟩ : ∃ n6, n6 = a6.toNat := ⟨_, rfl⟩
          have e6 : IntKind.u64.wrap ek = (n6 : Int) := by
            rw [hn6, ha6, u64w, BitVec.toNat_ofInt]
            omega
          have HA5 := Lib.hid ha5
          have HN5 := Lib.hid hn5
          have HA6 := Lib.hid ha6
          have HN6 := Lib.hid hn6
          clear ha5 hn5 ha6 hn6
          clear hE hE2 hck hb
          go_wp2_with fail
          (with_reducible refine (HE2.out.run _).mono ?_)
          rintro e w3 ⟨rfl, hb3⟩
          have T3 := Lib.hid (TW.out.below hb3)
          clear hb3 TW q0 q1 q2 q3 q4 q5
          go_wp2_with fail
          have key := write_all a5 4 a6 w3 T3.out.m
          have hcod : codeOf a5 4 = 0 := by rw [HA5.out]; exact HAT.out k (by have := HN1.out; omega)
          rw [hcod, U, U, ← HN5.out, ← HN6.out] at key
          (with_reducible refine key.mono ?_)
          clear key
          rintro e w5 ⟨rfl, hu, M5⟩
          have T5 := Lib.hid (T3.out.mw AP.out hu M5)
          have HCC := Lib.hid hcod
          clear hu M5 T3 hcod
          go_wp2_with fail
          obtain ⟨f6, R6⟩ := T5.out.r
          have key : Calls Tryz.prog 21 #[.pointer (some ⟨q, 0, none⟩), U a5, .int .i64 4, U a6] _ _ := rwrite_any a5 4 a6 w5 R6 HCC.out
          rw [U, U, ← HN5.out, ← HN6.out] at key
          (with_reducible refine key.mono ?_)
          clear key
          rintro e w7 ⟨rfl, hu, M7⟩
          have T7 := Lib.hid (T5.out.rw_ AP.out hu M7)
          clear hu M7 R6
          go_wp2_with fail
          refine ⟨⟨k + 1, by omega, by rw [HW1.out], ?_⟩, by rw [HW1.out]; simp [intOf]; omega⟩
          have T8 := T7.out
          rw [HA5.out, HA6.out, HEK.out] at T8
          exact T8
        · have e : k = n1 := by omega
          subst e
          have TW := Lib.hid TW
          clear HC HE hk hkn
          go_wp2_with fail
          first | go_end0 | (simp only [Exit.inBlock, Exit.then]; refine bodyPost_ret (results_tmp2 rfl _ _ _) rfl ?_) | refine bodyPost_ret (results_tmp2 rfl _ _ _) rfl ?_
          have T9 := TW.out
          rw [HATE.out] at T9
          exact ⟨p, g, q, h, f, rfl, AP.out, T9, F0.out⟩
end Go.Proofs.YtfehilinnalflaaGreat
namespace Go.Proofs.YtfehilinnalflaaGreat
open Go.RowKit Go.BigFrame
set_option linter.unusedSimpArgs false
set_option linter.unusedVariables false
set_option maxRecDepth 100000
structure Drive (k : Nat) (line : Bool) (I : List RetV → PipV → HS → Prop) : Prop where
  mle : ∀ L V S, I L V S → mu V ≤ 21
  go : ∀ L V S (late pick : Int), L.length < k → 0 ≤ late → late ≤ 7 → I L V S →
    (∃ V' S', Cyc V S late pick line none V' S' ∧ I L V' S' ∧ mu V' < mu V) ∨ (∃ r V' S', Cyc V S late pick line (some r) V' S' ∧ I (L ++ [r]) V' S')
structure RunI (k : Nat) (line : Bool) (I : List RetV → PipV → HS → Prop) (w : World) (G : Nat → Prop) (P : Nat) (v : Value) (t : Nat) (wr : World) (L : List RetV) : Prop where
  len : L.length ≤ k
  st : ∃ V S G', I L V S ∧ Pip wr G' P V S ∧ Went w G wr G' ∧ Rets wr w.heap.size G' v L ∧ t + mu V ≤ 22 * L.length + 21
end Go.Proofs.YtfehilinnalflaaGreat
namespace Go.Proofs.YtfehilinnalflaaGreat
open Go.RowKit Go.BigFrame
set_option linter.unusedSimpArgs false
set_option linter.unusedVariables false
set_option maxRecDepth 100000
noncomputable def t_sallyportref3_Class (a0 : Int) : Tr := evF Tryz.prog FnZaE 120 Tryz.f38 [.s (.x false (.int .i64 a0))]
theorem is_sallyportref3_Class (a0 : Int) : (t_sallyportref3_Class a0).is [.s (.i .i64)] = true := by kernel_rfl
noncomputable def s_sallyportref3_Class (args : List Dv) : Option (Bool × AV) :=
  match args with
  | [.s c0] => (cI .i64 c0).bind fun a0 => told (t_sallyportref3_Class a0) [.s (.i .i64)]
  | _ => none
noncomputable def E_sallyportref3_Class : Env := FnZaE.add 38 s_sallyportref3_Class
theorem E_sallyportref3_Class_ok : EnvOk Tryz.prog E_sallyportref3_Class := FnZaE_ok.add _ _ (by
  intro args n av h hn
  unfold s_sallyportref3_Class at h
  split at h
  · rename_i c0
    obtain ⟨a0, h0, h⟩ := bind_some h
    exact told_ok (n := 120) (t := t_sallyportref3_Class a0) (sh := [.s (.i .i64)]) FnZaE_ok hmix Tryz.func38 (xs0 := [.s (.x false (.int .i64 a0))]) (by simp only [List.map_cons, List.map_nil, Dv.val, flat, (cI_ok h0).2]) rfl (is_sallyportref3_Class a0) (fun xs => by kernel_rfl) h hn
  · cases h)
noncomputable def t_sallyportref3_within (a0 : Int) (a1 : Int) (a2 : Int) (a3 : Int) : Tr := evF Tryz.prog E_sallyportref3_Class 120 Tryz.f77 [.s (.x false (.int .i64 a0)), .s (.x false (.int .i64 a1)), .s (.x false (.int .i64 a2)), .s (.x false (.int .i64 a3))]
theorem is_sallyportref3_within (a0 : Int) (a1 : Int) (a2 : Int) (a3 : Int) : (t_sallyportref3_within a0 a1 a2 a3).is [.s (.b)] = true := by kernel_rfl
noncomputable def s_sallyportref3_within (args : List Dv) : Option (Bool × AV) :=
  match args with
  | [.s c0, .s c1, .s c2, .s c3] => (cI .i64 c0).bind fun a0 => (cI .i64 c1).bind fun a1 => (cI .i64 c2).bind fun a2 => (cI .i64 c3).bind fun a3 => told (t_sallyportref3_within a0 a1 a2 a3) [.s (.b)]
  | _ => none
noncomputable def E_sallyportref3_within : Env := E_sallyportref3_Class.add 77 s_sallyportref3_within
theorem E_sallyportref3_within_ok : EnvOk Tryz.prog E_sallyportref3_within := E_sallyportref3_Class_ok.add _ _ (by
  intro args n av h hn
  unfold s_sallyportref3_within at h
  split at h
  · rename_i c0 c1 c2 c3
    obtain ⟨a0, h0, h⟩ := bind_some h
    obtain ⟨a1, h1, h⟩ := bind_some h
    obtain ⟨a2, h2, h⟩ := bind_some h
    obtain ⟨a3, h3, h⟩ := bind_some h
    exact told_ok (n := 120) (t := t_sallyportref3_within a0 a1 a2 a3) (sh := [.s (.b)]) E_sallyportref3_Class_ok hmix Tryz.func77 (xs0 := [.s (.x false (.int .i64 a0)), .s (.x false (.int .i64 a1)), .s (.x false (.int .i64 a2)), .s (.x false (.int .i64 a3))]) (by simp only [List.map_cons, List.map_nil, Dv.val, flat, (cI_ok h0).2, (cI_ok h1).2, (cI_ok h2).2, (cI_ok h3).2]) rfl (is_sallyportref3_within a0 a1 a2 a3) (fun xs => by kernel_rfl) h hn
  · cases h)
noncomputable def t_sallyportref3_reg (a0 : Int) (a1 : Bool) : Tr := evF Tryz.prog E_sallyportref3_within 120 Tryz.f54 [.s (.x false (.int .i64 a0)), .s (.x false (.bool a1))]
theorem is_sallyportref3_reg (a0 : Int) (a1 : Bool) : (t_sallyportref3_reg a0 a1).is [.s (.b)] = true := by kernel_rfl
noncomputable def s_sallyportref3_reg (args : List Dv) : Option (Bool × AV) :=
  match args with
  | [.s c0, .s c1] => (cI .i64 c0).bind fun a0 => (cB c1).bind fun a1 => told (t_sallyportref3_reg a0 a1) [.s (.b)]
  | _ => none
noncomputable def E_sallyportref3_reg : Env := E_sallyportref3_within.add 54 s_sallyportref3_reg
theorem E_sallyportref3_reg_ok : EnvOk Tryz.prog E_sallyportref3_reg := E_sallyportref3_within_ok.add _ _ (by
  intro args n av h hn
  unfold s_sallyportref3_reg at h
  split at h
  · rename_i c0 c1
    obtain ⟨a0, h0, h⟩ := bind_some h
    obtain ⟨a1, h1, h⟩ := bind_some h
    exact told_ok (n := 120) (t := t_sallyportref3_reg a0 a1) (sh := [.s (.b)]) E_sallyportref3_within_ok hmix Tryz.func54 (xs0 := [.s (.x false (.int .i64 a0)), .s (.x false (.bool a1))]) (by simp only [List.map_cons, List.map_nil, Dv.val, flat, (cI_ok h0).2, (cB_ok h1).2]) rfl (is_sallyportref3_reg a0 a1) (fun xs => by kernel_rfl) h hn
  · cases h)
noncomputable def t_sallyportref3_Parts (a0 : Int) : Tr := evF Tryz.prog E_sallyportref3_reg 120 Tryz.f53 [.s (.x false (.int .i64 a0))]
theorem is_sallyportref3_Parts (a0 : Int) : (t_sallyportref3_Parts a0).is [.s (.b), .s (.b), .s (.b), .s (.b), .s (.b)] = true := by kernel_rfl
noncomputable def s_sallyportref3_Parts (args : List Dv) : Option (Bool × AV) :=
  match args with
  | [.s c0] => (cI .i64 c0).bind fun a0 => told (t_sallyportref3_Parts a0) [.s (.b), .s (.b), .s (.b), .s (.b), .s (.b)]
  | _ => none
noncomputable def E_sallyportref3_Parts : Env := E_sallyportref3_reg.add 53 s_sallyportref3_Parts
theorem E_sallyportref3_Parts_ok : EnvOk Tryz.prog E_sallyportref3_Parts := E_sallyportref3_reg_ok.add _ _ (by
  intro args n av h hn
  unfold s_sallyportref3_Parts at h
  split at h
  · rename_i c0
    obtain ⟨a0, h0, h⟩ := bind_some h
    exact told_ok (n := 120) (t := t_sallyportref3_Parts a0) (sh := [.s (.b), .s (.b), .s (.b), .s (.b), .s (.b)]) E_sallyportref3_reg_ok hmix Tryz.func53 (xs0 := [.s (.x false (.int .i64 a0))]) (by simp only [List.map_cons, List.map_nil, Dv.val, flat, (cI_ok h0).2]) rfl (is_sallyportref3_Parts a0) (fun xs => by kernel_rfl) h hn
  · cases h)
noncomputable def t_sallyportref3_number (a0 : Int) (a1 : Int) (a2 : Int) (a3 : Int) (a4 : Int) (a5 : Int) : Tr := evF Tryz.prog E_sallyportref3_Parts 120 Tryz.f55 [.g [.x false (.int .i64 a0), .x false (.int .i64 a1), .x false (.int .i64 a2), .x false (.int .i64 a3), .x false (.int .i64 a4), .x false (.int .i64 a5)]]
theorem is_sallyportref3_number (a0 : Int) (a1 : Int) (a2 : Int) (a3 : Int) (a4 : Int) (a5 : Int) : (t_sallyportref3_number a0 a1 a2 a3 a4 a5).is [.s (.b)] = true := by kernel_rfl
noncomputable def s_sallyportref3_number (args : List Dv) : Option (Bool × AV) :=
  match args with
  | [.g [c0, c1, c2, c3, c4, c5]] => (cI .i64 c0).bind fun a0 => (cI .i64 c1).bind fun a1 => (cI .i64 c2).bind fun a2 => (cI .i64 c3).bind fun a3 => (cI .i64 c4).bind fun a4 => (cI .i64 c5).bind fun a5 => told (t_sallyportref3_number a0 a1 a2 a3 a4 a5) [.s (.b)]
  | _ => none
noncomputable def E_sallyportref3_number : Env := E_sallyportref3_Parts.add 55 s_sallyportref3_number
theorem E_sallyportref3_number_ok : EnvOk Tryz.prog E_sallyportref3_number := E_sallyportref3_Parts_ok.add _ _ (by
  intro args n av h hn
  unfold s_sallyportref3_number at h
  split at h
  · rename_i c0 c1 c2 c3 c4 c5
    obtain ⟨a0, h0, h⟩ := bind_some h
    obtain ⟨a1, h1, h⟩ := bind_some h
    obtain ⟨a2, h2, h⟩ := bind_some h
    obtain ⟨a3, h3, h⟩ := bind_some h
    obtain ⟨a4, h4, h⟩ := bind_some h
    obtain ⟨a5, h5, h⟩ := bind_some h
    exact told_ok (n := 120) (t := t_sallyportref3_number a0 a1 a2 a3 a4 a5) (sh := [.s (.b)]) E_sallyportref3_Parts_ok hmix Tryz.func55 (xs0 := [.g [.x false (.int .i64 a0), .x false (.int .i64 a1), .x false (.int .i64 a2), .x false (.int .i64 a3), .x false (.int .i64 a4), .x false (.int .i64 a5)]]) (by simp only [List.map_cons, List.map_nil, Dv.val, flat, (cI_ok h0).1, (cI_ok h1).1, (cI_ok h2).1, (cI_ok h3).1, (cI_ok h4).1, (cI_ok h5).1]) rfl (is_sallyportref3_number a0 a1 a2 a3 a4 a5) (fun xs => by kernel_rfl) h hn
  · cases h)
noncomputable def t_sallyportref3_fixed (a0 : Int) : Tr := evF Tryz.prog E_sallyportref3_number 120 Tryz.f36 [.s (.x false (.int .i64 a0))]
theorem is_sallyportref3_fixed (a0 : Int) : (t_sallyportref3_fixed a0).is [.s (.i .u32)] = true := by kernel_rfl
noncomputable def s_sallyportref3_fixed (args : List Dv) : Option (Bool × AV) :=
  match args with
  | [.s c0] => (cI .i64 c0).bind fun a0 => told (t_sallyportref3_fixed a0) [.s (.i .u32)]
  | _ => none
noncomputable def E_sallyportref3_fixed : Env := E_sallyportref3_number.add 36 s_sallyportref3_fixed
theorem E_sallyportref3_fixed_ok : EnvOk Tryz.prog E_sallyportref3_fixed := E_sallyportref3_number_ok.add _ _ (by
  intro args n av h hn
  unfold s_sallyportref3_fixed at h
  split at h
  · rename_i c0
    obtain ⟨a0, h0, h⟩ := bind_some h
    exact told_ok (n := 120) (t := t_sallyportref3_fixed a0) (sh := [.s (.i .u32)]) E_sallyportref3_number_ok hmix Tryz.func36 (xs0 := [.s (.x false (.int .i64 a0))]) (by simp only [List.map_cons, List.map_nil, Dv.val, flat, (cI_ok h0).2]) rfl (is_sallyportref3_fixed a0) (fun xs => by kernel_rfl) h hn
  · cases h)
noncomputable def t_sallyportref3_Code (a0 : Int) : Tr := evF Tryz.prog E_sallyportref3_fixed 120 Tryz.f37 [.s (.x false (.int .i64 a0))]
theorem is_sallyportref3_Code (a0 : Int) : (t_sallyportref3_Code a0).is [.s (.i .u32), .s (.i .u32), .s (.i .u32)] = true := by kernel_rfl
noncomputable def s_sallyportref3_Code (args : List Dv) : Option (Bool × AV) :=
  match args with
  | [.s c0] => (cI .i64 c0).bind fun a0 => told (t_sallyportref3_Code a0) [.s (.i .u32), .s (.i .u32), .s (.i .u32)]
  | _ => none
noncomputable def E_sallyportref3_Code : Env := E_sallyportref3_fixed.add 37 s_sallyportref3_Code
theorem E_sallyportref3_Code_ok : EnvOk Tryz.prog E_sallyportref3_Code := E_sallyportref3_fixed_ok.add _ _ (by
  intro args n av h hn
  unfold s_sallyportref3_Code at h
  split at h
  · rename_i c0
    obtain ⟨a0, h0, h⟩ := bind_some h
    exact told_ok (n := 120) (t := t_sallyportref3_Code a0) (sh := [.s (.i .u32), .s (.i .u32), .s (.i .u32)]) E_sallyportref3_fixed_ok hmix Tryz.func37 (xs0 := [.s (.x false (.int .i64 a0))]) (by simp only [List.map_cons, List.map_nil, Dv.val, flat, (cI_ok h0).2]) rfl (is_sallyportref3_Code a0) (fun xs => by kernel_rfl) h hn
  · cases h)
noncomputable def t_sallyportref3_Is (a0 : Int) (a1 : Int) (a2 : Int) (a3 : Int) (a4 : Int) (a5 : Int) : Tr := evF Tryz.prog E_sallyportref3_Code 120 Tryz.f35 [.g [.x false (.int .i64 a0), .x false (.int .i64 a1), .x false (.int .i64 a2), .x false (.int .i64 a3), .x false (.int .i64 a4), .x false (.int .i64 a5)]]
theorem is_sallyportref3_Is (a0 : Int) (a1 : Int) (a2 : Int) (a3 : Int) (a4 : Int) (a5 : Int) : (t_sallyportref3_Is a0 a1 a2 a3 a4 a5).is [.s (.b)] = true := by kernel_rfl
noncomputable def s_sallyportref3_Is (args : List Dv) : Option (Bool × AV) :=
  match args with
  | [.g [c0, c1, c2, c3, c4, c5]] => (cI .i64 c0).bind fun a0 => (cI .i64 c1).bind fun a1 => (cI .i64 c2).bind fun a2 => (cI .i64 c3).bind fun a3 => (cI .i64 c4).bind fun a4 => (cI .i64 c5).bind fun a5 => told (t_sallyportref3_Is a0 a1 a2 a3 a4 a5) [.s (.b)]
  | _ => none
noncomputable def E_sallyportref3_Is : Env := E_sallyportref3_Code.add 35 s_sallyportref3_Is
theorem E_sallyportref3_Is_ok : EnvOk Tryz.prog E_sallyportref3_Is := E_sallyportref3_Code_ok.add _ _ (by
  intro args n av h hn
  unfold s_sallyportref3_Is at h
  split at h
  · rename_i c0 c1 c2 c3 c4 c5
    obtain ⟨a0, h0, h⟩ := bind_some h
    obtain ⟨a1, h1, h⟩ := bind_some h
    obtain ⟨a2, h2, h⟩ := bind_some h
    obtain ⟨a3, h3, h⟩ := bind_some h
    obtain ⟨a4, h4, h⟩ := bind_some h
    obtain ⟨a5, h5, h⟩ := bind_some h
    exact told_ok (n := 120) (t := t_sallyportref3_Is a0 a1 a2 a3 a4 a5) (sh := [.s (.b)]) E_sallyportref3_Code_ok hmix Tryz.func35 (xs0 := [.g [.x false (.int .i64 a0), .x false (.int .i64 a1), .x false (.int .i64 a2), .x false (.int .i64 a3), .x false (.int .i64 a4), .x false (.int .i64 a5)]]) (by simp only [List.map_cons, List.map_nil, Dv.val, flat, (cI_ok h0).1, (cI_ok h1).1, (cI_ok h2).1, (cI_ok h3).1, (cI_ok h4).1, (cI_ok h5).1]) rfl (is_sallyportref3_Is a0 a1 a2 a3 a4 a5) (fun xs => by kernel_rfl) h hn
  · cases h)
noncomputable def t_sallyportref3_Encode (a0 : Int) (a1 : Int) (a2 : Int) (a3 : Int) (a4 : Int) (a5 : Int) : Tr := evF Tryz.prog E_sallyportref3_Is 120 Tryz.f22 [.g [.x false (.int .i64 a0), .x false (.int .i64 a1), .x false (.int .i64 a2), .x false (.int .i64 a3), .x false (.int .i64 a4), .x false (.int .i64 a5)]]
theorem is_sallyportref3_Encode (a0 : Int) (a1 : Int) (a2 : Int) (a3 : Int) (a4 : Int) (a5 : Int) : (t_sallyportref3_Encode a0 a1 a2 a3 a4 a5).is [.s (.i .u32), .s (.b)] = true := by kernel_rfl
noncomputable def s_sallyportref3_Encode (args : List Dv) : Option (Bool × AV) :=
  match args with
  | [.g [c0, c1, c2, c3, c4, c5]] => (cI .i64 c0).bind fun a0 => (cI .i64 c1).bind fun a1 => (cI .i64 c2).bind fun a2 => (cI .i64 c3).bind fun a3 => (cI .i64 c4).bind fun a4 => (cI .i64 c5).bind fun a5 => told (t_sallyportref3_Encode a0 a1 a2 a3 a4 a5) [.s (.i .u32), .s (.b)]
  | _ => none
noncomputable def E_sallyportref3_Encode : Env := E_sallyportref3_Is.add 22 s_sallyportref3_Encode
theorem E_sallyportref3_Encode_ok : EnvOk Tryz.prog E_sallyportref3_Encode := E_sallyportref3_Is_ok.add _ _ (by
  intro args n av h hn
  unfold s_sallyportref3_Encode at h
  split at h
  · rename_i c0 c1 c2 c3 c4 c5
    obtain ⟨a0, h0, h⟩ := bind_some h
    obtain ⟨a1, h1, h⟩ := bind_some h
    obtain ⟨a2, h2, h⟩ := bind_some h
    obtain ⟨a3, h3, h⟩ := bind_some h
    obtain ⟨a4, h4, h⟩ := bind_some h
    obtain ⟨a5, h5, h⟩ := bind_some h
    exact told_ok (n := 120) (t := t_sallyportref3_Encode a0 a1 a2 a3 a4 a5) (sh := [.s (.i .u32), .s (.b)]) E_sallyportref3_Is_ok hmix Tryz.func22 (xs0 := [.g [.x false (.int .i64 a0), .x false (.int .i64 a1), .x false (.int .i64 a2), .x false (.int .i64 a3), .x false (.int .i64 a4), .x false (.int .i64 a5)]]) (by simp only [List.map_cons, List.map_nil, Dv.val, flat, (cI_ok h0).1, (cI_ok h1).1, (cI_ok h2).1, (cI_ok h3).1, (cI_ok h4).1, (cI_ok h5).1]) rfl (is_sallyportref3_Encode a0 a1 a2 a3 a4 a5) (fun xs => by kernel_rfl) h hn
  · cases h)
noncomputable def FnZbE : Env := E_sallyportref3_Encode
theorem FnZbE_ok : EnvOk Tryz.prog FnZbE := E_sallyportref3_Encode_ok
end Go.Proofs.YtfehilinnalflaaGreat
namespace Go.Proofs.YtfehilinnalflaaGreat
open Go.RowKit Go.BigFrame
set_option linter.unusedSimpArgs false
set_option linter.unusedVariables false
set_option maxRecDepth 100000
noncomputable def encT (x : InV) : Tr := t_sallyportref3_Encode x.op x.rd x.rs1 x.rs2 x.imm x.csr
noncomputable def encV (x : InV) : Int := (encT x).sel 0 fun vs => (pickC vs 0 0).I
noncomputable def encK (x : InV) : Bool := (encT x).sel false fun vs => (pickC vs 1 0).B
theorem enc_gives (x : InV) (h : (encT x).needB = true) : Gives Tryz.prog 22 #[.agg (inL x).toArray] (.tuple #[.int .u32 (encV x), .bool (encK x)]) := by
  obtain ⟨_, v, hv, hg⟩ := FnZbE_ok.spec 22 [.g (inC x)] (encT x).needB (.t [.s (.x false (.int .u32 (encV x))), .s (.x false (.bool (encK x)))]) (by kernel_rfl) h
  have hv' : v = .tuple #[.int .u32 (encV x), .bool (encK x)] := hv []
  rw [hv'] at hg
  exact hg
end Go.Proofs.YtfehilinnalflaaGreat
namespace Go.Proofs.YtfehilinnalflaaGreat
open Go.RowKit Go.BigFrame
set_option linter.unusedSimpArgs false
set_option linter.unusedVariables false
set_option maxRecDepth 100000
theorem z37 : Tryz.zeroCells37 = stA St0 := by kernel_rfl
theorem flat6 : ∀ (l : List InV) (k : Nat) (x : InV), l[k]? = some x → ∀ (j : Nat) (v : Value), (inL x)[j]? = some v → (l.flatMap inL)[k * 6 + j]? = some v
  | [], k, x, h, _, _, _ => by cases h
  | y :: l, k, x, h, j, v, hv => by
    have hl : ∀ z : InV, (inL z).length = 6 := fun z => rfl
    have hj : j < 6 := by have := (List.getElem?_eq_some_iff.1 hv).1; rw [hl] at this; exact this
    cases k with
    | zero =>
      cases h
      rw [List.flatMap_cons, List.getElem?_append_left (by rw [hl]; omega), Nat.zero_mul, Nat.zero_add]; exact hv
    | succ k =>
      rw [List.flatMap_cons, List.getElem?_append_right (by rw [hl]; omega), hl, show (k + 1) * 6 + j - 6 = k * 6 + j by omega]
      exact flat6 l k x h j v hv
theorem laid_code (is : List InV) (hlen : is.length ≤ 1000) (enc : Nat → Int) (hE : ∀ j x, is[j]? = some x → (encT x).needB = true ∧ encV x = enc j) (W : World) (k : Nat) (T : TypeId) (hk : W.heap[k]? = some (.cells (is.flatMap inL).toArray T (0, 0))) (n : Nat) (hn : n = is.length) :
    Calls Tryz.prog 9 #[.slice none 0 0, .slice (some ⟨k, 0, none⟩) n n, .agg Tryz.zeroCells37] W fun e w' => ∃ p g q h, e = .returned (.tuple #[.pointer (some ⟨p, 0, none⟩), .pointer (some ⟨q, 0, none⟩)]) ∧ ApartL W p g q h ∧ Lays W w' p g q h (codeF (fun _ => 0) (atC 0#64) enc n) := by
  rw [z37]
  have hlt : ∀ j, j < n → ∃ x, is[j]? = some x := fun j hj => ⟨is[j]'(by omega), List.getElem?_eq_getElem _⟩
  have key := laid_w none (some ⟨k, 0, none⟩) 0 0 n n St0 (fun j => is.getD j ⟨0, 0, 0, 0, 0, 0⟩) enc (fun j => encK (is.getD j ⟨0, 0, 0, 0, 0, 0⟩)) W (fun h => by omega)
    (fun _ => ⟨k, 0, rfl, blk_lt hk, fun j hj i v hv => by
      obtain ⟨x, hx⟩ := hlt j hj
      have hv' : (inL x)[i]? = some v := by
        have e : is.getD j ⟨0, 0, 0, 0, 0, 0⟩ = x := by rw [List.getD_eq_getElem?_getD, hx]; rfl
        rw [← e]; exact hv
      have := flat6 is j x hx i v hv'
      simp [World.cell?, hk, this]⟩) (by omega) (by omega)
    (fun j hj => by
      obtain ⟨x, hx⟩ := hlt j hj
      have e : is.getD j ⟨0, 0, 0, 0, 0, 0⟩ = x := by rw [List.getD_eq_getElem?_getD, hx]; rfl
      obtain ⟨h1, h2⟩ := hE j x hx
      show Gives Tryz.prog _ #[.agg (inL (is.getD j ⟨0, 0, 0, 0, 0, 0⟩)).toArray] (.tuple #[.int .u32 (enc j), .bool (encK (is.getD j ⟨0, 0, 0, 0, 0, 0⟩))])
      rw [e, ← h2]
      exact enc_gives x h1)
  refine key.mono ?_
  rintro e w' ⟨p, g, q, h, f0, h1, h2, h3, h4⟩
  rw [h4 rfl] at h3
  exact ⟨p, g, q, h, h1, h2, h3⟩
noncomputable def tl0 : Nat → EntV := unTlb (selG (t_Flush0 fun _ => Ent0) 1 0 tlbK)
theorem set_m (Sb : BusV) (b p t : Nat) (s : St) : (setT s ⟨Sb, fun _ => Ent0, b, p, t⟩ St0 (none, 0, 0) none 0#64 false 0).theM ⟨Sb, fun _ => Ent0, b, p, t⟩ = ⟨Sb, tl0, b, p, t⟩ := by kernel_rfl
theorem bus_b {p g : Nat} {f : Nat → UInt8} (w : World) (hM : IsMem w p g 92 f) : Calls Tryz.prog 11 #[.pointer (some ⟨p, 0, none⟩)] w fun e w' => ∃ b, e = .returned (.pointer (some ⟨b, 0, none⟩)) ∧ w.heap.size ≤ b ∧ (∃ ks vs, IsBus w' 0 b p g ks vs (busV0 f)) ∧ Below w.heap.size w w' :=
  bnew_mem (B := 0) w hM (Nat.zero_le _) (Nat.zero_le _) (Nat.zero_le _)
theorem pipe_b {w : World} {b p g B : Nat} {ks : Nat → Option Nat} {vs : Nat → Value} {f : Nat → UInt8} (hB : IsBus w 0 b p g ks vs (busV0 f)) (s : St) (hb : B ≤ b) (hp : B ≤ p) (hg : B ≤ g) (hw : B ≤ w.heap.size) :
    Calls Tryz.prog 10 #[.agg (stA s), .pointer (some ⟨b, 0, none⟩)] w fun e w' => ∃ (P : Nat) (G : Nat → Prop) (t : Nat), e = .returned (.pointer (some ⟨P, 0, none⟩)) ∧ Pip w' G P ⟨cleanS s, [], none, (cleanS s).pc, false⟩ ⟨busV0 f, tl0, b, p, t⟩ ∧ (∀ c, G c → B ≤ c) ∧ Fr (fun c => B ≤ c) w w' := by
  have hfb : ∀ c, FB b p g ks c → B ≤ c := by
    rintro c (rfl | rfl | rfl | ⟨i, hi, e⟩)
    · exact hb
    · exact hp
    · exact hg
    · rw [hB.nl i hi rfl] at e; cases e
  refine (new_b hB s).mono ?_
  rintro e w' ⟨P, G, rfl, h1, h2, h3⟩
  rw [set_m] at h1
  exact ⟨P, G, _, rfl, h1, fun c hc => (h2 c hc).elim (hfb c) (fun h => Nat.le_trans hw h), h3.mono hfb⟩
theorem pinv0 (p : Plan) (s : St) (H : HS) (h1 : p.st 0 = s) (h2 : p.hs 0 0 = H) (h3 : p.pc 0 = s.pc) : PInv p 0 0 ⟨s, [], none, s.pc, false⟩ H :=
  ⟨⟨Nat.le_refl _, by omega, fun j h1 h2 => by omega⟩, h1.symm, h2.symm, rfl, fun _ => h3.symm, rfl, ⟨by simp, fun y hy => by cases hy⟩, fun y hy => by cases hy⟩
end Go.Proofs.YtfehilinnalflaaGreat
namespace Go.Proofs.YtfehilinnalflaaGreat
open Go.RowKit Go.BigFrame
set_option linter.unusedSimpArgs false
set_option linter.unusedVariables false
set_option maxRecDepth 100000
def nest {α : Type} (tr al wr : Bool) (a b : α) : α := bif !tr then (bif tr then a else bif al then a else bif wr then a else b) else (bif tr then a else bif al then a else bif wr then a else b)
def nestM {α : Type} (tr al wr : Bool) (a b : α) : α := bif !tr then (bif tr then a else bif al then a else bif wr then a else a) else (bif tr then b else bif al then b else bif wr then b else b)
theorem nest_same {α : Type} (tr al wr : Bool) (a : α) : nest tr al wr a a = a := by cases tr <;> cases al <;> cases wr <;> rfl
theorem nest_fl (tr al wr : Bool) : nest tr al wr true false = (tr || (al || wr)) := by cases tr <;> cases al <;> cases wr <;> rfl
theorem nestM_eq {α : Type} (tr al wr : Bool) (a b : α) : nestM tr al wr a b = bif tr then b else a := by cases tr <;> cases al <;> cases wr <;> rfl
theorem bif3 {α β : Type} (a b : Bool) (f : α → β) (e1 e2 e3 : α) : (bif a then f e1 else bif b then f e2 else f e3) = f (bif a then e1 else bif b then e2 else e3) := by cases a <;> cases b <;> rfl
noncomputable def wrV (pc : BitVec 64) (w : Int) (to : BitVec 64) : Bool := (t_guess_Wrong pc w to).sel false fun vs => (pickC vs 0 0).B
noncomputable def eT (E : Tr) : St := E.sel St0 fun vs => (pickC vs 0 0).T
noncomputable def eTr (E : Tr) : Bool := E.sel false fun vs => (pickC vs 1 4).B
section
variable (s : St) (S : HS) (at_ : BitVec 64) (stops : Bool) (x : SlV) (line : Bool)
noncomputable def ivQ : BitVec 64 × Int × Bool × Bool := intV s (decide (S.bus.al.toNat ≤ S.bus.t.toNat)) line
noncomputable def E1 : Tr := t_exec_Interrupt s (ivQ s S line).1 (ivQ s S line).2.1 (ivQ s S line).2.2.1
noncomputable def E2 : Tr := t_exec_Fault s x.f1 x.f2 x.f3 x.f4 0
noncomputable def E3 : Tr := t_exec_Do S S.b s x.w
noncomputable def doE : Tr := bif (ivQ s S line).2.2.2 then E1 s S line else bif !x.ok then E2 s x else E3 s S x
noncomputable def doS : HS := bif (ivQ s S line).2.2.2 then S else bif !x.ok then S else (E3 s S x).theM S
noncomputable def fenM (SE : HS) : HS := (t_fence_Do SE SE.t s x.i.op x.i.rd x.i.rs1 x.i.rs2 x.i.imm x.i.csr).theM SE
noncomputable def Nst {α : Type} (f : Tr → α) : α :=
  bif (ivQ s S line).2.2.2 then nest (eTr (E1 s S line)) (alV x.i) (wrV x.pc x.w (eT (E1 s S line)).pc) (f (E1 s S line)) (f (E1 s S line)) else
    bif !x.ok then nest (eTr (E2 s x)) (alV x.i) (wrV x.pc x.w (eT (E2 s x)).pc) (f (E2 s x)) (f (E2 s x)) else nest (eTr (E3 s S x)) (alV x.i) (wrV x.pc x.w (eT (E3 s S x)).pc) (f (E3 s S x)) (f (E3 s S x))
theorem Nst_eq {α : Type} (f : Tr → α) : Nst s S x line f = f (doE s S x line) := by
  unfold Nst doE
  rw [nest_same, nest_same, nest_same]
  exact bif3 _ _ f _ _ _
noncomputable def rF (E : Tr) : RetV := ⟨E.sel 0#64 fun vs => (pickC vs 1 0).U, E.sel 0 fun vs => (pickC vs 1 1).I, E.sel 0 fun vs => (pickC vs 1 2).I, E.sel 0#64 fun vs => (pickC vs 1 3).U, E.sel false fun vs => (pickC vs 1 4).B, E.sel 0#64 fun vs => (pickC vs 1 5).U, E.sel 0#64 fun vs => (pickC vs 1 6).U, E.sel 0#64 fun vs => (pickC vs 1 7).U, E.sel false fun vs => (pickC vs 1 8).B, E.sel 0 fun vs => (pickC vs 1 9).I, E.sel false fun vs => (pickC vs 1 10).B, E.sel false fun vs => (pickC vs 1 11).B⟩
set_option maxHeartbeats 4000000 in
theorem does_st' : stT (dT s S at_ stops x line) = Nst s S x line eT := by kernel_rfl
set_option maxHeartbeats 4000000 in
theorem does_ret' : retV (dT s S at_ stops x line) = ⟨Nst s S x line fun E => (rF E).pc, Nst s S x line fun E => (rF E).w, Nst s S x line fun E => (rF E).rd, Nst s S x line fun E => (rF E).value, Nst s S x line fun E => (rF E).trap, Nst s S x line fun E => (rF E).f1, Nst s S x line fun E => (rF E).f2, Nst s S x line fun E => (rF E).f3, Nst s S x line fun E => (rF E).f4, Nst s S x line fun E => (rF E).lev, Nst s S x line fun E => (rF E).v, Nst s S x line fun E => (rF E).line⟩ := by kernel_rfl
set_option maxHeartbeats 4000000 in
theorem does_fl' : flT (dT s S at_ stops x line) = bif (ivQ s S line).2.2.2 then nest (eTr (E1 s S line)) (alV x.i) (wrV x.pc x.w (eT (E1 s S line)).pc) true false else
    bif !x.ok then nest (eTr (E2 s x)) (alV x.i) (wrV x.pc x.w (eT (E2 s x)).pc) true false else nest (eTr (E3 s S x)) (alV x.i) (wrV x.pc x.w (eT (E3 s S x)).pc) true false := by kernel_rfl
theorem does_st : stT (dT s S at_ stops x line) = eT (doE s S x line) := by rw [does_st', Nst_eq]
theorem does_ret : retV (dT s S at_ stops x line) = rF (doE s S x line) := by
  rw [does_ret']
  simp only [Nst_eq]
theorem does_fl : flT (dT s S at_ stops x line) = (eTr (doE s S x line) || (alV x.i || wrV x.pc x.w (eT (doE s S x line)).pc)) := by
  rw [does_fl', nest_fl, nest_fl, nest_fl]
  exact bif3 _ _ (fun E => eTr E || (alV x.i || wrV x.pc x.w (eT E).pc)) _ _ _
noncomputable def NstM : HS :=
  bif (ivQ s S line).2.2.2 then nestM (eTr (E1 s S line)) (alV x.i) (wrV x.pc x.w (eT (E1 s S line)).pc) (fenM s x S) S else
    bif !x.ok then nestM (eTr (E2 s x)) (alV x.i) (wrV x.pc x.w (eT (E2 s x)).pc) (fenM s x S) S else nestM (eTr (E3 s S x)) (alV x.i) (wrV x.pc x.w (eT (E3 s S x)).pc) (fenM s x ((E3 s S x).theM S)) ((E3 s S x).theM S)
set_option maxHeartbeats 4000000 in
theorem does_m' : (dT s S at_ stops x line).theM S = ⟨(NstM s S x line).bus, (NstM s S x line).tl, S.b, S.p, S.t⟩ := by kernel_rfl
theorem bif3b {α β γ : Type} (a b : Bool) (f : α → β → γ) (e1 e2 e3 : α) (d1 d3 : β) : (bif a then f e1 d1 else bif b then f e2 d1 else f e3 d3) = f (bif a then e1 else bif b then e2 else e3) (bif a then d1 else bif b then d1 else d3) := by cases a <;> cases b <;> rfl
theorem NstM_eq : NstM s S x line = bif eTr (doE s S x line) then doS s S x line else fenM s x (doS s S x line) := by
  unfold NstM
  rw [nestM_eq, nestM_eq, nestM_eq]
  exact bif3b _ _ (fun E SE => bif eTr E then SE else fenM s x SE) _ _ _ _ _
theorem does_m : (dT s S at_ stops x line).theM S = ⟨(bif eTr (doE s S x line) then doS s S x line else fenM s x (doS s S x line)).bus, (bif eTr (doE s S x line) then doS s S x line else fenM s x (doS s S x line)).tl, S.b, S.p, S.t⟩ := by
  rw [does_m', NstM_eq]
noncomputable def tailN (E : Tr) (SE : HS) : Bool :=
  bif !eTr E then ((t_fence_Do SE SE.t s x.i.op x.i.rd x.i.rs1 x.i.rs2 x.i.imm x.i.csr).needB && (bif eTr E then true else ((alT x.i).needB && (bif alV x.i then true else ((t_guess_Wrong x.pc x.w (eT E).pc).needB && (bif wrV x.pc x.w (eT E).pc then true else true))))))
  else (bif eTr E then true else ((alT x.i).needB && (bif alV x.i then true else ((t_guess_Wrong x.pc x.w (eT E).pc).needB && (bif wrV x.pc x.w (eT E).pc then true else true)))))
set_option maxHeartbeats 4000000 in
theorem does_n' : (dT s S at_ stops x line).needB = (decide (S.b = S.b) && bif (ivQ s S line).2.2.2 then ((E1 s S line).needB && tailN s x (E1 s S line) S) else bif !x.ok then ((E2 s x).needB && tailN s x (E2 s x) S) else ((E3 s S x).needB && tailN s x (E3 s S x) ((E3 s S x).theM S))) := by kernel_rfl
theorem does_n : (dT s S at_ stops x line).needB = ((doE s S x line).needB && tailN s x (doE s S x line) (doS s S x line)) := by
  rw [does_n', decide_eq_true (rfl : S.b = S.b), Bool.true_and]
  exact bif3b _ _ (fun E SE => E.needB && tailN s x E SE) _ _ _ _ _
theorem tailN_true {E : Tr} {SE : HS} (h1 : (t_fence_Do SE SE.t s x.i.op x.i.rd x.i.rs1 x.i.rs2 x.i.imm x.i.csr).needB = true) (h2 : (alT x.i).needB = true) (h3 : (t_guess_Wrong x.pc x.w (eT E).pc).needB = true) : tailN s x E SE = true := by
  unfold tailN
  rw [h1, h2, h3]
  cases eTr E <;> cases alV x.i <;> cases wrV x.pc x.w (eT E).pc <;> rfl
theorem tailN_trap {E : Tr} {SE : HS} (h : eTr E = true) : tailN s x E SE = true := by
  unfold tailN
  rw [h]; rfl
end
end Go.Proofs.YtfehilinnalflaaGreat
