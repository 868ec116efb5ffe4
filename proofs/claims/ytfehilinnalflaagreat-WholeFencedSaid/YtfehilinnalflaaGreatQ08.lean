/- Part 8 of the texts behind the law: contracts and lemmas, each proved; no condition but what each names. -/
import Derived.Laws.StructEq
import Derived.ChangeKeysEq
import Derived.Great.BuildSlice
import Derived.LoopN
import Derived.Scope
import Derived.Test.YtfehilinnalflaaGreatQ07
namespace Go.Proofs.YtfehilinnalflaaGreat
open Go.RowKit Go.BigFrame
set_option linter.unusedSimpArgs false
set_option linter.unusedVariables false
set_option maxRecDepth 100000
theorem fold_set (off : Nat) : ∀ (l : List Value) (n : Nat) (cells : List Value), off + n + l.length ≤ cells.length →
    (l.zipIdx n).foldl (fun (cs : Array Value) (x : Value × Nat) => cs.setIfInBounds (off + x.2) x.1) cells.toArray = (cells.take (off + n) ++ l ++ cells.drop (off + n + l.length)).toArray
  | [], n, cells, _ => by simp
  | v :: l, n, cells, h => by
    have h' : off + n + (l.length + 1) ≤ cells.length := h
    rw [List.zipIdx_cons, List.foldl_cons]
    have e : (cells.toArray.setIfInBounds (off + n) v) = (cells.set (off + n) v).toArray := by simp
    show (l.zipIdx (n + 1)).foldl _ (cells.toArray.setIfInBounds (off + n) v) = _
    rw [e, fold_set off l (n + 1) (cells.set (off + n) v) (by simp; omega)]
    have e1 : (cells.set (off + n) v).take (off + (n + 1)) = cells.take (off + n) ++ [v] := by
      rw [← Nat.add_assoc, List.take_succ_eq_append_getElem (by simp; omega)]; simp [List.take_set_of_le]
    have e2 : (cells.set (off + n) v).drop (off + (n + 1) + l.length) = cells.drop (off + n + (l.length + 1)) := by
      rw [List.drop_set_of_lt (by omega)]; congr 1; omega
    rw [e1, e2]; simp
def fillC (place : Nat → Option (Nat × Nat)) (cs : List Ch) : List (Nat × Dv) → Option (List Ch)
  | [] => some cs
  | (i, d) :: rest =>
    match place i with
    | none => none
    | some (off, size) => if (d.ok && (wid d.chs == size)) = true then (lay cs off d.chs).bind fun r => fillC place r rest else none
theorem fillC_ok (place : Nat → Option (Nat × Nat)) : ∀ (parts : List (Nat × Dv)) {cs r : List Ch}, fillC place cs parts = some r →
    Instr.fill place (flat cs).toArray (parts.map fun x => (x.1, x.2.val)) = some (flat r).toArray
  | [], cs, r, h => by cases h; rfl
  | (i, d) :: rest, cs, r, h => by
    unfold fillC at h
    cases hp : place i with
    | none => rw [hp] at h; cases h
    | some os =>
      obtain ⟨off, size⟩ := os
      rw [hp] at h
      simp only at h
      split at h
      · rename_i hc
        simp only [Bool.and_eq_true, beq_iff_eq] at hc
        cases hl : lay cs off d.chs with
        | none => rw [hl] at h; cases h
        | some r' =>
          rw [hl] at h
          obtain ⟨h1, h2⟩ := lay_ok hl
          have hcells := Dv.cells_ok d hc.1
          have hlen : (flat d.chs).length = size := by rw [flat_len]; exact hc.2
          show Instr.fill place (flat cs).toArray ((i, d.val) :: rest.map fun x => (x.1, x.2.val)) = _
          unfold Instr.fill
          rw [hp]
          simp only
          rw [hcells]
          have hsz : (flat d.chs).toArray.size = size := by simp [hlen]
          have hcs : (flat cs).toArray.size = wid cs := by simp [flat_len]
          rw [if_neg (by rw [hsz, hcs]; simp; have := hc.2; omega)]
          have e : ((flat d.chs).toArray.zipIdx.foldl (fun (cs : Array Value) (x : Value × Nat) => cs.setIfInBounds (off + x.2) x.1) (flat cs).toArray) = (flat r').toArray := by
            rw [← Array.foldl_toList, Array.toList_zipIdx]
            have := fold_set off (flat d.chs) 0 (flat cs) (by rw [flat_len, flat_len]; omega)
            rw [this, h1, flat_len]; simp
          have e' : ((flat d.chs).toArray.zipIdx.foldl (fun (cs : Array Value) (x : Value × Nat) => match x with | (c, j) => cs.setIfInBounds (off + j) c) (flat cs).toArray) = (flat r').toArray := e
          rw [e']
          exact fillC_ok place rest h
      · cases h
def evBuild (P : Program) (zt : TypeId → Option (List Ch)) (t : TypeId) (parts : List (Nat × Dv)) : Option (List Ch) :=
  match zt t, P.underlying t with
  | some cs, some (.array _ e) => match P.info? e with
    | some ie => fillC (fun i => some (i * ie.size, ie.size)) cs parts
    | none => none
  | some cs, some (.struct fields) => match fields.toList.mapM (fun f => (P.info? f.type).map fun i => (f.offset, i.size)) with
    | some places => fillC (fun i => places.toArray[i]?) cs parts
    | none => none
  | _, _ => none
def ZtOk (P : Program) (zt : TypeId → Option (List Ch)) : Prop := ∀ t cs, zt t = some cs → (∃ it z, P.info? t = some it ∧ it.zero = some z ∧ z.cells = (flat cs).toArray) ∧ okChs cs = true
theorem run_evBuild {P : Program} {zt : TypeId → Option (List Ch)} (hz : ZtOk P zt) {t : TypeId} {parts : List (Nat × Dv)} {r : List Ch} (h : evBuild P zt t parts = some r) (w : World) (vs : Array (Nat × Value)) (hv : vs.toList = parts.map fun x => (x.1, x.2.val)) :
    (Instr.build t vs).run P w = .ok (.agg (flat r).toArray) w := by
  refine run_build w t vs _ ?_
  unfold evBuild at h
  unfold Program.built
  rw [hv]
  split at h
  · rename_i cs n e hzt hu
    obtain ⟨⟨it, z, h1, h2, h3⟩, _⟩ := hz t cs hzt
    cases hie : P.info? e with
    | none => rw [hie] at h; cases h
    | some ie =>
      rw [hie] at h
      simp only [h1, hu, h2, hie, h3]
      exact fillC_ok _ parts h
  · rename_i cs fields hzt hu
    obtain ⟨⟨it, z, h1, h2, h3⟩, _⟩ := hz t cs hzt
    cases hp : fields.toList.mapM (fun f => (P.info? f.type).map fun i => (f.offset, i.size)) with
    | none => rw [hp] at h; cases h
    | some places =>
      rw [hp] at h
      simp only [h1, hu, h2, hp, h3]
      exact fillC_ok _ parts h
  · cases h
theorem run_zero {P : Program} {zt : TypeId → Option (List Ch)} (hz : ZtOk P zt) {t : TypeId} {cs : List Ch} (h : zt t = some cs) (w : World) :
    (Instr.alloc t true (.tuple #[])).run P w = .ok (.pointer (some ⟨w.heap.size, 0, none⟩)) (w.alloc (.cells (flat cs).toArray t (0, 0))) := by
  obtain ⟨⟨it, z, h1, h2, h3⟩, _⟩ := hz t cs h
  simp [Instr.alloc, zeroValue, typeInfo, h1, h2, newVar, newRow, h3]
def allU : List Ch → Option (List (BitVec 64))
  | [] => some []
  | .u _ b :: cs => (allU cs).map fun l => b :: l
  | _ :: _ => none
def allI (k : IntKind) : List Ch → Option (List Int)
  | [] => some []
  | .x _ (.int k' n) :: cs => if k' = k then (allI k cs).map fun l => n :: l else none
  | _ :: _ => none
def allB : List Ch → Option (List Bool)
  | [] => some []
  | .x _ (.bool b) :: cs => (allB cs).map fun l => b :: l
  | _ :: _ => none
def selCh (cs : List Ch) (i : Nat) : Option Ch :=
  match cs with
  | .u _ _ :: _ => (allU cs).map fun l => .u false (l.getD i 0#64)
  | .x _ (.int k _) :: _ => (allI k cs).map fun l => .x false (.int k (l.getD i 0))
  | .x _ (.bool _) :: _ => (allB cs).map fun l => .x false (.bool (l.getD i false))
  | _ => none
theorem allU_ok : ∀ {cs : List Ch} {l : List (BitVec 64)}, allU cs = some l → flat cs = l.map U
  | [], l, h => by cases h; rfl
  | .u st b :: cs, l, h => by
    unfold allU at h
    cases hs : allU cs with
    | none => rw [hs] at h; cases h
    | some l' => rw [hs] at h; cases h; show U b :: flat cs = _; rw [allU_ok hs]; rfl
  | .x st v :: cs, l, h => by cases h
  | .S s :: cs, l, h => by cases h
theorem allI_ok (k : IntKind) : ∀ (cs : List Ch) {l : List Int}, allI k cs = some l → flat cs = l.map (Value.int k)
  | [], l, h => by cases h; rfl
  | c :: cs, l, h => by
    unfold allI at h
    split at h
    · rename_i e; cases e
    · rename_i st k' n cs' e
      cases e
      split at h
      · rename_i hk; subst hk
        cases hs : allI k' cs with
        | none => rw [hs] at h; cases h
        | some l' => rw [hs] at h; cases h; show Value.int k' n :: flat cs = _; rw [allI_ok k' cs hs]; rfl
      · cases h
    · cases h
theorem allB_ok : ∀ (cs : List Ch) {l : List Bool}, allB cs = some l → flat cs = l.map Value.bool
  | [], l, h => by cases h; rfl
  | c :: cs, l, h => by
    unfold allB at h
    split at h
    · rename_i e; cases e
    · rename_i st b cs' e
      cases e
      cases hs : allB cs with
      | none => rw [hs] at h; cases h
      | some l' => rw [hs] at h; cases h; show Value.bool b :: flat cs = _; rw [allB_ok cs hs]; rfl
    · cases h
theorem sel_get {α : Type} (f : α → Value) (l : List α) (d : α) (i : Nat) (h : i < l.length) : (l.map f)[i]? = some (f (l.getD i d)) := by
  rw [List.getElem?_map, List.getElem?_eq_getElem h, List.getD_eq_getElem?_getD, List.getElem?_eq_getElem h]; rfl
theorem selCh_ok {cs : List Ch} {i : Nat} {c : Ch} (h : selCh cs i = some c) (hi : i < wid cs) : (flat cs)[i]? = some c.one ∧ c.sc = true := by
  rw [← flat_len] at hi
  unfold selCh at h
  split at h
  · rename_i st b rest
    cases hs : allU (.u st b :: rest) with
    | none => rw [hs] at h; cases h
    | some l =>
      rw [hs] at h; cases h
      have e := allU_ok hs
      rw [e] at hi ⊢
      exact ⟨sel_get U l 0#64 i (by simpa using hi), rfl⟩
  · rename_i st k n rest
    cases hs : allI k (.x st (.int k n) :: rest) with
    | none => rw [hs] at h; cases h
    | some l =>
      rw [hs] at h; cases h
      have e := allI_ok k _ hs
      rw [e] at hi ⊢
      exact ⟨sel_get (Value.int k) l 0 i (by simpa using hi), rfl⟩
  · rename_i st b rest
    cases hs : allB (.x st (.bool b) :: rest) with
    | none => rw [hs] at h; cases h
    | some l =>
      rw [hs] at h; cases h
      have e := allB_ok _ hs
      rw [e] at hi ⊢
      exact ⟨sel_get Value.bool l false i (by simpa using hi), rfl⟩
  · cases h
def rdQ (n i : Nat) : List Ch → Nat → Option Ch
  | .S s :: cs, o => if o = 0 ∧ n = 32 then some (.u false (s.x i)) else if o = 35 ∧ n = 29 then some (.u false (s.c i)) else if o < 65 then none else rdQ n i cs (o - 65)
  | [], _ => none
  | c :: cs, 0 => (takeN (c :: cs) n).bind fun l => selCh l i
  | _ :: cs, o + 1 => rdQ n i cs o
def wrQ (n i : Nat) (b : BitVec 64) : List Ch → Nat → Option (List Ch)
  | .S s :: cs, o => if o = 0 ∧ n = 32 then some (.S { s with x := updC s.x i b } :: cs) else if o = 35 ∧ n = 29 then some (.S { s with c := updC s.c i b } :: cs) else if o < 65 then none else (wrQ n i b cs (o - 65)).map fun r => .S s :: r
  | [], _ => none
  | _ :: _, 0 => none
  | c :: cs, o + 1 => (wrQ n i b cs o).map fun r => c :: r
theorem rdQ_ok (n i : Nat) (hi : i < n) (cs : List Ch) : ∀ {o : Nat} {c : Ch}, rdQ n i cs o = some c → (flat cs)[o + i]? = some c.one ∧ c.sc = true := by
  induction cs with
  | nil => intro o c h; cases h
  | cons d cs ih =>
    intro o c h
    have hd : d.sc = true → ∀ {o : Nat}, rdQ n i (d :: cs) o = some c → (flat (d :: cs))[o + i]? = some c.one ∧ c.sc = true := by
      intro hsc o h
      cases o with
      | zero =>
        have h' : (takeN (d :: cs) n).bind (fun l => selCh l i) = some c := by cases d <;> first | exact h | cases hsc
        cases ht : takeN (d :: cs) n with
        | none => rw [ht] at h'; cases h'
        | some l =>
          rw [ht] at h'
          obtain ⟨h1, h2, h3⟩ := takeN_ok ht
          have := selCh_ok (show selCh l i = some c from h') (by rw [h3]; exact hi)
          rw [h1, List.getElem?_take_of_lt hi] at this
          rw [Nat.zero_add]; exact this
      | succ o =>
        have h' : rdQ n i cs o = some c := by cases d <;> first | exact h | cases hsc
        have := ih h'
        show (d.cells ++ flat cs)[o + 1 + i]? = _ ∧ _
        rw [Ch.sc_cells hsc, show o + 1 + i = (o + i) + 1 by omega]
        exact this
    cases d with
    | S s =>
      unfold rdQ at h
      split at h
      · rename_i hc; cases h
        obtain ⟨rfl, rfl⟩ := hc
        refine ⟨?_, rfl⟩
        show (stL s ++ flat cs)[0 + i]? = _
        rw [Nat.zero_add, List.getElem?_append_left (by rw [stL_len]; omega)]
        exact stL_at s i _ (stA_x s i hi)
      · split at h
        · rename_i hc; cases h
          obtain ⟨rfl, rfl⟩ := hc
          refine ⟨?_, rfl⟩
          show (stL s ++ flat cs)[35 + i]? = _
          rw [List.getElem?_append_left (by rw [stL_len]; omega)]
          exact stL_at s _ _ (stA_c s i hi)
        · split at h
          · cases h
          · rename_i ho
            have := ih h
            show (stL s ++ flat cs)[o + i]? = _ ∧ _
            rw [List.getElem?_append_right (by rw [stL_len]; omega), stL_len, show o + i - 65 = o - 65 + i by omega]
            exact this
    | u st b => exact hd rfl h
    | x st v => exact hd rfl h
theorem wrQ_ok (n i : Nat) (hi : i < n) (b : BitVec 64) (cs : List Ch) : ∀ {o : Nat} {r : List Ch}, wrQ n i b cs o = some r → flat r = (flat cs).set (o + i) (U b) ∧ o + i < wid cs := by
  induction cs with
  | nil => intro o r h; cases h
  | cons d cs ih =>
    intro o r h
    have hd : d.sc = true → ∀ {o : Nat}, wrQ n i b (d :: cs) o = some r → flat r = (flat (d :: cs)).set (o + i) (U b) ∧ o + i < wid (d :: cs) := by
      intro hsc o h
      cases o with
      | zero => cases d <;> first | cases h | cases hsc
      | succ o =>
        have h' : (wrQ n i b cs o).map (fun r => d :: r) = some r := by cases d <;> first | exact h | cases hsc
        cases hw : wrQ n i b cs o with
        | none => rw [hw] at h'; cases h'
        | some r' =>
          rw [hw] at h'; cases h'
          obtain ⟨h1, h2⟩ := ih hw
          refine ⟨?_, by have := Ch.sc_w hsc; simp only [wid]; omega⟩
          show d.cells ++ flat r' = (d.cells ++ flat cs).set (o + 1 + i) (U b)
          rw [Ch.sc_cells hsc, show o + 1 + i = (o + i) + 1 by omega, h1]; rfl
    cases d with
    | S s =>
      unfold wrQ at h
      split at h
      · rename_i hc; cases h
        obtain ⟨rfl, rfl⟩ := hc
        refine ⟨?_, by simp only [wid, Ch.w]; omega⟩
        have := congrArg Array.toList (stA_setX s i b hi)
        show stL _ ++ flat cs = (stL s ++ flat cs).set (0 + i) (U b)
        rw [Nat.zero_add, List.set_append_left _ _ (by rw [stL_len]; omega)]
        congr 1
        simpa [stA] using this.symm
      · split at h
        · rename_i hc; cases h
          obtain ⟨rfl, rfl⟩ := hc
          refine ⟨?_, by simp only [wid, Ch.w]; omega⟩
          have := congrArg Array.toList (stA_setC s i b hi)
          show stL _ ++ flat cs = (stL s ++ flat cs).set (35 + i) (U b)
          rw [List.set_append_left _ _ (by rw [stL_len]; omega)]
          congr 1
          simpa [stA] using this.symm
        · split at h
          · cases h
          · rename_i ho
            cases hw : wrQ n i b cs (o - 65) with
            | none => rw [hw] at h; cases h
            | some r' =>
              rw [hw] at h; cases h
              obtain ⟨h1, h2⟩ := ih hw
              refine ⟨?_, by simp only [wid, Ch.w]; omega⟩
              show stL s ++ flat r' = (stL s ++ flat cs).set (o + i) (U b)
              rw [List.set_append_right _ _ (by rw [stL_len]; omega), stL_len, show o + i - 65 = o - 65 + i by omega, h1]
    | u st b => exact hd rfl h
    | x st v => exact hd rfl h
end Go.Proofs.YtfehilinnalflaaGreat
namespace Go.Proofs.YtfehilinnalflaaGreat
open Go.RowKit Go.BigFrame
set_option linter.unusedSimpArgs false
set_option linter.unusedVariables false
set_option maxRecDepth 100000
def mkD : List Ch → Dv
  | [.S s] => .s (.S s)
  | cs => .g cs
theorem mkD_val (cs : List Ch) : (mkD cs).val = .agg (flat cs).toArray := by
  unfold mkD
  split
  · show Value.agg (stA _) = _; simp [flat, Ch.cells, stA]
  · rfl
def idx : Ch → Option (Bool × Int)
  | .u st b => some (st, (b.toNat : Int))
  | .x st (.int _ i) => some (st, i)
  | _ => none
def dOf (A : List AV) (x : Operand) : Option Dv := match evO A x with | some (.d v) => some v | _ => none
theorem dOf_ok {σ : List Nat} {A : List AV} {a : Act} {x : Operand} {v : Dv} (F : FRel σ A a.tmps) (h : dOf A x = some v) : a.eval x = v.val := by
  unfold dOf at h
  split at h
  · rename_i v' he; cases h; exact evO_ok F he
  · cases h
def elemT (P : Program) (t : TypeId) : Option (Nat × TypeId × Nat) :=
  match P.underlying t with
  | some (.array n e) => match P.info? e with
    | some i => some (n, e, i.size)
    | none => none
  | _ => none
def fieldT (P : Program) (t : TypeId) (f : Nat) : Option (Nat × TypeId) :=
  match P.underlying t with
  | some (.struct fs) => match fs[f]? with
    | some fl => some (fl.offset, fl.type)
    | none => none
  | _ => none
def evPart (P : Program) (e : TypeId) (cs : List Ch) (o : Nat) : Option Dv :=
  match rowT P e with
  | some n => (sub cs o n).map mkD
  | none => if oneT P e = true then (rd cs o).map .s else none
theorem run_evPart {P : Program} {e : TypeId} {cs : List Ch} {o : Nat} {d : Dv} (h : evPart P e cs o = some d) (w : World) : (part e (flat cs).toArray o).run P w = .ok d.val w := by
  unfold evPart at h
  cases hr : rowT P e with
  | some n =>
    rw [hr] at h
    obtain ⟨dd, hu, hd, hs⟩ := rowT_ok hr
    cases hq : P.info? e with
    | none => rw [hq] at hs; cases hs
    | some i =>
      rw [hq] at hs
      have hn : i.size = n := by simpa using hs
      cases hsub : sub cs o n with
      | none => simp only [hsub] at h; cases h
      | some r =>
        simp only [hsub] at h
        cases h
        obtain ⟨h1, h2, h3⟩ := sub_ok hsub
        have hagg : (isAgg e).run P w = .ok true w := by
          unfold isAgg; rw [Sem.run_bind, run_underlying hu w]; cases dd <;> simp_all
        rw [mkD_val]
        simp [part, Sem.run_bind, hagg, sizeOf, typeInfo, hq, hn]
        exact h1.symm
  | none =>
    rw [hr] at h
    simp only at h
    split at h
    · rename_i ho
      cases hc : rd cs o with
      | none => rw [hc] at h; cases h
      | some c =>
        rw [hc] at h; cases h
        obtain ⟨dd, i, hu, hd, hi, hs⟩ := oneT_ok ho
        have hagg : (isAgg e).run P w = .ok false w := by
          unfold isAgg; rw [Sem.run_bind, run_underlying hu w]; cases dd <;> simp_all [isRowD]
        have := (rd_ok cs hc).1
        have ha : (flat cs).toArray[o]? = some c.one := by simpa using this
        show _ = Result.ok c.one w
        simp [part, Sem.run_bind, hagg, this]
    · cases h
def evIndexD (P : Program) (t : TypeId) (v : Dv) (st : Bool) (i : Int) : Option (Bool × Dv) :=
  match elemT P t with
  | some (n, e, es) =>
    if st = true then (if (decide (0 ≤ i) && decide (i < n)) = true then (evPart P e v.chs (i.toNat * es)).map fun d => (true, d) else none)
    else if es = 1 ∧ oneT P e = true ∧ wid v.chs = n then (selCh v.chs i.toNat).map fun c => (decide (0 ≤ i) && decide (i < n), .s c) else none
  | none => none
theorem run_evIndexD {P : Program} {t : TypeId} {v d : Dv} {st n : Bool} {i : Int} {k : IntKind} (h : evIndexD P t v st i = some (n, d)) (hn : n = true) (hv : ∃ cs, v.val = .agg (flat cs).toArray ∧ flat cs = flat v.chs) (w : World) :
    (Instr.index t v.val (.int k i)).run P w = .ok d.val w := by
  obtain ⟨cs, hv, hcs⟩ := hv
  unfold evIndexD at h
  cases he : elemT P t with
  | none => rw [he] at h; cases h
  | some x =>
    obtain ⟨m, e, es⟩ := x
    rw [he] at h
    simp only at h
    unfold elemT at he
    split at he
    · rename_i m' e' hu
      split at he
      · rename_i ii hi
        cases he
        have key : ∀ d' : Dv, 0 ≤ i → i < m → (part e (flat v.chs).toArray (i.toNat * ii.size)).run P w = .ok d'.val w → (Instr.index t v.val (.int k i)).run P w = .ok d'.val w := by
          intro d' h0 h1 hp
          rw [hv, hcs]
          simp [Instr.index, Sem.run_bind, asIntOf, run_underlying hu, sizeOf, typeInfo, hi, h0, h1, hp]
        split at h
        · split at h
          · rename_i hb
            simp only [Bool.and_eq_true, decide_eq_true_eq] at hb
            cases hp : evPart P e v.chs (i.toNat * ii.size) with
            | none => rw [hp] at h; cases h
            | some d' => rw [hp] at h; cases h; exact key _ hb.1 hb.2 (run_evPart hp w)
          · cases h
        · split at h
          · rename_i hc
            obtain ⟨hes, ho, hw⟩ := hc
            cases hs : selCh v.chs i.toNat with
            | none => rw [hs] at h; cases h
            | some c =>
              rw [hs] at h
              have hcd : (decide (0 ≤ i) && decide (i < m)) = n ∧ Dv.s c = d := by injection h with h; injection h with h1 h2; exact ⟨h1, h2⟩
              obtain ⟨h1, rfl⟩ := hcd
              rw [hn] at h1
              simp only [Bool.and_eq_true, decide_eq_true_eq] at h1
              refine key (.s c) h1.1 h1.2 ?_
              obtain ⟨dd, i2, hu2, hd2, hi2, hs2⟩ := oneT_ok ho
              have hagg : (isAgg e).run P w = .ok false w := by
                unfold isAgg; rw [Sem.run_bind, run_underlying hu2 w]; cases dd <;> simp_all [isRowD]
              have hg := (selCh_ok hs (by rw [hw]; omega)).1
              show _ = Result.ok c.one w
              simp [part, Sem.run_bind, hagg, hes, hg]
          · cases h
      · cases he
    · cases he
end Go.Proofs.YtfehilinnalflaaGreat
namespace Go.Proofs.YtfehilinnalflaaGreat
open Go.RowKit Go.BigFrame
set_option linter.unusedSimpArgs false
set_option linter.unusedVariables false
set_option maxRecDepth 100000
def evEqF (P : Program) (rec : TypeId → Dv → Dv → Option Bool) (xs ys : List Ch) : List Field → Option Bool
  | [] => some true
  | f :: fs => if f.name ≠ "_" then match evPart P f.type xs f.offset, evPart P f.type ys f.offset with
      | some a, some b => match rec f.type a b, evEqF P rec xs ys fs with
        | some r, some q => some (r && q)
        | _, _ => none
      | _, _ => none
    else evEqF P rec xs ys fs
def evEqI (P : Program) (rec : Dv → Dv → Option Bool) (e : TypeId) (c : Nat) (xs ys : List Ch) : List Nat → Option Bool
  | [] => some true
  | i :: is => match evPart P e xs (i * c), evPart P e ys (i * c) with
      | some a, some b => match rec a b, evEqI P rec e c xs ys is with
        | some r, some q => some (r && q)
        | _, _ => none
      | _, _ => none
def evEqT (P : Program) : Nat → TypeId → Dv → Dv → Option Bool
  | 0, _, _, _ => none
  | d + 1, t, .s x, .s y => match P.underlying t, x, y with
    | some (.int _), .u _ a, .u _ b => some (a == b)
    | some (.int _), .x _ (.int k a), .x _ (.int k' b) => if k = k' then some (a == b) else none
    | some .bool, .x _ (.bool a), .x _ (.bool b) => some (a == b)
    | _, _, _ => none
  | d + 1, t, .g xs, .g ys => match P.underlying t with
    | some (.struct _) => if P.stoodInHeld t = false then evEqF P (evEqT P d) xs ys (P.fieldsOf t).toList else none
    | some (.array n e) => match P.info? e with
      | some _ => evEqI P (evEqT P d e) e (P.cellsOf e) xs ys (List.range n)
      | none => none
    | _ => none
  | _, _, _, _ => none
theorem run_evEqF {P : Program} {rec : TypeId → Dv → Dv → Option Bool} {d : Nat} (hr : ∀ t a b r, rec t a b = some r → ∀ w, (Op.equalIn d t a.val b.val).run P w = .ok r w) {xs ys : List Ch} : ∀ (fs : List Field) (r : Bool), evEqF P rec xs ys fs = some r → ∀ w,
    (Op.eqFields d (flat xs).toArray (flat ys).toArray fs).run P w = .ok r w
  | [], r, h, w => by cases h; rfl
  | f :: fs, r, h, w => by
    have ih := run_evEqF hr (xs := xs) (ys := ys) fs
    unfold evEqF at h
    unfold Op.eqFields
    by_cases hn : f.name ≠ "_"
    · rw [if_pos hn] at h ⊢
      split at h
      · rename_i a b ha hb
        split at h
        · rename_i r1 q h1 hq
          cases h
          simp only [Sem.run_bind, run_evPart ha, run_evPart hb, Result.andThen_ok, hr _ _ _ _ h1]
          cases r1
          · rfl
          · simpa using ih q hq w
        · cases h
      · cases h
    · rw [if_neg hn] at h ⊢
      exact ih r h w
theorem run_evEqI {P : Program} {rec : Dv → Dv → Option Bool} {d : Nat} {e : TypeId} {c : Nat} (hr : ∀ a b r, rec a b = some r → ∀ w, (Op.equalIn d e a.val b.val).run P w = .ok r w) {xs ys : List Ch} : ∀ (is : List Nat) (r : Bool), evEqI P rec e c xs ys is = some r → ∀ w,
    (Op.eqItems d e c (flat xs).toArray (flat ys).toArray is).run P w = .ok r w
  | [], r, h, w => by cases h; rfl
  | i :: is, r, h, w => by
    have ih := run_evEqI (c := c) hr (xs := xs) (ys := ys) is
    unfold evEqI at h
    unfold Op.eqItems
    split at h
    · rename_i a b ha hb
      split at h
      · rename_i r1 q h1 hq
        cases h
        simp only [Sem.run_bind, run_evPart ha, run_evPart hb, Result.andThen_ok, hr _ _ _ h1]
        cases r1
        · rfl
        · simpa using ih q hq w
      · cases h
    · cases h
theorem run_evEqT {P : Program} : ∀ (d d' : Nat), d ≤ d' → ∀ (t : TypeId) (a b : Dv) (r : Bool), evEqT P d t a b = some r → ∀ w, (Op.equalIn d' t a.val b.val).run P w = .ok r w
  | 0, _, _, _, _, _, _, h, _ => by unfold evEqT at h; cases h
  | d + 1, 0, hd, _, _, _, _, _, _ => absurd hd (by omega)
  | d + 1, d' + 1, hd, t, a, b, r, h, w => by
    have ih := run_evEqT (P := P) d d' (by omega)
    cases a with
    | s x => cases b with
      | g ys => simp [evEqT] at h
      | s y =>
        simp only [evEqT] at h
        split at h
        · rename_i k s x s' y hu
          cases h
          have := run_equalIn_int (P := P) w d' t .u64 k (x.toNat : Int) (y.toNat : Int) hu
          have e : (x == y) = ((x.toNat : Int) == (y.toNat : Int)) := by
            by_cases c : x = y
            · rw [c, beq_self_eq_true, beq_self_eq_true]
            · have c' : (x.toNat : Int) ≠ (y.toNat : Int) := fun e => c (BitVec.eq_of_toNat_eq (by exact_mod_cast e))
              rw [beq_eq_false_iff_ne.2 c, beq_eq_false_iff_ne.2 c']
          rw [e]
          exact this
        · rename_i k s k1 x s' k2 y hu
          split at h
          · rename_i e
            subst e
            cases h
            exact run_equalIn_int (P := P) w d' t _ k x y hu
          · cases h
        · rename_i s x s' y hu
          cases h
          exact run_equalIn_bool' (P := P) w d' t x y hu
        · cases h
    | g xs => cases b with
      | s y => simp [evEqT] at h
      | g ys =>
        simp only [evEqT] at h
        split at h
        · rename_i fs hu
          split at h
          · rename_i hs
            have hf : P.fieldsOf t = fs := by unfold Program.fieldsOf; rw [hu]
            show (Op.equalIn (d' + 1) t (.agg (flat xs).toArray) (.agg (flat ys).toArray)).run P w = _
            rw [run_equalIn_struct w d' t _ _ (by rw [hf]; exact hu) hs]
            exact run_evEqF ih _ r h w
          · cases h
        · rename_i n e hu
          split at h
          · rename_i ie hi
            show (Op.equalIn (d' + 1) t (.agg (flat xs).toArray) (.agg (flat ys).toArray)).run P w = _
            rw [run_equalIn_array w d' _ _ hu hi]
            exact run_evEqI (fun a b r hr w => ih e a b r hr w) _ r h w
          · cases h
        · cases h
def evEqOp (P : Program) (op : BinOp) (t : TypeId) (xs ys : List Ch) : Option Dv :=
  if P.eqGuardType P.depth t = false then match evEqT P 8 t (.g xs) (.g ys), op with
    | some r, .eql => some (.s (.x (xs.all Ch.st && ys.all Ch.st) (.bool r)))
    | some r, .neq => some (.s (.x (xs.all Ch.st && ys.all Ch.st) (.bool (!r))))
    | _, _ => none
  else none
theorem run_evEqOp {P : Program} {op : BinOp} {t : TypeId} {X Y : Operand} {xs ys : List Ch} {d : Dv} (h : evEqOp P op t xs ys = some d) (w : World) :
    (do eqGuard op t X Y (Dv.g xs).val (Dv.g ys).val; binOp op t (Dv.g xs).val (Dv.g ys).val : Sem Value).run P w = .ok d.val w := by
  unfold evEqOp at h
  split at h
  · rename_i hg
    split at h
    · rename_i r hr
      cases h
      have := run_evEqT 8 10000 (by omega) t _ _ r hr w
      show (do eqGuard _ t X Y (.agg (flat xs).toArray) (.agg (flat ys).toArray); binOp _ t (.agg (flat xs).toArray) (.agg (flat ys).toArray) : Sem Value).run P w = _
      rw [Sem.run_bind, run_eqGuard_agg w _ t X Y _ _ hg]
      simp only [Result.andThen_ok]
      rw [run_eql_struct w]
      rw [show (Op.equalIn 10000 t (.agg (flat xs).toArray) (.agg (flat ys).toArray)).run P w = .ok r w from this]
      rfl
    · rename_i r hr
      cases h
      have := run_evEqT 8 10000 (by omega) t _ _ r hr w
      show (do eqGuard _ t X Y (.agg (flat xs).toArray) (.agg (flat ys).toArray); binOp _ t (.agg (flat xs).toArray) (.agg (flat ys).toArray) : Sem Value).run P w = _
      rw [Sem.run_bind, run_eqGuard_agg w _ t X Y _ _ hg]
      simp only [Result.andThen_ok]
      rw [run_neq_struct w]
      rw [show (Op.equalIn 10000 t (.agg (flat xs).toArray) (.agg (flat ys).toArray)).run P w = .ok r w from this]
      rfl
    · cases h
  · cases h
def stCh (s : St) : List Ch := ((List.range 32).map fun i => Ch.u false (s.x i)) ++ [.u false s.pc, .x false (.int .i64 s.lev), .x false (.bool s.v)] ++ ((List.range 29).map fun i => Ch.u false (s.c i)) ++ [.u false s.done]
theorem flat_mapU (f : Nat → BitVec 64) : ∀ (l : List Nat), flat (l.map fun i => Ch.u false (f i)) = l.map fun i => U (f i)
  | [] => rfl
  | i :: l => by show U (f i) :: flat (l.map fun i => Ch.u false (f i)) = _; rw [flat_mapU f l]; rfl
theorem flat_stCh (s : St) : flat (stCh s) = stL s := by
  unfold stCh stL
  rw [flat_app, flat_app, flat_app, flat_mapU, flat_mapU]
  rfl
def evBinS (P : Program) (op : BinOp) (t : TypeId) (X Y : Operand) (x y : Ch) : Option (Bool × Dv) :=
  match x, y with
  | .S s, .S s' => (evEqOp P op t (stCh s) (stCh s')).map fun d => (true, d)
  | x, y => (evBin P op t X Y x y).map fun r => (r.1, .s r.2)
theorem evBinS_ok {P : Program} {op : BinOp} {t : TypeId} {X Y : Operand} {x y : Ch} {n : Bool} {d : Dv} (h : evBinS P op t X Y x y = some (n, d)) (hn : n = true) (w : World) :
    (do eqGuard op t X Y x.one y.one; binOp op t x.one y.one : Sem Value).run P w = .ok d.val w := by
  unfold evBinS at h
  split at h
  · rename_i s s'
    obtain ⟨d', h1, h2⟩ := Option.map_eq_some_iff.1 h
    cases h2
    have := run_evEqOp (X := X) (Y := Y) h1 w
    have e1 : (Dv.g (stCh s)).val = (Ch.S s).one := by show Value.agg (flat (stCh s)).toArray = .agg (stA s); rw [flat_stCh]; rfl
    have e2 : (Dv.g (stCh s')).val = (Ch.S s').one := by show Value.agg (flat (stCh s')).toArray = .agg (stA s'); rw [flat_stCh]; rfl
    rw [e1, e2] at this
    exact this
  · obtain ⟨⟨n', c⟩, h1, h2⟩ := Option.map_eq_some_iff.1 h
    cases h2
    exact evBin_ok h1 hn w
end Go.Proofs.YtfehilinnalflaaGreat
namespace Go.Proofs.YtfehilinnalflaaGreat
open Go.RowKit Go.BigFrame
set_option linter.unusedSimpArgs false
set_option linter.unusedVariables false
set_option maxRecDepth 100000
def psOf : List AV → Option (List (Nat × Nat))
  | [] => some []
  | .p k o :: l => (psOf l).map fun r => (k, o) :: r
  | _ => none
def slcT (P : Program) (t : TypeId) : Option Nat :=
  match P.underlying t with
  | some (.slice e) => (P.info? e).map fun i => i.size
  | _ => none
theorem run_slcAt {P : Program} {t : TypeId} {es : Nat} (h : slcT P t = some es) (b len cap : Nat) (k : IntKind) (i : Int) (h0 : 0 ≤ i) (h1 : i < len) (w : World) :
    (Instr.indexAt t (.slice (some ⟨b, 0, none⟩) len cap) (.int k i)).run P w = .ok (.pointer (some ⟨b, i.toNat * es, none⟩)) w := by
  unfold slcT at h
  split at h
  · rename_i e hu
    cases hi : P.info? e with
    | none => rw [hi] at h; cases h
    | some x =>
      rw [hi] at h; cases h
      have ha : (⟨b, 0, none⟩ : Addr).add (i.toNat * x.size) = ⟨b, i.toNat * x.size, none⟩ := by rw [Addr.add_mid]; simp
      simp [Instr.indexAt, Sem.run_bind, run_underlying hu, asIntOf, sizeOf, typeInfo, hi, h0, h1, ha]
  · cases h
theorem psOf_ok {σ : List Nat} {A : List AV} {a : Act} (F : FRel σ A a.tmps) : ∀ (l : List Operand) {avs : List AV} {ps : List (Nat × Nat)}, l.mapM (evO A) = some avs → psOf avs = some ps → CRel σ ps (l.map a.eval)
  | [], avs, ps, h, h2 => by simp at h; subst h; cases h2; trivial
  | x :: l, avs, ps, h, h2 => by
    simp only [List.mapM_cons, Option.bind_eq_bind, Option.pure_def] at h
    cases hd : evO A x with
    | none => simp [hd] at h
    | some v =>
      cases hr : l.mapM (evO A) with
      | none => simp [hd, hr] at h
      | some rest =>
        simp [hd, hr] at h
        subst h
        cases v with
        | p k o =>
          unfold psOf at h2
          cases hq : psOf rest with
          | none => rw [hq] at h2; cases h2
          | some qs =>
            rw [hq] at h2; cases h2
            exact ⟨evO_ok F hd, psOf_ok F l hr hq⟩
        | _ => cases h2
def evPure (P : Program) (zt : TypeId → Option (List Ch)) (A : List AV) (H : Hp) (o : Op) : Option (Bool × AV) :=
  match o with
  | .move x => (evO A x).map fun v => (true, v)
  | .assign x => (evO A x).map fun v => (true, v)
  | .pick c a b =>
    match evO A c with
    | some (.d (.s (.x true (.bool cb)))) => match evO A a, evO A b with
      | some x, some y => some (true, bif cb then x else y)
      | _, _ => none
    | some (.d (.s (.x false (.bool cb)))) => match evO A a, evO A b with
      | some (.d (.s (.x _ (.bool x)))), some (.d (.s (.x _ (.bool y)))) => some (true, .d (.s (.x false (.bool (bif cb then x else y)))))
      | _, _ => none
    | _ => none
  | .build t parts => match parts.toList.mapM (fun x => (dOf A x.2).map fun v => (x.1, v)) with
    | some ps => (evBuild P zt t ps).map fun r => (true, .d (mkD r))
    | none => none
  | .load t x =>
    match evO A x with
    | some (.p k off) => match H.bs[k]? with
      | some bk => (evPart P t bk.cs off).map fun d => (true, .d d)
      | none => none
    | some (.q k base n i) => match H.bs[k]? with
      | some bk => if oneT P t = true then (rdQ n i.toNat bk.cs base).map fun c => (true, .d (.s c)) else none
      | none => none
    | _ => none
  | .nilCheck x => match evO A x with
    | some (.p k off) => some (true, .p k off)
    | some (.q k base n i) => some (true, .q k base n i)
    | some (.d (.s (.x st (.pointer (some ad))))) => some (true, .d (.s (.x st (.pointer (some ad)))))
    | _ => none
  | .makeFunc (.func f) first captured => match (first.toList.mapM (evO A)).bind psOf, (captured.toList.mapM (evO A)).bind psOf with
    | some fs, some cs => some (true, .c f fs cs)
    | _, _ => none
  | .binOp op t X Y _ => match dOf A X, dOf A Y with
    | some (.s x), some (.s y) => (evBinS P op t X Y x y).map fun r => (r.1, .d r.2)
    | some (.g xs), some (.g ys) => (evEqOp P op t xs ys).map fun d => (true, .d d)
    | _, _ => none
  | .unOp op _ x => match dOf A x with
    | some (.s (.x st v)) => ((quick P (Op.unary op v)).bind fun v' => chV v' st).map fun c => (true, .d (.s c))
    | _ => none
  | .convert src dst x => match dOf A x with
    | some (.s c) => if (P.underlying src).isSome = true then (evConv P src dst c).map fun c => (true, .d (.s c)) else none
    | _ => none
  | .fieldAddr t x f => match evO A x with
    | some (.p k off) => (fieldOff P t f).map fun o => (true, .p k (off + o))
    | _ => none
  | .indexAddr t x ix => match evO A x, dOf A ix with
    | some (.p k off), some (.s c) => match arrT P t, idx c with
      | some (n, es), some (st, i) =>
        if st = true then (if (decide (0 ≤ i) && decide (i < n)) = true then some (true, .p k (off + i.toNat * es)) else none)
        else if es = 1 then some (decide (0 ≤ i) && decide (i < n), .q k off n i) else none
      | _, _ => none
    | some (.l k n), some (.s c) => match slcT P t, idx c with
      | some es, some (st, i) => if (st && (decide (0 ≤ i) && decide (i < n))) = true then some (true, .p k (i.toNat * es)) else none
      | _, _ => none
    | _, _ => none
  | .extract x i => match evO A x with
    | some (.t vs) => (vs[i]?).map fun v => (true, .d v)
    | _ => none
  | .index t x ix => match dOf A x, dOf A ix with
    | some (.g cs), some (.s c) => match idx c with
      | some (st, i) => (evIndexD P t (.g cs) st i).map fun r => (r.1, .d r.2)
      | none => none
    | _, _ => none
  | .field t x f => match dOf A x, fieldT P t f with
    | some (.g cs), some (o, e) => (evPart P e cs o).map fun d => (true, .d d)
    | _, _ => none
  | .slice t x (some lo) none none => match dOf A x, dOf A lo with
    | some (.s (.x _ (.slice b m c))), some (.s (.x _ (.int _ i))) => match slcT P t with
      | some es => some (decide (0 ≤ i) && decide (i ≤ (m : Int)), .d (.s (.x false (.slice (if c = i.toNat then b else b.map (·.add (i.toNat * es))) (m - i.toNat) (c - i.toNat)))))
      | none => none
    | _, _ => none
  | _ => none
theorem run_slcFrom {P : Program} {t : TypeId} {es : Nat} (h : slcT P t = some es) (b : Option Addr) (m c : Nat) (k : IntKind) (i : Int) (h0 : 0 ≤ i) (h1 : i ≤ (m : Int)) (w : World) :
    (Instr.sliceAt t (.slice b m c) (some (.int k i)) none none).run P w = .ok (.slice (if c = i.toNat then b else b.map (·.add (i.toNat * es))) (m - i.toNat) (c - i.toNat)) w := by
  unfold slcT at h
  split at h
  · rename_i e hu
    cases hi : P.info? e with
    | none => rw [hi] at h; cases h
    | some x =>
      rw [hi] at h; cases h
      simp [Instr.sliceAt, Instr.slice, Sem.run_bind, run_underlying hu, Instr.sliceBounds, run_sliceBound, sizeOf, typeInfo, hi, h0, h1]
  · cases h
theorem VRel.fun {σ : List Nat} {av : AV} {v v' : Value} (h : VRel σ av v) (h' : VRel σ av v') : v = v' := by
  cases av with
  | d x => exact h.trans h'.symm
  | t vs => exact h.trans h'.symm
  | p k off => obtain ⟨b, h1, h2⟩ := h; obtain ⟨b', h3, h4⟩ := h'; rw [h1] at h3; cases h3; rw [h2, h4]
  | l k n => obtain ⟨b, h1, h2⟩ := h; obtain ⟨b', h3, h4⟩ := h'; rw [h1] at h3; cases h3; rw [h2, h4]
  | c f fs cs => obtain ⟨fv, cv, h1, h2, h3⟩ := h; obtain ⟨fv', cv', h4, h5, h6⟩ := h'; rw [h3, h6, h1.fun h4, h2.fun h5]
  | q k base n i => obtain ⟨b, h1, h2, _⟩ := h; obtain ⟨b', h3, h4, _⟩ := h'; rw [h1] at h3; cases h3; rw [h2, h4]
theorem mapM_parts {σ : List Nat} {A : List AV} {a : Act} (F : FRel σ A a.tmps) : ∀ (l : List (Nat × Operand)) {ps : List (Nat × Dv)}, l.mapM (fun x => (dOf A x.2).map fun v => (x.1, v)) = some ps →
    l.map (fun x => (x.1, a.eval x.2)) = ps.map fun x => (x.1, x.2.val)
  | [], ps, h => by simp at h; subst h; rfl
  | x :: l, ps, h => by
    simp only [List.mapM_cons, Option.bind_eq_bind, Option.pure_def] at h
    cases hd : dOf A x.2 with
    | none => simp [hd] at h
    | some v =>
      cases hr : l.mapM (fun x => (dOf A x.2).map fun v => (x.1, v)) with
      | none => simp [hd, hr] at h
      | some rest =>
        simp [hd, hr] at h
        subst h
        simp [dOf_ok F hd, mapM_parts F l hr]
theorem run_val {P : Program} {s : Sem Value} {v : Value} {w w' : World} (h : s.run P w = .ok v w') : (do let x ← s; pure (Next.value x) : Sem Next).run P w = .ok (.value v) w' := by
  rw [Sem.run_bind, h]; rfl
theorem fieldT_ok {P : Program} {t : TypeId} {f o : Nat} {e : TypeId} (h : fieldT P t f = some (o, e)) (cs : Array Value) (w : World) (v : Value) (hp : (part e cs o).run P w = .ok v w) : (Instr.field t (.agg cs) f).run P w = .ok v w := by
  unfold fieldT at h
  split at h
  · rename_i fs hu
    split at h
    · rename_i fl hf; cases h
      simp [Instr.field, Sem.run_bind, run_underlying hu, hf, asAgg, hp]
    · cases h
  · cases h
theorem idx_ok {c : Ch} {st : Bool} {i : Int} (h : idx c = some (st, i)) : ∃ k, c.one = .int k i := by
  unfold idx at h
  split at h
  · cases h; exact ⟨.u64, rfl⟩
  · cases h; exact ⟨_, rfl⟩
  · cases h
theorem MRel.cell {X : Nat → Prop} {w0 : W0} {w : World} {σ : List Nat} {H : Hp} (M : MRel X w0 σ H w) {k b : Nat} {bk : Bk} (hk : σ[k]? = some b) (hH : H.bs[k]? = some bk) {o : Nat} {v : Value} (hv : (flat bk.cs)[o]? = some v) : w.cell? ⟨b, o, none⟩ = some v := by
  have := M.blk k b bk hk hH
  simp [World.cell?, this, hv]
theorem MRel.free {X : Nat → Prop} {w0 : W0} {w : World} {σ : List Nat} {H : Hp} (M : MRel X w0 σ H w) {k b : Nat} {bk : Bk} (hk : σ[k]? = some b) (hH : H.bs[k]? = some bk) (o : Nat) : w.frozen? ⟨b, o, none⟩ = false := by
  have := M.blk k b bk hk hH
  simp [World.frozen?, this]
theorem run_evLoad {P : Program} {X : Nat → Prop} {w0 : W0} {w : World} {σ : List Nat} {H : Hp} (M : MRel X w0 σ H w) {k b off : Nat} {bk : Bk} (hk : σ[k]? = some b) (hH : H.bs[k]? = some bk) {t : TypeId} {d : Dv} (h : evPart P t bk.cs off = some d) :
    (Instr.loadAt t (.pointer (some ⟨b, off, none⟩))).run P w = .ok d.val w := by
  unfold evPart at h
  cases hr : rowT P t with
  | some n =>
    rw [hr] at h
    obtain ⟨dd, hu, hd, hs⟩ := rowT_ok hr
    cases hsub : sub bk.cs off n with
    | none => simp only [hsub] at h; cases h
    | some r =>
      simp only [hsub] at h; cases h
      obtain ⟨h1, h2, h3⟩ := sub_ok hsub
      have hl : (flat r).length = n := by rw [flat_len]; exact h3
      rw [mkD_val]
      refine run_loadAt_mid w b off t (flat r) dd (fun j v hj => ?_) hu hd (by rw [hl]; exact hs)
      refine M.cell hk hH ?_
      have hjl := (List.getElem?_eq_some_iff.1 hj).1
      rw [h1, List.getElem?_take_of_lt (by omega), List.getElem?_drop] at hj
      exact hj
  | none =>
    rw [hr] at h
    simp only at h
    split at h
    · rename_i ho
      cases hc : rd bk.cs off with
      | none => rw [hc] at h; cases h
      | some c => rw [hc] at h; cases h; exact run_load_one ho (M.cell hk hH (rd_ok _ hc).1)
    · cases h
theorem evPure_gen {P : Program} {zt : TypeId → Option (List Ch)} (hz : ZtOk P zt) {w : World} {σ : List Nat} {A : List AV} {H : Hp} {a : Act} (F : FRel σ A a.tmps) {o : Oper} {n : Bool} {av : AV} (ML : ∀ t x k b bk, o.op = .load t x → ((∃ off, evO A x = some (.p k off)) ∨ ∃ base n i, evO A x = some (.q k base n i)) → σ[k]? = some b → H.bs[k]? = some bk → MRel (fun _ => True) ⟨w, [b], false, []⟩ [b] ⟨[bk], none, false, 0⟩ w)
    (h : evPure P zt A H o.op = some (n, av)) (hn : n = true) : ∃ v, VRel σ av v ∧ (execOp a.eval o).run P w = .ok (.value v) w := by
  unfold execOp
  cases hop : o.op <;> rw [hop] at h <;> unfold evPure at h <;> (try (cases h; done)) <;> simp only at h ⊢
  case move x =>
    cases he : evO A x with
    | none => rw [he] at h; cases h
    | some v => rw [he] at h; cases h; exact ⟨_, evO_ok F he, rfl⟩
  case assign x =>
    cases he : evO A x with
    | none => rw [he] at h; cases h
    | some v => rw [he] at h; cases h; exact ⟨_, evO_ok F he, rfl⟩
  case pick c x y =>
    cases hc : evO A c with
    | none => rw [hc] at h; cases h
    | some cv =>
      rw [hc] at h
      have vc := evO_ok F hc
      split at h
      · rename_i cb e; cases e
        have vc' : a.eval c = .bool cb := vc
        rw [vc']
        split at h
        · rename_i vx vy hx hy; cases h
          have rx := evO_ok F hx
          have ry := evO_ok F hy
          cases cb
          · exact ⟨_, ry, rfl⟩
          · exact ⟨_, rx, rfl⟩
        · cases h
      · rename_i cb e; cases e
        have vc' : a.eval c = .bool cb := vc
        rw [vc']
        split at h
        · rename_i s1 bx s2 by_ hx hy; cases h
          have rx : a.eval x = .bool bx := evO_ok F hx
          have ry : a.eval y = .bool by_ := evO_ok F hy
          rw [rx, ry]
          cases cb
          · exact ⟨_, rfl, rfl⟩
          · exact ⟨_, rfl, rfl⟩
        · cases h
      · cases h
  case build t parts =>
    cases hp : parts.toList.mapM (fun x => (dOf A x.2).map fun v => (x.1, v)) with
    | none => rw [hp] at h; cases h
    | some ps =>
      rw [hp] at h
      simp only at h
      cases hb : evBuild P zt t ps with
      | none => rw [hb] at h; cases h
      | some r =>
        rw [hb] at h; cases h
        refine ⟨(mkD r).val, rfl, run_val ?_⟩
        rw [mkD_val]
        refine run_evBuild hz hb w _ ?_
        rw [Array.toList_map]
        exact mapM_parts F _ hp
  case load t x =>
    cases hx : evO A x with
    | none => rw [hx] at h; cases h
    | some xv =>
      rw [hx] at h
      have rx := evO_ok F hx
      cases xv with
      | d v => cases h
      | t vs => cases h
      | c f fs cs => cases h
      | l k n => cases h
      | p k off =>
        simp only at h
        cases hH : H.bs[k]? with
        | none => rw [hH] at h; cases h
        | some bk =>
          rw [hH] at h
          simp only at h
          obtain ⟨b, hk, he⟩ := rx
          cases hp : evPart P t bk.cs off with
          | none => rw [hp] at h; cases h
          | some d =>
            rw [hp] at h; cases h
            rw [he]
            have M1 := ML t x k b bk hop (.inl ⟨off, hx⟩) hk hH
            exact ⟨_, rfl, run_val (run_evLoad (k := 0) M1 rfl rfl hp)⟩
      | q k base m i =>
        simp only at h
        cases hH : H.bs[k]? with
        | none => rw [hH] at h; cases h
        | some bk =>
          rw [hH] at h
          simp only at h
          obtain ⟨b, hk, he, h0, h1⟩ := rx
          split at h
          · rename_i ho
            cases hc : rdQ m i.toNat bk.cs base with
            | none => rw [hc] at h; cases h
            | some c =>
              rw [hc] at h; cases h
              rw [he]
              have M1 := ML t x k b bk hop (.inr ⟨base, m, i, hx⟩) hk hH
              exact ⟨_, rfl, run_val (run_load_one ho (M1.cell (k := 0) rfl rfl (rdQ_ok m i.toNat (by omega) _ hc).1))⟩
          · cases h
  case nilCheck x =>
    cases hx : evO A x with
    | none => rw [hx] at h; cases h
    | some xv =>
      rw [hx] at h
      have rx := evO_ok F hx
      cases xv with
      | d v =>
        split at h
        · rename_i e; cases e
        · rename_i e; cases e
        · rename_i st ad e
          cases e
          cases h
          have rx' : a.eval x = .pointer (some ad) := rx
          rw [rx']
          exact ⟨_, rfl, rfl⟩
        · cases h
      | t vs => cases h
      | c f fs cs => cases h
      | l k n => cases h
      | p k off =>
        cases h
        obtain ⟨b, hk, he⟩ := rx
        rw [he]
        exact ⟨_, ⟨b, hk, rfl⟩, rfl⟩
      | q k base m i =>
        cases h
        obtain ⟨b, hk, he, h0⟩ := rx
        rw [he]
        exact ⟨_, ⟨b, hk, rfl, h0⟩, rfl⟩
  case makeFunc fn first captured =>
    cases fn <;> simp only at h <;> (try (cases h; done))
    rename_i f
    cases h1 : first.toList.mapM (evO A) with
    | none => rw [h1] at h; cases h
    | some l1 =>
      cases h2 : captured.toList.mapM (evO A) with
      | none => rw [h1, h2] at h; cases hq : psOf l1 <;> simp [hq] at h
      | some l2 =>
        rw [h1, h2] at h
        cases h3 : psOf l1 with
        | none => simp [h3] at h
        | some fs =>
          cases h4 : psOf l2 with
          | none => simp [h3, h4] at h
          | some cs =>
            simp [h3, h4] at h
            obtain ⟨_, rfl⟩ := h
            refine ⟨_, ⟨_, _, psOf_ok F _ h1 h3, psOf_ok F _ h2 h4, rfl⟩, run_val ?_⟩
            rw [← Array.toList_map, ← Array.toList_map]
            rfl
  case binOp op t X Y yt =>
    cases hX : dOf A X with
    | none => rw [hX] at h; cases h
    | some dx =>
      cases hY : dOf A Y with
      | none => rw [hX, hY] at h; cases dx <;> cases h
      | some dy =>
        rw [hX, hY] at h
        have rx := dOf_ok F hX
        have ry := dOf_ok F hY
        cases dx with
        | g cs =>
          cases dy with
          | s y => cases h
          | g ds =>
            simp only at h
            cases hb : evEqOp P op t cs ds with
            | none => rw [hb] at h; cases h
            | some r =>
              rw [hb] at h
              have e : true = n ∧ AV.d r = av := by injection h with h; injection h with h1 h2; exact ⟨h1, h2⟩
              obtain ⟨_, rfl⟩ := e
              rw [rx, ry]
              exact ⟨_, rfl, run_val (run_evEqOp hb w)⟩
        | s x =>
          cases dy with
          | g cs => cases h
          | s y =>
            simp only at h
            cases hb : evBinS P op t X Y x y with
            | none => rw [hb] at h; cases h
            | some r =>
              rw [hb] at h
              obtain ⟨n', c⟩ := r
              have e : n' = n ∧ AV.d c = av := by injection h with h; injection h with h1 h2; exact ⟨h1, h2⟩
              obtain ⟨rfl, rfl⟩ := e
              rw [rx, ry]
              exact ⟨_, rfl, run_val (evBinS_ok hb hn w)⟩
  case unOp op t x =>
    cases hX : dOf A x with
    | none => rw [hX] at h; cases h
    | some dx =>
      rw [hX] at h
      have rx := dOf_ok F hX
      split at h
      · rename_i st v e; cases e
        cases hq : quick P (Op.unary op v) with
        | none => rw [hq] at h; cases h
        | some v' =>
          rw [hq] at h
          cases hc : chV v' st with
          | none => simp [hc] at h
          | some c =>
            simp [hc] at h
            obtain ⟨rfl, rfl⟩ := h
            have rx' : a.eval x = v := rx
            rw [rx']
            refine ⟨_, rfl, run_val ?_⟩
            show _ = Result.ok c.one w
            rw [(chV_ok hc).1]
            exact quick_run hq w
      · cases h
  case convert src dst x =>
    cases hX : dOf A x with
    | none => rw [hX] at h; cases h
    | some dx =>
      rw [hX] at h
      have rx := dOf_ok F hX
      cases dx with
      | g cs => cases h
      | s c =>
        simp only at h
        split at h
        · rename_i hs
          cases hc : evConv P src dst c with
          | none => rw [hc] at h; cases h
          | some c' =>
            rw [hc] at h; cases h
            rw [rx]
            exact ⟨_, rfl, run_val (evConv_ok hc hs w)⟩
        · cases h
  case fieldAddr t x f =>
    cases hx : evO A x with
    | none => rw [hx] at h; cases h
    | some xv =>
      rw [hx] at h
      have rx := evO_ok F hx
      cases xv with
      | d v => cases h
      | t vs => cases h
      | c f fs cs => cases h
      | l k n => cases h
      | q k base m i => cases h
      | p k off =>
        simp only at h
        obtain ⟨b, hk, he⟩ := rx
        cases ho : fieldOff P t f with
        | none => rw [ho] at h; cases h
        | some o =>
          rw [ho] at h; cases h
          rw [he]
          exact ⟨_, ⟨b, hk, rfl⟩, run_val (run_fieldAt ho b off w)⟩
  case field t x f =>
    cases hX : dOf A x with
    | none => rw [hX] at h; cases h
    | some dx =>
      rw [hX] at h
      have rx := dOf_ok F hX
      cases dx with
      | s c => cases h
      | g cs =>
        cases hf : fieldT P t f with
        | none => rw [hf] at h; cases h
        | some oe =>
          rw [hf] at h
          obtain ⟨o, e⟩ := oe
          simp only at h
          cases hp : evPart P e cs o with
          | none => rw [hp] at h; cases h
          | some d =>
            rw [hp] at h; cases h
            rw [rx]
            exact ⟨_, rfl, run_val (fieldT_ok hf _ w _ (run_evPart hp w))⟩
  case slice t x lo hi mx =>
    cases lo with
    | none => cases h
    | some lo =>
      cases hi with
      | some _ => cases h
      | none =>
        cases mx with
        | some _ => cases h
        | none =>
          simp only at h
          split at h
          · rename_i s1 b m c s2 k i hx hy
            cases hs : slcT P t with
            | none => rw [hs] at h; cases h
            | some es =>
              rw [hs] at h
              simp only at h
              have e : (decide (0 ≤ i) && decide (i ≤ (m : Int))) = n ∧ AV.d (.s (.x false (.slice (if c = i.toNat then b else b.map (·.add (i.toNat * es))) (m - i.toNat) (c - i.toNat)))) = av := by injection h with h; injection h with h1 h2; exact ⟨h1, h2⟩
              obtain ⟨e1, rfl⟩ := e
              rw [hn] at e1
              simp only [Bool.and_eq_true, decide_eq_true_eq] at e1
              have rx : a.eval x = .slice b m c := dOf_ok F hx
              have ry : a.eval lo = .int k i := dOf_ok F hy
              refine ⟨_, rfl, run_val ?_⟩
              show (Instr.sliceAt t (a.eval x) (some (a.eval lo)) none none).run P w = _
              rw [rx, ry]
              exact run_slcFrom hs b m c k i e1.1 e1.2 w
          · cases h
  case indexAddr t x ix =>
    cases hx : evO A x with
    | none => rw [hx] at h; cases h
    | some xv =>
      cases hi : dOf A ix with
      | none => rw [hx, hi] at h; cases xv <;> cases h
      | some di =>
        rw [hx, hi] at h
        have rx := evO_ok F hx
        have ri := dOf_ok F hi
        cases xv with
        | d v => cases h
        | t vs => cases h
        | c f fs cs => cases h
        | q k base m i => cases h
        | l k n =>
          cases di with
          | g cs => cases h
          | s c =>
            simp only at h
            cases ha : slcT P t with
            | none => rw [ha] at h; cases h
            | some es =>
              cases hc : idx c with
              | none => rw [ha, hc] at h; cases h
              | some si =>
                obtain ⟨st, i⟩ := si
                rw [ha, hc] at h
                simp only at h
                obtain ⟨kk, hci⟩ := idx_ok hc
                obtain ⟨b, hk, he⟩ := rx
                have ri' : a.eval ix = .int kk i := by rw [ri]; exact hci
                rw [he, ri']
                split at h
                · rename_i hb; cases h
                  simp only [Bool.and_eq_true, decide_eq_true_eq] at hb
                  exact ⟨_, ⟨b, hk, rfl⟩, run_val (run_slcAt ha b n n kk i hb.2.1 hb.2.2 w)⟩
                · cases h
        | p k off =>
          cases di with
          | g cs => cases h
          | s c =>
            simp only at h
            cases ha : arrT P t with
            | none => rw [ha] at h; cases h
            | some ne =>
              obtain ⟨m, es⟩ := ne
              cases hc : idx c with
              | none => rw [ha, hc] at h; cases h
              | some si =>
                obtain ⟨st, i⟩ := si
                rw [ha, hc] at h
                simp only at h
                obtain ⟨kk, hci⟩ := idx_ok hc
                obtain ⟨b, hk, he⟩ := rx
                have ri' : a.eval ix = .int kk i := by rw [ri]; exact hci
                rw [he, ri']
                split at h
                · split at h
                  · rename_i hb; cases h
                    simp only [Bool.and_eq_true, decide_eq_true_eq] at hb
                    exact ⟨_, ⟨b, hk, rfl⟩, run_val (run_indexAt ha b off kk i hb.1 hb.2 w)⟩
                  · cases h
                · split at h
                  · rename_i hes; subst hes
                    have e : (decide (0 ≤ i) && decide (i < m)) = n ∧ AV.q k off m i = av := by injection h with h; injection h with h1 h2; exact ⟨h1, h2⟩
                    obtain ⟨e1, rfl⟩ := e
                    rw [hn] at e1
                    simp only [Bool.and_eq_true, decide_eq_true_eq] at e1
                    refine ⟨_, ⟨b, hk, rfl, e1⟩, run_val ?_⟩
                    have := run_indexAt ha b off kk i e1.1 e1.2 w
                    rw [Nat.mul_one] at this
                    exact this
                  · cases h
  case index t x ix =>
    cases hX : dOf A x with
    | none => rw [hX] at h; cases h
    | some dx =>
      cases hi : dOf A ix with
      | none => rw [hX, hi] at h; cases dx <;> cases h
      | some di =>
        rw [hX, hi] at h
        have rx := dOf_ok F hX
        have ri := dOf_ok F hi
        cases dx with
        | s c => cases h
        | g cs =>
          cases di with
          | g cs => cases h
          | s c =>
            simp only at h
            cases hc : idx c with
            | none => rw [hc] at h; cases h
            | some si =>
              obtain ⟨st, i⟩ := si
              rw [hc] at h
              simp only at h
              obtain ⟨kk, hci⟩ := idx_ok hc
              have ri' : a.eval ix = .int kk i := by rw [ri]; exact hci
              cases hd : evIndexD P t (.g cs) st i with
              | none => rw [hd] at h; cases h
              | some r =>
                rw [hd] at h
                obtain ⟨n', d⟩ := r
                have e : n' = n ∧ AV.d d = av := by injection h with h; injection h with h1 h2; exact ⟨h1, h2⟩
                obtain ⟨rfl, rfl⟩ := e
                rw [rx, ri']
                exact ⟨_, rfl, run_val (run_evIndexD hd hn ⟨cs, rfl, rfl⟩ w)⟩
  case extract x i =>
    cases hx : evO A x with
    | none => rw [hx] at h; cases h
    | some xv =>
      rw [hx] at h
      have rx := evO_ok F hx
      cases xv with
      | d v => cases h
      | c f fs cs => cases h
      | l k n => cases h
      | p k off => cases h
      | q k base m i => cases h
      | t vs =>
        simp only at h
        cases hv : vs[i]? with
        | none => rw [hv] at h; cases h
        | some v =>
          rw [hv] at h; cases h
          have rx' : a.eval x = .tuple (vs.map Dv.val).toArray := rx
          rw [rx']
          refine ⟨_, rfl, run_val ?_⟩
          simp [Instr.extract, hv]
theorem one_box {w : World} {b : Nat} {bk : Bk} (h : w.heap[b]? = some (.cells (flat bk.cs).toArray bk.T (0, 0))) : MRel (fun _ => True) ⟨w, [b], false, []⟩ [b] ⟨[bk], none, false, 0⟩ w := by
  refine ⟨Fr.refl _ _, fun k b _ _ => .inl trivial, fun k b h => h, rfl, fun j b' bk' h1 h2 => ?_, fun i j b' h1 h2 => ?_, fun S hS => (by cases hS), fun h => (by cases h), fun k T h => (by cases h)⟩
  · cases j with
    | zero => cases h1; cases h2; exact h
    | succ j => cases h1
  · cases i with
    | zero => cases j with
      | zero => rfl
      | succ j => cases h2
    | succ i => cases h1
theorem evPure_ok {P : Program} {zt : TypeId → Option (List Ch)} (hz : ZtOk P zt) {X : Nat → Prop} {w0 : W0} {w : World} {σ : List Nat} {A : List AV} {H : Hp} {a : Act} (F : FRel σ A a.tmps) (M : MRel X w0 σ H w) {o : Oper} {n : Bool} {av : AV}
    (h : evPure P zt A H o.op = some (n, av)) (hn : n = true) : ∃ v, VRel σ av v ∧ (execOp a.eval o).run P w = .ok (.value v) w := evPure_gen hz F (fun t x k b bk _ _ hk hH => one_box (M.blk k b bk hk hH)) h hn
end Go.Proofs.YtfehilinnalflaaGreat
namespace Go.Proofs.YtfehilinnalflaaGreat
open Go.RowKit Go.BigFrame
set_option linter.unusedSimpArgs false
set_option linter.unusedVariables false
set_option maxRecDepth 100000
structure Env where
  zt : TypeId → Option (List Ch)
  spec : FuncId → List Dv → Option (Bool × AV)
  specL : FuncId → List Dv → Nat → List Ch → Option (Bool × AV)
  specR : FuncId → List AV → Hp → Option (Bool × AV)
  specX : FuncId → List AV → Hp → Option (Bool × AV × Hp)
  specM : FuncId → List AV → Hp → Option (Bool × AV × HS)
  fx : FuncId → Bool
def ReadOk (P : Program) (f : FuncId) (avs : List AV) (H : Hp) (av : AV) : Prop :=
  ∀ (X : Nat → Prop) (w0 : W0) (σ : List Nat) (w : World) (args : List Value), FRel σ avs args.toArray → MRel X w0 σ H w → ∃ v, VRel σ av v ∧ ∀ w1, Below w.heap.size w w1 → Calls P f args.toArray w1 fun e w' => e = .returned v ∧ Below w1.heap.size w1 w'
def TurnOk (P : Program) (f : FuncId) (avs : List AV) (H : Hp) (av : AV) (H' : Hp) : Prop :=
  ∀ (X : Nat → Prop) (w0 : W0) (σ : List Nat) (w : World) (args : List Value), FRel σ avs args.toArray → MRel X w0 σ H w → Calls P f args.toArray w fun e w' => ∃ v, e = .returned v ∧ VRel σ av v ∧ MRel X w0 σ H' w'
structure EnvOk (P : Program) (E : Env) : Prop where
  zt : ZtOk P E.zt
  spec : ∀ f args n av, E.spec f args = some (n, av) → n = true → (∀ xs, quick P (callFunc f xs) = some (.enter f xs)) ∧ ∃ v, (∀ σ, VRel σ av v) ∧ Gives P f (args.map Dv.val).toArray v
  specL : ∀ f ds m cs n av, E.specL f ds m cs = some (n, av) → n = true → (∀ xs, quick P (callFunc f xs) = some (.enter f xs)) ∧ ∃ v, (∀ σ, VRel σ av v) ∧
    ∀ (w : World) (b : Nat) (T : TypeId), w.heap[b]? = some (.cells (flat cs).toArray T (0, 0)) → Calls P f (ds.map Dv.val ++ [Value.slice (some ⟨b, 0, none⟩) m m]).toArray w fun e w' => e = .returned v ∧ Below w.heap.size w w'
  specR : ∀ f avs H n av, E.specR f avs H = some (n, av) → n = true → (∀ xs, quick P (callFunc f xs) = some (.enter f xs)) ∧ ReadOk P f avs H av
  specX : ∀ f avs H n av H', E.specX f avs H = some (n, av, H') → n = true → (∀ xs, quick P (callFunc f xs) = some (.enter f xs)) ∧ TurnOk P f avs H av H'
  specM : ∀ f avs H n av S', E.specM f avs H = some (n, av, S') → n = true → (∀ xs, quick P (callFunc f xs) = some (.enter f xs)) ∧ TurnOk P f avs H av ⟨H.bs, some S', H.rw, H.ro⟩
def zeroI : Ch := .x true (.int .i64 0)
def isZ : List Ch → Bool
  | [] => true
  | .x _ (.int .i64 n) :: cs => decide (n = 0) && isZ cs
  | _ :: _ => false
theorem isZ_flat : ∀ (cs : List Ch), isZ cs = true → flat cs = List.replicate (wid cs) (.int .i64 0)
  | [], _ => rfl
  | c :: cs, h => by
    unfold isZ at h
    split at h
    · rename_i e; cases e
    · rename_i st n cs' e
      cases e
      have h' : n = 0 ∧ isZ cs = true := by simpa using h
      obtain ⟨rfl, h2⟩ := h'
      show Value.int .i64 0 :: flat cs = List.replicate (1 + wid cs) _
      rw [isZ_flat cs h2, Nat.add_comm]; rfl
    · cases h
theorem flat_zero : ∀ (n : Nat), flat (List.replicate n zeroI) = List.replicate n (.int .i64 0) ∧ wid (List.replicate n zeroI) = n
  | 0 => ⟨rfl, rfl⟩
  | n + 1 => by
    obtain ⟨h1, h2⟩ := flat_zero n
    refine ⟨?_, ?_⟩
    · show Value.int .i64 0 :: flat (List.replicate n zeroI) = _; rw [h1]; rfl
    · show 1 + wid (List.replicate n zeroI) = _; rw [h2]; omega
def evSlice (P : Program) (E : Env) (A : List AV) (t : TypeId) (len : Nat) (parts : List (Nat × Operand)) : Option (TypeId × List Ch) :=
  match P.underlying t with
  | some (.slice e) => match E.zt e, P.info? e with
    | some ce, some ie => if isZ ce = true ∧ wid ce = ie.size ∧ len * ie.size ≤ 2 ^ 24 ∧ len * ie.size ≠ 0 then
        match parts.mapM (fun x => (dOf A x.2).map fun v => (x.1, v)) with
        | some ps => (fillC (fun i => some (i * ie.size, ie.size)) (List.replicate (len * ie.size) zeroI) ps).map fun r => (e, r)
        | none => none
      else none
    | _, _ => none
  | _ => none
theorem run_evSlice {P : Program} {E : Env} (hE : EnvOk P E) {σ : List Nat} {A : List AV} {a : Act} (F : FRel σ A a.tmps) {t : TypeId} {len : Nat} {parts : Array (Nat × Operand)} {e : TypeId} {r : List Ch} (h : evSlice P E A t len parts.toList = some (e, r)) (w : World) :
    (Instr.buildSlice t len (parts.map fun (i, x) => (i, a.eval x))).run P w = .ok (.slice (some ⟨w.heap.size, 0, none⟩) len len) (w.alloc (.cells (flat r).toArray e (0, 0))) := by
  unfold evSlice at h
  split at h
  · rename_i e' hu
    split at h
    · rename_i ce ie hz hi
      split at h
      · rename_i hc
        obtain ⟨c1, c2, c3, c4⟩ := hc
        cases hp : parts.toList.mapM (fun x => (dOf A x.2).map fun v => (x.1, v)) with
        | none => rw [hp] at h; cases h
        | some ps =>
          rw [hp] at h
          simp only at h
          cases hf : fillC (fun i => some (i * ie.size, ie.size)) (List.replicate (len * ie.size) zeroI) ps with
          | none => rw [hf] at h; cases h
          | some r' =>
            rw [hf] at h; cases h
            obtain ⟨⟨it, z, h1, h2, h3⟩, _⟩ := hE.zt e ce hz
            rw [hi] at h1; cases h1
            refine run_buildSlice w t e len _ _ ie z hu hi h2 (by omega) c4 ?_
            have hz2 : z.cells = (List.replicate ie.size (Value.int .i64 0)).toArray := by rw [h3, isZ_flat ce c1, c2]
            have he : (Array.range (len * ie.size)).map (z.cells[· % z.cells.size]!) = (flat (List.replicate (len * ie.size) zeroI)).toArray := by
              rw [(flat_zero _).1]
              apply Array.ext
              · simp
              · intro i h4 h5
                have hpos : 0 < ie.size := Nat.pos_of_ne_zero (fun e0 => c4 (by rw [e0]; simp))
                simp [hz2, Nat.mod_lt _ hpos]
            rw [he]
            have := fillC_ok _ ps hf
            rw [Array.toList_map, mapM_parts F _ hp]
            exact this
      · cases h
    · cases h
  · cases h
def Hp.wr? (H : Hp) (k : Nat) : Option Bk := if H.ro ≤ k then H.bs[k]? else none
theorem Hp.wr_ok {H : Hp} {k : Nat} {bk : Bk} (h : H.wr? k = some bk) : H.bs[k]? = some bk ∧ H.ro ≤ k := by
  unfold Hp.wr? at h
  split at h
  · rename_i c; exact ⟨h, c⟩
  · cases h
def evMem (P : Program) (E : Env) (A : List AV) (H : Hp) (o : Op) : Option (AV × Hp) :=
  match o with
  | .buildSlice t len parts => (evSlice P E A t len parts.toList).map fun r => (.l H.bs.length len, H.push ⟨r.1, r.2⟩)
  | .alloc t => (E.zt t).map fun cs => (.p H.bs.length 0, H.push ⟨t, cs⟩)
  | .box t x => match dOf A x with
    | some d => if d.ok = true then some (.p H.bs.length 0, H.push ⟨t, d.chs⟩) else none
    | none => none
  | .store t x y => match evO A x, dOf A y with
    | some (.p k off), some d => match H.wr? k with
      | some bk => match rowT P t with
        | some n => match d with
          | .s (.S s) => if wid d.chs = n then (lay bk.cs off d.chs).map fun r => (.t [], H.put k ⟨bk.T, r⟩) else none
          | .g cs => if d.ok = true ∧ wid cs = n then (lay bk.cs off cs).map fun r => (.t [], H.put k ⟨bk.T, r⟩) else none
          | _ => none
        | none => match d with
          | .s c => if d.ok = true ∧ oneT P t = true then (wr bk.cs off c).map fun r => (.t [], H.put k ⟨bk.T, r⟩) else none
          | .g _ => none
      | none => none
    | some (.q k base n i), some (.s (.u _ b)) => match H.wr? k with
      | some bk => if oneT P t = true then (wrQ n i.toNat b bk.cs base).map fun r => (.t [], H.put k ⟨bk.T, r⟩) else none
      | none => none
    | _, _ => none
  | _ => none
theorem okSc {c : Ch} (h : (Dv.s c).ok = true) (hs : c.sc = true) : okOne c.one = true := by
  cases c with
  | u st b => rfl
  | S s => cases hs
  | x st v => unfold Dv.ok Dv.chs okChs at h; simp at h; exact h.1
theorem run_lay {P : Program} {X : Nat → Prop} {w0 : W0} {w : World} {σ : List Nat} {H : Hp} (M : MRel X w0 σ H w) {k b off n : Nat} {bk : Bk} (hk : σ[k]? = some b) (hH : H.bs[k]? = some bk) (hro : H.ro ≤ k) {t : TypeId} (hr : rowT P t = some n)
    {cs r : List Ch} (hw : wid cs = n) (hone : ∀ v ∈ flat cs, v.oneCell' = true) (hl : lay bk.cs off cs = some r) (u : Value) (hu : u = .agg (flat cs).toArray) :
    ∃ w', (Instr.storeAt t (.pointer (some ⟨b, off, none⟩)) u).run P w = .ok () w' ∧ MRel X w0 σ (H.put k ⟨bk.T, r⟩) w' := by
  obtain ⟨dd, hu2, hd, hs⟩ := rowT_ok hr
  obtain ⟨h1, h2⟩ := lay_ok hl
  have hblk := M.blk k b bk hk hH
  obtain ⟨hnew, hupd⟩ := setCells_heap b bk.T (flat cs) off w (flat bk.cs) (by rw [flat_len, flat_len]; omega) hblk
  refine ⟨w.setCells b off (flat cs), ?_, M.turn hk hH hro hupd ?_⟩
  · have := run_storeVar_mid (P := P) w b off t (flat cs).toArray (fun j hj => ?_) (by rw [hs]; simp [flat_len, hw]) (by
      rw [Array.all_eq_true_iff_forall_mem]; intro v hv; exact hone v (by simpa using hv))
    · rw [hu]
      simp only [Instr.storeAt, Instr.sureAddr, Sem.run_bind, Sem.run_pure, Result.andThen_ok]
      simpa using this
    · have hj' : j < wid cs := by simpa [flat_len] using hj
      refine ⟨?_, M.free hk hH _⟩
      have hlt : off + j < (flat bk.cs).length := by rw [flat_len]; omega
      rw [M.cell hk hH (List.getElem?_eq_getElem hlt)]; rfl
  · rw [hnew, h1, flat_len]
theorem evMem_ok {P : Program} {E : Env} (hE : EnvOk P E) {X : Nat → Prop} {w0 : W0} {w : World} {σ : List Nat} {A : List AV} {H H' : Hp} {a : Act} (F : FRel σ A a.tmps) (M : MRel X w0 σ H w) {o : Oper} {av : AV}
    (h : evMem P E A H o.op = some (av, H')) : ∃ σ' v w', ((execOp a.eval o).run P w = .ok (.value v) w' ∨ ((execOp a.eval o).run P w = .ok .skip w' ∧ v = undef)) ∧ VRel σ' av v ∧ MRel X w0 σ' H' w' ∧ (σ' = σ ∨ ∃ b, σ' = σ ++ [b]) := by
  unfold execOp
  cases hop : o.op <;> rw [hop] at h <;> unfold evMem at h <;> (try (cases h; done)) <;> simp only at h ⊢
  case buildSlice t len parts =>
    cases hz : evSlice P E A t len parts.toList with
    | none => rw [hz] at h; cases h
    | some r =>
      obtain ⟨e, r⟩ := r
      rw [hz] at h; cases h
      refine ⟨σ ++ [w.heap.size], _, _, .inl (run_val (run_evSlice hE F hz w)), ⟨w.heap.size, ?_, rfl⟩, M.alloc ⟨e, r⟩, .inr ⟨_, rfl⟩⟩
      rw [← M.len, List.getElem?_append_right (Nat.le_refl _)]; simp
  case alloc t =>
    cases hz : E.zt t with
    | none => rw [hz] at h; cases h
    | some cs =>
      rw [hz] at h; cases h
      refine ⟨σ ++ [w.heap.size], _, _, .inl (run_val (run_zero hE.zt hz w)), ⟨w.heap.size, ?_, rfl⟩, M.alloc ⟨t, cs⟩, .inr ⟨_, rfl⟩⟩
      rw [← M.len, List.getElem?_append_right (Nat.le_refl _)]; simp
  case box t x =>
    cases hx : dOf A x with
    | none => rw [hx] at h; cases h
    | some d =>
      rw [hx] at h
      simp only at h
      split at h
      · rename_i hok; cases h
        have rx := dOf_ok F hx
        rw [rx]
        refine ⟨σ ++ [w.heap.size], .pointer (some ⟨w.heap.size, 0, none⟩), w.alloc (.cells (flat d.chs).toArray t (0, 0)), .inl (run_val ?_), ⟨w.heap.size, ?_, rfl⟩, M.alloc ⟨t, d.chs⟩, .inr ⟨_, rfl⟩⟩
        · simp [Instr.box, newVar, newRow, Dv.cells_ok d hok]
        · rw [← M.len, List.getElem?_append_right (Nat.le_refl _)]; simp
      · cases h
  case store t x y =>
    have fin : ∀ {b off : Nat} {u : Value} {H2 : Hp}, (∃ w', (Instr.storeAt t (.pointer (some ⟨b, off, none⟩)) u).run P w = .ok () w' ∧ MRel X w0 σ H2 w') →
        ∃ σ' v w', ((do Instr.storeAt t (.pointer (some ⟨b, off, none⟩)) u; pure Next.skip : Sem Next).run P w = .ok (.value v) w' ∨ ((do Instr.storeAt t (.pointer (some ⟨b, off, none⟩)) u; pure Next.skip : Sem Next).run P w = .ok .skip w' ∧ v = undef)) ∧
          VRel σ' (.t []) v ∧ MRel X w0 σ' H2 w' ∧ (σ' = σ ∨ ∃ b, σ' = σ ++ [b]) := by
      rintro b off u H2 ⟨w', h1, h2⟩
      exact ⟨σ, undef, w', .inr ⟨by rw [Sem.run_bind, h1]; rfl, rfl⟩, rfl, h2, .inl rfl⟩
    cases hx : evO A x with
    | none => rw [hx] at h; cases h
    | some xv =>
      cases hy : dOf A y with
      | none => rw [hx, hy] at h; cases xv <;> cases h
      | some d =>
        rw [hx, hy] at h
        have rx := evO_ok F hx
        have ry := dOf_ok F hy
        cases xv with
        | d v => cases h
        | t vs => cases h
        | c f fs cs => cases h
        | l k n => cases h
        | p k off =>
          simp only at h
          cases hH0 : H.wr? k with
          | none => rw [hH0] at h; cases h
          | some bk =>
            rw [hH0] at h
            simp only at h
            obtain ⟨hH, hro⟩ := Hp.wr_ok hH0
            obtain ⟨b, hk, he⟩ := rx
            rw [he, ry]
            cases hr : rowT P t with
            | some n =>
              rw [hr] at h
              simp only at h
              split at h
              · rename_i s
                split at h
                · rename_i hw
                  cases hl : lay bk.cs off (Dv.s (.S s)).chs with
                  | none => rw [hl] at h; cases h
                  | some r =>
                    rw [hl] at h; cases h
                    refine fin (run_lay M hk hH hro hr hw (fun v hv => ?_) hl _ ?_)
                    · have : v ∈ stL s := by simpa [Dv.chs, flat, Ch.cells] using hv
                      exact stL_one s v this
                    · show Value.agg (stA s) = _; simp [Dv.chs, flat, Ch.cells, stA]
                · cases h
              · rename_i cs
                split at h
                · rename_i hw
                  cases hl : lay bk.cs off cs with
                  | none => rw [hl] at h; cases h
                  | some r =>
                    rw [hl] at h; cases h
                    exact fin (run_lay M hk hH hro hr hw.2 (flat_one cs hw.1) hl _ rfl)
                · cases h
              · cases h
            | none =>
              rw [hr] at h
              simp only at h
              split at h
              · rename_i c
                split at h
                · rename_i hc
                  cases hl : wr bk.cs off c with
                  | none => rw [hl] at h; cases h
                  | some r =>
                    rw [hl] at h; cases h
                    obtain ⟨h1, h2, h3⟩ := wr_ok _ hl
                    have hblk := M.blk k b bk hk hH
                    have hlt : off < (flat bk.cs).length := by rw [flat_len]; exact h2
                    refine fin ⟨w.setCell ⟨b, off, none⟩ c.one, run_store_one hc.2 (M.cell hk hH (List.getElem?_eq_getElem hlt)) (M.free hk hH off) (okSc hc.1 h3), M.turn hk hH hro (set_upd w b off _) ?_⟩
                    rw [set_block hblk (by simpa using hlt), h1]; simp
                · cases h
              · cases h
        | q k base n i =>
          cases d with
          | g cs => cases h
          | s c =>
            cases c with
            | x st v => cases h
            | S s => cases h
            | u st bb =>
              cases hH0 : H.wr? k with
              | none => simp [hH0] at h
              | some bk =>
                simp only [hH0] at h
                obtain ⟨hH, hro⟩ := Hp.wr_ok hH0
                obtain ⟨b, hk, he, h0, hlt0⟩ := rx
                rw [he, ry]
                split at h
                · rename_i ho
                  cases hl : wrQ n i.toNat bb bk.cs base with
                  | none => rw [hl] at h; cases h
                  | some r =>
                    rw [hl] at h; cases h
                    obtain ⟨h1, h2⟩ := wrQ_ok n i.toNat (by omega) bb _ hl
                    have hblk := M.blk k b bk hk hH
                    have hlt : base + i.toNat < (flat bk.cs).length := by rw [flat_len]; exact h2
                    refine fin ⟨w.setCell ⟨b, base + i.toNat, none⟩ (U bb), run_store_one ho (M.cell hk hH (List.getElem?_eq_getElem hlt)) (M.free hk hH _) rfl, M.turn hk hH hro (set_upd w b _ _) ?_⟩
                    rw [set_block hblk (by simpa using hlt), h1]; simp
                · cases h
theorem mapM_dOf {σ : List Nat} {A : List AV} {a : Act} (F : FRel σ A a.tmps) : ∀ (l : List Operand) {vs : List Dv}, l.mapM (dOf A) = some vs → l.map a.eval = vs.map Dv.val
  | [], vs, h => by simp at h; subst h; rfl
  | x :: l, vs, h => by
    simp only [List.mapM_cons, Option.bind_eq_bind, Option.pure_def] at h
    cases hd : dOf A x with
    | none => simp [hd] at h
    | some v =>
      cases hr : l.mapM (dOf A) with
      | none => simp [hd, hr] at h
      | some rest =>
        simp [hd, hr] at h
        subst h
        simp [dOf_ok F hd, mapM_dOf F l hr]
def allSt : List Dv → Bool
  | [] => true
  | .s c :: ds => c.st && allSt ds
  | _ :: _ => false
def evCallF0 (E : Env) (A : List AV) (H : Hp) (f : FuncId) (args : List Operand) : Option (Bool × AV) :=
  match args.mapM (dOf A) with
  | some vs => E.spec f vs
  | none => match args.getLast? with
    | some x => match evO A x, args.dropLast.mapM (dOf A) with
      | some (.l k n), some ds => match H.bs[k]? with
        | some bk => E.specL f ds n bk.cs
        | none => none
      | _, _ => none
    | none => none
def evCallF (E : Env) (A : List AV) (H : Hp) (f : FuncId) (args : List Operand) : Option (Bool × AV) :=
  match evCallF0 E A H f args with
  | some r => some r
  | none => match args.mapM (evO A) with
    | some avs => E.specR f avs H
    | none => none
def ptrs (l : List (Nat × Nat)) : List AV := l.map fun x => .p x.1 x.2
def calleeOf (A : List AV) (c : Call) (avs : List AV) : Option (FuncId × List AV) :=
  match c.callee with
  | .value (.func f) => some (f, avs)
  | .value (.tmp d) => match A[d]? with
    | some (.c f fs cs) => some (f, ptrs fs ++ avs ++ ptrs cs)
    | _ => none
  | _ => none
def evCallM (E : Env) (A : List AV) (H : Hp) (c : Call) : Option (Bool × AV × HS) :=
  match c.args.toList.mapM (evO A) with
  | some avs => match calleeOf A c avs with
    | some (f, avs) => E.specM f avs H
    | none => none
  | none => none
def evCallX (E : Env) (A : List AV) (H : Hp) (c : Call) : Option (Bool × AV × Hp) :=
  match evCallM E A H c with
  | some r => some (r.1, r.2.1, ⟨H.bs, some r.2.2, H.rw, H.ro⟩)
  | none => match c.args.toList.mapM (evO A) with
    | some avs => match calleeOf A c avs with
      | some (f, avs) => E.specX f avs H
      | none => none
    | none => none
def evCallC (E : Env) (A : List AV) (H : Hp) (c : Call) : Option (Bool × AV) :=
  match c.args.toList.mapM (evO A) with
  | some avs => match calleeOf A c avs with
    | some (f, avs) => E.specR f avs H
    | none => none
  | none => none
theorem mapM_evO {σ : List Nat} {A : List AV} {a : Act} (F : FRel σ A a.tmps) : ∀ (l : List Operand) {avs : List AV}, l.mapM (evO A) = some avs → FRel σ avs (l.map a.eval).toArray
  | [], avs, h => by simp at h; subst h; exact ⟨rfl, fun i av hi => by cases hi⟩
  | x :: l, avs, h => by
    simp only [List.mapM_cons, Option.bind_eq_bind, Option.pure_def] at h
    cases hd : evO A x with
    | none => simp [hd] at h
    | some v =>
      cases hr : l.mapM (evO A) with
      | none => simp [hd, hr] at h
      | some rest =>
        simp [hd, hr] at h
        subst h
        have ih := mapM_evO F l hr
        refine ⟨by have := ih.size; simp at this ⊢; exact this, fun i av hi => ?_⟩
        cases i with
        | zero => cases hi; exact ⟨a.eval x, by simp, evO_ok F hd⟩
        | succ i =>
          obtain ⟨u, h1, h2⟩ := ih.at_ i av hi
          exact ⟨u, by simpa using h1, h2⟩
def lenOf (A : List AV) (b : Builtin) (c : Call) : Option Int :=
  match b, c.args.toList with
  | .len, [.tmp d] => match A[d]? with
    | some (.l _ n) => some n
    | _ => none
  | _, _ => none
theorem FRel.app {σ : List Nat} {A B : List AV} {va vb : List Value} (h : FRel σ A va.toArray) (k : FRel σ B vb.toArray) : FRel σ (A ++ B) (va ++ vb).toArray := by
  have h1 : A.length = va.length := by simpa using h.size
  have h2 : B.length = vb.length := by simpa using k.size
  refine ⟨by simp [h1, h2], fun i av hi => ?_⟩
  by_cases c : i < A.length
  · rw [List.getElem?_append_left c] at hi
    obtain ⟨v, h3, h4⟩ := h.at_ i av hi
    refine ⟨v, ?_, h4⟩
    have h3' : va[i]? = some v := by simpa using h3
    simpa [List.getElem?_append_left (show i < va.length by omega)] using h3'
  · rw [List.getElem?_append_right (Nat.le_of_not_lt c)] at hi
    obtain ⟨v, h3, h4⟩ := k.at_ _ av hi
    refine ⟨v, ?_, h4⟩
    have h3' : vb[i - A.length]? = some v := by simpa using h3
    rw [h1] at h3'
    simpa [List.getElem?_append_right (show va.length ≤ i by omega)] using h3'
theorem FRel.ptrs {σ : List Nat} : ∀ {l : List (Nat × Nat)} {vs : List Value}, CRel σ l vs → FRel σ (Go.Proofs.YtfehilinnalflaaGreat.ptrs l) vs.toArray
  | [], [], _ => ⟨rfl, fun i av hi => by cases hi⟩
  | [], _ :: _, h => h.elim
  | (_, _) :: _, [], h => h.elim
  | (k, o) :: l, v :: vs, ⟨h1, h⟩ => by
    have ih := FRel.ptrs h
    have hs : (Go.Proofs.YtfehilinnalflaaGreat.ptrs l).length = vs.length := by simpa using ih.size
    refine ⟨by show (Go.Proofs.YtfehilinnalflaaGreat.ptrs l).length + 1 = _; simp [hs], fun i av hi => ?_⟩
    cases i with
    | zero =>
      have e : AV.p k o = av := by have hi' : some (AV.p k o) = some av := hi; injection hi'
      subst e
      exact ⟨v, by simp, h1⟩
    | succ i =>
      obtain ⟨u, h3, h4⟩ := ih.at_ i av hi
      exact ⟨u, by simpa using h3, h4⟩
theorem run_callee {P : Program} {σ : List Nat} {A : List AV} {a : Act} (F : FRel σ A a.tmps) {o : Oper} {c : Call} (hop : o.op = .call c) {avs avs' : List AV} {f : FuncId} (hm : c.args.toList.mapM (evO A) = some avs) (hc : calleeOf A c avs = some (f, avs'))
    (hf : ∀ xs, quick P (callFunc f xs) = some (.enter f xs)) : ∃ vals : List Value, FRel σ avs' vals.toArray ∧ ∀ w, (execOp a.eval o).run P w = .ok (.enter f vals.toArray) w := by
  have Fa := mapM_evO F _ hm
  have hargs : c.args.map a.eval = (c.args.toList.map a.eval).toArray := by rw [← Array.toList_map]
  unfold calleeOf at hc
  split at hc
  · rename_i f' he; cases hc
    refine ⟨_, Fa, fun w => ?_⟩
    have := quick_run (hf (c.args.toList.map a.eval).toArray) w
    unfold execOp
    rw [hop]
    rw [← hargs] at this ⊢
    simp [resolve, he, Act.eval, Deferred.ofValue, invoke, Sem.run_bind, this]
  · rename_i d he
    split at hc
    · rename_i f' fs cs hd; cases hc
      obtain ⟨v, h1, fv, cv, h2, h3, h4⟩ := F.at_ d _ hd
      have hev : a.eval (.tmp d) = .func (.func f) fv.toArray cv.toArray := by show a.tmps.getD d undef = _; rw [Array.getD_eq_getD_getElem?, h1, ← h4]; rfl
      refine ⟨fv ++ c.args.toList.map a.eval ++ cv, ((FRel.ptrs h2).app Fa).app (FRel.ptrs h3), fun w => ?_⟩
      have := quick_run (hf (fv ++ c.args.toList.map a.eval ++ cv).toArray) w
      unfold execOp
      rw [hop]
      simp only [resolve, he, hev, hargs, Deferred.ofValue, Sem.run_bind, Sem.run_pure, Result.andThen_ok, invoke]
      rw [show fv.toArray ++ (c.args.toList.map a.eval).toArray ++ cv.toArray = (fv ++ c.args.toList.map a.eval ++ cv).toArray by simp]
      exact this
    · cases hc
  · cases hc
theorem run_lenOf {P : Program} {σ : List Nat} {A : List AV} {a : Act} (F : FRel σ A a.tmps) {o : Oper} {c : Call} (hop : o.op = .call c) {b : Builtin} (hb : c.callee = .builtin b) {n : Int} (h : lenOf A b c = some n) (ht : ((c.argTypes[0]?).bind fun t => (slcT P t)).isSome = true) (w : World) :
    (execOp a.eval o).run P w = .ok (.value (.int .i64 n)) w := by
  unfold lenOf at h
  split at h
  · rename_i d hargs
    split at h
    · rename_i k m hd; cases h
      obtain ⟨v, h1, bb, h2, h3⟩ := F.at_ d _ hd
      have hev : a.eval (.tmp d) = .slice (some ⟨bb, 0, none⟩) m m := by show a.tmps.getD d undef = _; rw [Array.getD_eq_getD_getElem?, h1, ← h3]; rfl
      have ha : c.args.map a.eval = #[.slice (some ⟨bb, 0, none⟩) m m] := by
        have : c.args = #[.tmp d] := by have := congrArg List.toArray hargs; simpa using this
        rw [this]; simp [hev]
      cases hat : c.argTypes[0]? with
      | none => rw [hat] at ht; cases ht
      | some t =>
        rw [hat] at ht
        have ht' : (slcT P t).isSome = true := ht
        unfold slcT at ht'
        split at ht'
        · rename_i e hu
          unfold execOp
          rw [hop]
          simp [resolve, hb, ha, invoke, builtin, Builtin.len_, hat, Sem.run_bind, run_underlying hu, goInt]
        · cases ht'
    · cases h
  · cases h
def evCall (P : Program) (E : Env) (A : List AV) (H : Hp) (c : Call) (ty : TypeId) : Option (Bool × AV) :=
  match c.callee with
  | .value (.func f) => evCallF E A H f c.args.toList
  | .value (.tmp _) => evCallC E A H c
  | .builtin b => match lenOf A b c with
    | some n => if ((c.argTypes[0]?).bind fun t => (slcT P t)).isSome = true then some (true, .d (.s (.x true (.int .i64 n)))) else none
    | none => (c.args.toList.mapM (dOf A)).bind fun vs =>
      match quick P (builtin b c.argTypes ty (c.args.map fun | .const _ => true | _ => false) (vs.map Dv.val).toArray) with
      | some (.value v) => (chV v (allSt vs)).map fun c => (true, .d (.s c))
      | _ => none
  | _ => none
theorem evCallF0_ok {P : Program} {E : Env} (hE : EnvOk P E) {X : Nat → Prop} {w0 : W0} {W : World} {σ : List Nat} {A : List AV} {H : Hp} {a : Act} (F : FRel σ A a.tmps) (M : MRel X w0 σ H W) {f : FuncId} {args : List Operand} {n : Bool} {av : AV}
    (h : evCallF0 E A H f args = some (n, av)) (hn : n = true) : ∃ v, VRel σ av v ∧ quick P (callFunc f (args.map a.eval).toArray) = some (.enter f (args.map a.eval).toArray) ∧
      ∀ w, Below W.heap.size W w → Calls P f (args.map a.eval).toArray w fun e w' => e = .returned v ∧ Below w.heap.size w w' := by
  unfold evCallF0 at h
  cases hm : args.mapM (dOf A) with
  | some vs =>
    rw [hm] at h
    obtain ⟨hf, v, hv, hg⟩ := hE.spec f vs n av h hn
    rw [mapM_dOf F _ hm]
    exact ⟨v, hv σ, hf _, fun w _ => hg w⟩
  | none =>
    rw [hm] at h
    simp only at h
    cases hl : args.getLast? with
    | none => rw [hl] at h; cases h
    | some x =>
      rw [hl] at h
      simp only at h
      split at h
      · rename_i k m ds hx hd
        split at h
        · rename_i bk hH
          obtain ⟨hf, v, hv, hg⟩ := hE.specL f ds m bk.cs n av h hn
          obtain ⟨b, hk, he⟩ := evO_ok F hx
          have hne : args ≠ [] := by intro e; rw [e] at hl; cases hl
          have ha : args.map a.eval = ds.map Dv.val ++ [Value.slice (some ⟨b, 0, none⟩) m m] := by
            have hx2 : args.getLast hne = x := by rw [List.getLast?_eq_some_getLast hne] at hl; injection hl
            rw [← List.dropLast_concat_getLast hne, List.map_append, mapM_dOf F _ hd, hx2]
            show _ ++ [a.eval x] = _
            rw [he]
          rw [ha]
          refine ⟨v, hv σ, hf _, fun w hb => hg w b bk.T ?_⟩
          have := M.blk k b bk hk hH
          exact (hb.block b (blk_lt this)).trans this
        · cases h
      · cases h
theorem evCallF_ok {P : Program} {E : Env} (hE : EnvOk P E) {X : Nat → Prop} {w0 : W0} {W : World} {σ : List Nat} {A : List AV} {H : Hp} {a : Act} (F : FRel σ A a.tmps) (M : MRel X w0 σ H W) {f : FuncId} {args : List Operand} {n : Bool} {av : AV}
    (h : evCallF E A H f args = some (n, av)) (hn : n = true) : ∃ v, VRel σ av v ∧ quick P (callFunc f (args.map a.eval).toArray) = some (.enter f (args.map a.eval).toArray) ∧
      ∀ w, Below W.heap.size W w → Calls P f (args.map a.eval).toArray w fun e w' => e = .returned v ∧ Below w.heap.size w w' := by
  unfold evCallF at h
  split at h
  · rename_i r hr
    cases h
    exact evCallF0_ok hE F M hr hn
  · split at h
    · rename_i avs hm
      obtain ⟨hf, hR⟩ := hE.specR f avs H n av h hn
      obtain ⟨v, hv, hc⟩ := hR X w0 σ W _ (mapM_evO F _ hm) M
      exact ⟨v, hv, hf _, hc⟩
    · cases h
theorem evCall_ok {P : Program} {E : Env} (hE : EnvOk P E) {X : Nat → Prop} {w0 : W0} {w : World} {σ : List Nat} {A : List AV} {H : Hp} {a : Act} (F : FRel σ A a.tmps) (M : MRel X w0 σ H w) {o : Oper} {c : Call} (hop : o.op = .call c) {n : Bool} {av : AV}
    (h : evCall P E A H c o.type = some (n, av)) (hn : n = true) {K : Act → World → Prop} {Q : Exit → Act → World → Prop}
    (hK : ∀ v w', VRel σ av v → Below w.heap.size w w' → K (a.put o.dst v) w') : o.wp P a w K Q := by
  unfold evCall at h
  unfold Oper.wp execOp
  rw [hop]
  simp only
  split at h
  · rename_i f hc
    obtain ⟨v, hv, hf, hg⟩ := evCallF_ok hE F M h hn
    have hargs : c.args.map a.eval = (c.args.toList.map a.eval).toArray := by rw [← Array.toList_map]
    have hrun : (do let d ← resolve a.eval c o.type; invoke d.target d.args : Sem Next).run P w = .ok (.enter f (c.args.toList.map a.eval).toArray) w := by
      have := quick_run hf w
      rw [← hargs] at this ⊢
      simp [resolve, hc, Act.eval, Deferred.ofValue, invoke, Sem.run_bind, this]
    rw [hrun]
    show Calls P f _ w _
    refine (hg w (Below.refl _ _)).mono ?_
    rintro e w' ⟨rfl, hb⟩
    exact hK v w' hv hb
  · rename_i d hc
    unfold evCallC at h
    split at h
    · rename_i avs hm
      split at h
      · rename_i f avs' hcal
        obtain ⟨hf, hR⟩ := hE.specR f avs' H n av h hn
        obtain ⟨vals, FV, hrun⟩ := run_callee F hop hm hcal hf
        obtain ⟨v, hv, hg⟩ := hR X w0 σ w _ FV M
        have := hrun w
        unfold execOp at this
        rw [hop] at this
        rw [this]
        show Calls P f _ w _
        refine (hg w (Below.refl _ _)).mono ?_
        rintro e w' ⟨rfl, hb⟩
        exact hK v w' hv hb
      · cases h
    · cases h
  · rename_i b hc
    split at h
    · rename_i n' hlen
      split at h
      · rename_i ht; cases h
        have := run_lenOf F hop hc hlen ht w
        unfold execOp at this
        rw [hop] at this
        rw [this]
        exact hK _ w rfl (Below.refl _ _)
      · cases h
    rename_i hlen
    clear hlen
    cases hm : c.args.toList.mapM (dOf A) with
    | none => rw [hm] at h; cases h
    | some vs =>
      rw [hm] at h
      have ha := mapM_dOf F _ hm
      have hargs : c.args.map a.eval = (vs.map Dv.val).toArray := by
        rw [← ha, ← Array.toList_map]
      have h' : (match quick P (builtin b c.argTypes o.type (c.args.map fun | .const _ => true | _ => false) (vs.map Dv.val).toArray) with
        | some (.value v) => (chV v (allSt vs)).map fun c => (true, AV.d (.s c))
        | _ => none) = some (n, av) := h
      split at h'
      · rename_i v hq
        cases hcv : chV v (allSt vs) with
        | none => rw [hcv] at h'; cases h'
        | some cc =>
          rw [hcv] at h'; cases h'
          have hrun : (do let d ← resolve a.eval c o.type; invoke d.target d.args : Sem Next).run P w = .ok (.value v) w := by
            have := quick_run hq w
            simp only [resolve, hc, hargs, Sem.run_bind, Sem.run_pure, Result.andThen_ok, invoke]
            exact this
          rw [hrun]
          exact hK v w (chV_ok hcv).1.symm (Below.refl _ _)
      · cases h'
  · cases h
theorem evCallM_ok {P : Program} {E : Env} (hE : EnvOk P E) {X : Nat → Prop} {w0 : W0} {w : World} {σ : List Nat} {A : List AV} {H : Hp} {S' : HS} {a : Act} (F : FRel σ A a.tmps) (M : MRel X w0 σ H w) {o : Oper} {c : Call} (hop : o.op = .call c) {n : Bool} {av : AV}
    (h : evCallM E A H c = some (n, av, S')) (hn : n = true) {K : Act → World → Prop} {Q : Exit → Act → World → Prop}
    (hK : ∀ v w', VRel σ av v → MRel X w0 σ ⟨H.bs, some S', H.rw, H.ro⟩ w' → K (a.put o.dst v) w') : o.wp P a w K Q := by
  unfold evCallM at h
  split at h
  · rename_i avs hm
    split at h
    · rename_i f avs' hcal
      obtain ⟨hf, hT⟩ := hE.specM f avs' H n av S' h hn
      obtain ⟨vals, FV, hrun⟩ := run_callee F hop hm hcal hf
      unfold Oper.wp
      rw [hrun w]
      show Calls P f _ w _
      refine (hT X w0 σ w _ FV M).mono ?_
      rintro e w' ⟨v, rfl, hv, hM⟩
      exact hK v w' hv hM
    · cases h
  · cases h
theorem evCallX_ok {P : Program} {E : Env} (hE : EnvOk P E) {X : Nat → Prop} {w0 : W0} {w : World} {σ : List Nat} {A : List AV} {H H' : Hp} {a : Act} (F : FRel σ A a.tmps) (M : MRel X w0 σ H w) {o : Oper} {c : Call} (hop : o.op = .call c) {n : Bool} {av : AV}
    (h : evCallX E A H c = some (n, av, H')) (hn : n = true) {K : Act → World → Prop} {Q : Exit → Act → World → Prop}
    (hK : ∀ v w', VRel σ av v → MRel X w0 σ H' w' → K (a.put o.dst v) w') : o.wp P a w K Q := by
  unfold evCallX at h
  split at h
  · rename_i r hr
    cases h
    exact evCallM_ok hE F M hop hr hn hK
  · split at h
    · rename_i avs hm
      split at h
      · rename_i f avs' hcal
        obtain ⟨hf, hT⟩ := hE.specX f avs' H n av H' h hn
        obtain ⟨vals, FV, hrun⟩ := run_callee F hop hm hcal hf
        unfold Oper.wp
        rw [hrun w]
        show Calls P f _ w _
        refine (hT X w0 σ w _ FV M).mono ?_
        rintro e w' ⟨v, rfl, hv, hM⟩
        exact hK v w' hv hM
      · cases h
    · cases h
end Go.Proofs.YtfehilinnalflaaGreat
namespace Go.Proofs.YtfehilinnalflaaGreat
open Go.RowKit Go.BigFrame
set_option linter.unusedSimpArgs false
set_option linter.unusedVariables false
set_option maxRecDepth 100000
inductive Tr where
  | fail
  | ret (vs : List Dv) (m : Option HS)
  | test (b : Bool) (y n : Tr)
  | need (b : Bool) (t : Tr)
  | both (a b : Tr)
def Tr.holds (R : List Dv → Option HS → Prop) : Tr → Prop
  | .fail => False
  | .ret vs m => R vs m
  | .test b y n => (b = true → y.holds R) ∧ (b = false → n.holds R)
  | .need b t => b = true ∧ t.holds R
  | .both a b => a.holds R ∧ b.holds R
def bothAll (f : Nat → Tr) (r : Nat) : List Nat → Tr
  | [] => f r
  | i :: l => .both (f r) (bothAll f i l)
theorem bothAll_ok {f : Nat → Tr} {R : List Dv → Option HS → Prop} : ∀ {l : List Nat} {r : Nat}, (bothAll f r l).holds R → ∀ i ∈ r :: l, (f i).holds R
  | [], r, h, i, hi => by have : i = r := by simpa using hi
                          subst this; exact h
  | j :: l, r, h, i, hi => by
    have h' : (f r).holds R ∧ (bothAll f j l).holds R := h
    rcases List.mem_cons.1 hi with rfl | hi
    · exact h'.1
    · exact bothAll_ok h'.2 i hi
def lit (b : Bool) : AV := .d (.s (.x true (.bool b)))
def evGuard (ops : Array Oper) (o : Oper) (A : List AV) (k : List AV → Bool → Tr) : Tr :=
  match o.guard with
  | none => k A true
  | some (j, want) => match (ops[j]?).bind (·.dst) with
    | none => .fail
    | some d => match A[d]? with
      | some (.d (.s (.x true (.bool b)))) => k A (b == want)
      | some (.d (.s (.x false (.bool b)))) => .test b (k (A.set d (lit true)) (true == want)) (k (A.set d (lit false)) (false == want))
      | some (.t _) => k A false
      | _ => .fail
theorem FRel.lit {σ : List Nat} {A : List AV} {tmps : Array Value} (F : FRel σ A tmps) {d : Nat} {s b : Bool} (h : A[d]? = some (.d (.s (.x s (.bool b))))) : FRel σ (A.set d (Go.Proofs.YtfehilinnalflaaGreat.lit b)) tmps := by
  refine ⟨by simp [F.size], fun i av hi => ?_⟩
  by_cases c : i = d
  · subst c
    have hl : i < A.length := (List.getElem?_eq_some_iff.1 h).1
    rw [List.getElem?_set_self hl] at hi
    cases hi
    obtain ⟨v, h1, h2⟩ := F.at_ i _ h
    exact ⟨v, h1, h2⟩
  · rw [List.getElem?_set_ne (fun e => c e.symm)] at hi
    exact F.at_ i av hi
theorem opt_beq (b want : Bool) : (some b == some want) = (b == want) := by cases b <;> cases want <;> rfl
theorem evGuard_ok {ops : Array Oper} {o : Oper} {σ : List Nat} {A : List AV} {tmps : Array Value} {k : List AV → Bool → Tr} {R : List Dv → Option HS → Prop} (F : FRel σ A tmps) (h : (evGuard ops o A k).holds R) :
    ∃ A' wn, FRel σ A' tmps ∧ Region.wanted o (yielded ops tmps) = wn ∧ (k A' wn).holds R := by
  unfold evGuard at h
  unfold Region.wanted
  cases hg : o.guard with
  | none => rw [hg] at h; exact ⟨A, true, F, rfl, h⟩
  | some jw =>
    obtain ⟨j, want⟩ := jw
    rw [hg] at h
    simp only at h ⊢
    cases hd : (ops[j]?).bind (·.dst) with
    | none => rw [hd] at h; exact h.elim
    | some d =>
      rw [hd] at h
      simp only at h
      unfold yielded
      rw [hd]
      have yb : (some d).bind (fun x => tmps[x]?) = tmps[d]? := rfl
      split at h
      · rename_i b ha
        obtain ⟨v, h1, h2⟩ := F.at_ d _ ha
        have h2' : v = .bool b := h2
        subst h2'
        refine ⟨A, b == want, F, ?_, h⟩
        rw [yb, h1]; exact opt_beq b want
      · rename_i b ha
        obtain ⟨v, h1, h2⟩ := F.at_ d _ ha
        have h2' : v = .bool b := h2
        subst h2'
        cases b
        · refine ⟨_, _, F.lit ha, ?_, h.2 rfl⟩
          rw [yb, h1]; exact opt_beq false want
        · refine ⟨_, _, F.lit ha, ?_, h.1 rfl⟩
          rw [yb, h1]; exact opt_beq true want
      · rename_i vs ha
        obtain ⟨v, h1, h2⟩ := F.at_ d _ ha
        have h2' : v = .tuple (vs.map Dv.val).toArray := h2
        subst h2'
        refine ⟨A, false, F, ?_, h⟩
        simp [h1]
      · exact h.elim
def evSplit (P : Program) (A : List AV) (o : Op) : Option (Int × Nat × (Nat → AV)) :=
  match o with
  | .indexAddr t x ix => match evO A x, dOf A ix with
    | some (.p k off), some (.s c) => match arrT P t, idx c with
      | some (n, es), some (_, i) => some (i, n, fun j => .p k (off + j * es))
      | _, _ => none
    | _, _ => none
  | _ => none
theorem evSplit_ok {P : Program} {σ : List Nat} {A : List AV} {a : Act} (F : FRel σ A a.tmps) {o : Oper} {i : Int} {n : Nat} {g : Nat → AV} (h : evSplit P A o.op = some (i, n, g)) (h0 : 0 ≤ i) (h1 : i < n) :
    ∃ v, VRel σ (g i.toNat) v ∧ ∀ w, (execOp a.eval o).run P w = .ok (.value v) w := by
  unfold evSplit at h
  split at h
  · rename_i t x ix hop
    split at h
    · rename_i k off c hx hi
      split at h
      · rename_i m es st j ha hc
        cases h
        obtain ⟨kk, hci⟩ := idx_ok hc
        obtain ⟨b, hk, he⟩ := evO_ok F hx
        have ri : a.eval ix = .int kk i := by rw [dOf_ok F hi]; exact hci
        refine ⟨_, ⟨b, hk, rfl⟩, fun w => ?_⟩
        unfold execOp
        rw [hop]
        simp only [he, ri]
        exact run_val (run_indexAt ha b off kk i h0 h1 w)
      · cases h
    · cases h
  · cases h
def splitT (i : Int) (f : Nat → Tr) : Nat → Nat → Tr
  | _, 0 => .fail
  | j, 1 => f j
  | j, m + 2 => .test (decide (i = (j : Int))) (f j) (splitT i f (j + 1) (m + 1))
theorem splitT_ok {i : Int} {f : Nat → Tr} {R : List Dv → Option HS → Prop} : ∀ (m j : Nat), (splitT i f j m).holds R → (j : Int) ≤ i → i < (j : Int) + m → (f i.toNat).holds R
  | 0, j, h, _, _ => h.elim
  | 1, j, h, h1, h2 => by
    have e : i.toNat = j := by omega
    rw [e]; exact h
  | m + 2, j, h, h1, h2 => by
    have h' : (decide (i = (j : Int)) = true → (f j).holds R) ∧ (decide (i = (j : Int)) = false → (splitT i f (j + 1) (m + 1)).holds R) := h
    by_cases e : i = (j : Int)
    · have e' : i.toNat = j := by omega
      rw [e']; exact h'.1 (decide_eq_true e)
    · exact splitT_ok (m + 1) (j + 1) (h'.2 (decide_eq_false e)) (by omega) (by omega)
def evLq (P : Program) (E : Env) (ops : Array Oper) (H : Hp) (k : List AV → Tr) : List Oper → List AV → Tr
  | [], A => k A
  | o :: rest, A => evGuard ops o A fun A wn => match wn with
    | false => evLq P E ops H k rest (putA A o.dst (.t []))
    | true => match o.op with
      | .call c => match evCall P E A H c o.type with
        | some (n, av) => .need n (evLq P E ops H k rest (putA A o.dst av))
        | none => .fail
      | op => match evPure P E.zt A H op with
        | some (n, av) => .need n (evLq P E ops H k rest (putA A o.dst av))
        | none => match evSplit P A op with
          | some (i, n, g) => .need (decide (0 ≤ i) && decide (i < n)) (splitT i (fun j => evLq P E ops H k rest (putA A o.dst (g j))) 0 n)
          | none => .fail
def evL (P : Program) (E : Env) (ops : Array Oper) (k : List AV → Hp → Tr) : List Oper → List AV → Hp → Tr
  | [], A, H => k A H
  | o :: rest, A, H => evGuard ops o A fun A wn => match wn with
    | false => evL P E ops k rest (putA A o.dst (.t [])) H
    | true => match o.op with
      | .call c => match evCall P E A H c o.type with
        | some (n, av) => .need n (evL P E ops k rest (putA A o.dst av) H)
        | none => match evCallX E A H c with
          | some (n, av, H') => .need n (evL P E ops k rest (putA A o.dst av) H')
          | none => .fail
      | op => match evMem P E A H op with
        | some (av, H') => evL P E ops k rest (putA A o.dst av) H'
        | none => match evPure P E.zt A H op with
          | some (n, av) => .need n (evL P E ops k rest (putA A o.dst av) H)
          | none => match evSplit P A op with
            | some (i, n, g) => .need (decide (0 ≤ i) && decide (i < n)) (splitT i (fun j => evL P E ops k rest (putA A o.dst (g j)) H) 0 n)
            | none => .fail
theorem wp_value {P : Program} {o : Oper} {a : Act} {w w' : World} {K : Act → World → Prop} {Q : Exit → Act → World → Prop} {v : Value} (h : (execOp a.eval o).run P w = .ok (.value v) w') (hK : K (a.put o.dst v) w') : o.wp P a w K Q := by
  unfold Oper.wp; rw [h]; exact hK
theorem wp_skip' {P : Program} {o : Oper} {a : Act} {w w' : World} {K : Act → World → Prop} {Q : Exit → Act → World → Prop} (h : (execOp a.eval o).run P w = .ok .skip w') (hK : K (a.put o.dst undef) w') : o.wp P a w K Q := by
  unfold Oper.wp; rw [h]; exact hK
theorem evL_ok {P : Program} {E : Env} (hE : EnvOk P E) {X : Nat → Prop} {w0 : W0} {ops : Array Oper} {k : List AV → Hp → Tr} {R : List Dv → Option HS → Prop} {Q : Exit → Act → World → Prop} {ds : List Deferred}
    (hk : ∀ σ A H a w, FRel σ A a.tmps → a.defers = ds → MRel X w0 σ H w → (k A H).holds R → Q .normal a w) :
    ∀ (l : List Oper) (σ : List Nat) (A : List AV) (H : Hp) (a : Act) (w : World), FRel σ A a.tmps → a.defers = ds → MRel X w0 σ H w → (evL P E ops k l A H).holds R → wpList P ops Q l a w
  | [], σ, A, H, a, w, F, hd, M, h => hk σ A H a w F hd M h
  | o :: rest, σ, A, H, a, w, F, hd, M, h => by
    have ih := evL_ok (ops := ops) hE hk rest
    unfold evL at h
    obtain ⟨A', wn, F', hw, h'⟩ := evGuard_ok F h
    unfold wpList
    cases wn with
    | false =>
      rw [if_neg (by rw [hw]; decide)]
      exact ih σ _ H _ w (F'.put (av := .t []) (v := undef) o.dst rfl) (by rw [put_defers]; exact hd) M h'
    | true =>
      rw [if_pos hw]
      refine .inl ?_
      simp only at h'
      have main : ∀ op, op = o.op → (match evMem P E A' H op with
          | some (av, H') => evL P E ops k rest (putA A' o.dst av) H'
          | none => match evPure P E.zt A' H op with
            | some (n, av) => Tr.need n (evL P E ops k rest (putA A' o.dst av) H)
            | none => match evSplit P A' op with
              | some (i, n, g) => Tr.need (decide (0 ≤ i) && decide (i < n)) (splitT i (fun j => evL P E ops k rest (putA A' o.dst (g j)) H) 0 n)
              | none => Tr.fail).holds R → o.wp P a w (wpList P ops Q rest) Q := by
        intro op hop h'
        subst hop
        cases hm : evMem P E A' H o.op with
        | some r =>
          obtain ⟨av, H'⟩ := r
          rw [hm] at h'
          obtain ⟨σ', v, w', hrun, hv, M', hσ⟩ := evMem_ok hE F' M hm
          have F2 : FRel σ' A' a.tmps := by
            rcases hσ with rfl | ⟨b, rfl⟩
            · exact F'
            · exact F'.more b
          have fin := ih σ' _ H' (a.put o.dst v) w' (F2.put o.dst hv) (by rw [put_defers]; exact hd) M' h'
          rcases hrun with hrun | ⟨hrun, rfl⟩
          · exact wp_value hrun fin
          · exact wp_skip' hrun fin
        | none =>
          rw [hm] at h'
          simp only at h'
          cases hp : evPure P E.zt A' H o.op with
          | none =>
            rw [hp] at h'
            simp only at h'
            cases hs : evSplit P A' o.op with
            | none => rw [hs] at h'; exact h'.elim
            | some r =>
              obtain ⟨i, n, g⟩ := r
              rw [hs] at h'
              obtain ⟨hn, h2⟩ := h'
              rw [Bool.and_eq_true, decide_eq_true_eq, decide_eq_true_eq] at hn
              obtain ⟨v, hv, hrun⟩ := evSplit_ok F' hs hn.1 hn.2
              exact wp_value (hrun w) (ih σ _ H _ w (F'.put o.dst hv) (by rw [put_defers]; exact hd) M (splitT_ok n 0 h2 (by simpa using hn.1) (by simpa using hn.2)))
          | some r =>
            obtain ⟨n, av⟩ := r
            rw [hp] at h'
            obtain ⟨hn, h2⟩ := h'
            obtain ⟨v, hv, hrun⟩ := evPure_ok hE.zt F' M hp hn
            exact wp_value hrun (ih σ _ H _ w (F'.put o.dst hv) (by rw [put_defers]; exact hd) M h2)
      cases hop : o.op with
      | call c =>
        rw [hop] at h'
        simp only at h'
        cases hc : evCall P E A' H c o.type with
        | none =>
          rw [hc] at h'
          simp only at h'
          cases hx : evCallX E A' H c with
          | none => rw [hx] at h'; exact h'.elim
          | some r =>
            obtain ⟨n, av, H'⟩ := r
            rw [hx] at h'
            obtain ⟨hn, h2⟩ := h'
            exact evCallX_ok hE F' M hop hx hn fun v w' hv hM => ih σ _ H' _ w' (F'.put o.dst hv) (by rw [put_defers]; exact hd) hM h2
        | some r =>
          obtain ⟨n, av⟩ := r
          rw [hc] at h'
          obtain ⟨hn, h2⟩ := h'
          exact evCall_ok hE F' M hop hc hn fun v w' hv hb => ih σ _ H _ w' (F'.put o.dst hv) (by rw [put_defers]; exact hd) (M.step hb) h2
      | _ => rw [hop] at h'; exact main _ hop.symm h'
theorem evCall_quiet {P : Program} {E : Env} (hE : EnvOk P E) {X : Nat → Prop} {w0 : W0} {W : World} {σ : List Nat} {A : List AV} {H : Hp} {a : Act} (F : FRel σ A a.tmps) (M : MRel X w0 σ H W) {o : Oper} {c : Call} (hop : o.op = .call c) {n : Bool} {av : AV}
    (h : evCall P E A H c o.type = some (n, av)) (hn : n = true) : ∃ v, VRel σ av v ∧ ∀ w, Below W.heap.size W w → o.quietAt P a (fun w' => Below W.heap.size W w') w v := by
  unfold evCall at h
  split at h
  · rename_i f hc
    obtain ⟨v, hv, hf, hg⟩ := evCallF_ok hE F M h hn
    have hargs : c.args.map a.eval = (c.args.toList.map a.eval).toArray := by rw [← Array.toList_map]
    refine ⟨v, hv, fun w hw => ?_⟩
    have hrun : (execOp a.eval o).run P w = .ok (.enter f (c.args.toList.map a.eval).toArray) w := by
      have := quick_run hf w
      unfold execOp
      rw [hop]
      rw [← hargs] at this ⊢
      simp [resolve, hc, Act.eval, Deferred.ofValue, invoke, Sem.run_bind, this]
    unfold Oper.quietAt
    rw [hrun]
    exact ⟨rfl, (hg w hw).mono fun e w' ⟨h1, h2⟩ => ⟨h1, hw.trans (h2.mono hw.size)⟩⟩
  · rename_i d hc
    unfold evCallC at h
    split at h
    · rename_i avs hm
      split at h
      · rename_i f avs' hcal
        obtain ⟨hf, hR⟩ := hE.specR f avs' H n av h hn
        obtain ⟨vals, FV, hrun⟩ := run_callee F hop hm hcal hf
        obtain ⟨v, hv, hg⟩ := hR X w0 σ W _ FV M
        refine ⟨v, hv, fun w hw => ?_⟩
        unfold Oper.quietAt
        rw [hrun w]
        exact ⟨rfl, (hg w hw).mono fun e w' ⟨h1, h2⟩ => ⟨h1, hw.trans (h2.mono hw.size)⟩⟩
      · cases h
    · cases h
  · rename_i b hc
    split at h
    · rename_i n' hlen
      split at h
      · rename_i ht; cases h
        refine ⟨_, rfl, fun w hw => ?_⟩
        unfold Oper.quietAt
        rw [run_lenOf F hop hc hlen ht w]
        exact ⟨rfl, rfl⟩
      · cases h
    rename_i hlen
    clear hlen
    cases hm : c.args.toList.mapM (dOf A) with
    | none => rw [hm] at h; cases h
    | some vs =>
      rw [hm] at h
      have ha := mapM_dOf F _ hm
      have hargs : c.args.map a.eval = (vs.map Dv.val).toArray := by
        rw [← ha, ← Array.toList_map]
      have h' : (match quick P (builtin b c.argTypes o.type (c.args.map fun | .const _ => true | _ => false) (vs.map Dv.val).toArray) with
        | some (.value v) => (chV v (allSt vs)).map fun c => (true, AV.d (.s c))
        | _ => none) = some (n, av) := h
      split at h'
      · rename_i v hq
        cases hcv : chV v (allSt vs) with
        | none => rw [hcv] at h'; cases h'
        | some cc =>
          rw [hcv] at h'; cases h'
          refine ⟨v, (chV_ok hcv).1.symm, fun w hw => ?_⟩
          have hrun : (execOp a.eval o).run P w = .ok (.value v) w := by
            have := quick_run hq w
            unfold execOp
            rw [hop]
            simp only [resolve, hc, hargs, Sem.run_bind, Sem.run_pure, Result.andThen_ok, invoke]
            exact this
          unfold Oper.quietAt
          rw [hrun]
          exact ⟨rfl, rfl⟩
      · cases h'
  · cases h
theorem evLq_ok {P : Program} {E : Env} (hE : EnvOk P E) {X : Nat → Prop} {w0 : W0} {W : World} {ops : Array Oper} {H : Hp} {σ : List Nat} (M : MRel X w0 σ H W) {k : List AV → Tr} {R : List Dv → Option HS → Prop} {K : Act → Prop} {ds : List Deferred}
    (hk : ∀ A a, FRel σ A a.tmps → a.defers = ds → (k A).holds R → K a) :
    ∀ (l : List Oper) (A : List AV) (a : Act), FRel σ A a.tmps → a.defers = ds → (evLq P E ops H k l A).holds R → wpQuiet P ops (fun w' => Below W.heap.size W w') K l a
  | [], A, a, F, hd, h => hk A a F hd h
  | o :: rest, A, a, F, hd, h => by
    have ih := evLq_ok (ops := ops) hE M hk rest
    unfold evLq at h
    obtain ⟨A', wn, F', hw, h'⟩ := evGuard_ok F h
    unfold wpQuiet
    cases wn with
    | false =>
      rw [if_neg (by rw [hw]; decide)]
      exact ih _ _ (F'.put (av := .t []) (v := undef) o.dst rfl) (by rw [put_defers]; exact hd) h'
    | true =>
      rw [if_pos hw]
      simp only at h'
      have main : ∀ op, op = o.op → (match evPure P E.zt A' H op with
            | some (n, av) => Tr.need n (evLq P E ops H k rest (putA A' o.dst av))
            | none => match evSplit P A' op with
              | some (i, n, g) => Tr.need (decide (0 ≤ i) && decide (i < n)) (splitT i (fun j => evLq P E ops H k rest (putA A' o.dst (g j))) 0 n)
              | none => Tr.fail).holds R → o.quiet P a (fun w' => Below W.heap.size W w') (wpQuiet P ops (fun w' => Below W.heap.size W w') K rest) := by
        intro op hop h'
        subst hop
        cases hp : evPure P E.zt A' H o.op with
        | none =>
          rw [hp] at h'
          simp only at h'
          cases hs : evSplit P A' o.op with
          | none => rw [hs] at h'; exact h'.elim
          | some r =>
            obtain ⟨i, n, g⟩ := r
            rw [hs] at h'
            obtain ⟨hn, h2⟩ := h'
            rw [Bool.and_eq_true, decide_eq_true_eq, decide_eq_true_eq] at hn
            obtain ⟨v, hv, hrun⟩ := evSplit_ok F' hs hn.1 hn.2
            refine ⟨v, fun w hb => ?_, ih _ _ (F'.put o.dst hv) (by rw [put_defers]; exact hd) (splitT_ok n 0 h2 (by simpa using hn.1) (by simpa using hn.2))⟩
            unfold Oper.quietAt
            rw [hrun w]
            exact ⟨rfl, rfl⟩
        | some r =>
          obtain ⟨n, av⟩ := r
          rw [hp] at h'
          obtain ⟨hn, h2⟩ := h'
          obtain ⟨v, hv, _⟩ := evPure_ok hE.zt F' M hp hn
          refine ⟨v, fun w hb => ?_, ih _ _ (F'.put o.dst hv) (by rw [put_defers]; exact hd) h2⟩
          obtain ⟨v2, hv2, hrun⟩ := evPure_ok hE.zt F' (M.step hb) hp hn
          unfold Oper.quietAt
          rw [hrun]
          exact ⟨rfl, VRel.fun hv2 hv⟩
      cases hop : o.op with
      | call c =>
        rw [hop] at h'
        simp only at h'
        cases hc : evCall P E A' H c o.type with
        | none => rw [hc] at h'; exact h'.elim
        | some r =>
          obtain ⟨n, av⟩ := r
          rw [hc] at h'
          obtain ⟨hn, h2⟩ := h'
          obtain ⟨v, hv, hq⟩ := evCall_quiet hE F' M hop hc hn
          exact ⟨v, hq, ih _ _ (F'.put o.dst hv) (by rw [put_defers]; exact hd) h2⟩
      | _ => rw [hop] at h'; exact main _ hop.symm h'
end Go.Proofs.YtfehilinnalflaaGreat
