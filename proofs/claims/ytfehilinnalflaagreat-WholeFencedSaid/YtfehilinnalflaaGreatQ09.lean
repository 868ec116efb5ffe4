/- Part 9 of the texts behind the law: contracts and lemmas, each proved; no condition but what each names. -/
import Derived.Deep.RegionHeld3
import Derived.Scope
import Derived.Test.YtfehilinnalflaaGreatQ02
import Derived.Test.YtfehilinnalflaaGreatQ08
namespace Go.Proofs.YtfehilinnalflaaGreat
open Go.RowKit Go.BigFrame
set_option linter.unusedSimpArgs false
set_option linter.unusedVariables false
set_option maxRecDepth 100000
def canTake (n0 : Nat) (tch : Nat → Bool) (A : List AV) : Op → Bool
  | .load _ x => match evO A x with
    | some (.p k _) => decide (k < n0) && !tch k
    | some (.q k _ _ _) => decide (k < n0) && !tch k
    | _ => false
  | .call _ => false
  | .alloc _ => false
  | .box _ _ => false
  | .store _ _ _ => false
  | .buildSlice _ _ _ => false
  | _ => true
def stOk (n0 : Nat) (tch : Nat → Bool) (A : List AV) : Op → Bool
  | .store _ x _ => match evO A x with
    | some (.p k _) => tch k || decide (n0 ≤ k)
    | some (.q k _ _ _) => tch k || decide (n0 ≤ k)
    | _ => false
  | _ => true
def evOne (P : Program) (E : Env) (o : Oper) (A : List AV) (H : Hp) (k : List AV → Hp → Tr) : Tr :=
  match o.op with
  | .call c => match evCall P E A H c o.type with
    | some (n, av) => .need n (k (putA A o.dst av) H)
    | none => match evCallM E A H c with
      | some (n, av, S') => .need n (k (putA A o.dst av) ⟨H.bs, some S', H.rw, H.ro⟩)
      | none => .fail
  | op => match evMem P E A H op with
    | some (av, H') => k (putA A o.dst av) H'
    | none => match evPure P E.zt A H op with
      | some (n, av) => .need n (k (putA A o.dst av) H)
      | none => .fail
def swapN (i j k : Nat) : Nat := if k = i then j else if k = j then i else k
def swp {α : Type} (l : List α) (i j : Nat) : List α :=
  match l[i]?, l[j]? with
  | some a, some b => (l.set i b).set j a
  | _, _ => l
theorem swp_len {α : Type} (l : List α) (i j : Nat) : (swp l i j).length = l.length := by
  unfold swp
  split
  · simp
  · rfl
theorem swp_get {α : Type} {l : List α} {i j : Nat} (hi : i < l.length) (hj : j < l.length) (hne : i ≠ j) (k : Nat) : (swp l i j)[swapN i j k]? = l[k]? := by
  unfold swp
  rw [List.getElem?_eq_getElem hi, List.getElem?_eq_getElem hj]
  simp only
  unfold swapN
  by_cases h1 : k = i
  · subst h1
    rw [if_pos rfl, List.getElem?_set_self (by simpa using hj), List.getElem?_eq_getElem hi]
  · rw [if_neg h1]
    by_cases h2 : k = j
    · subst h2
      rw [if_pos rfl, List.getElem?_set_ne (fun e => hne e.symm), List.getElem?_set_self hi, List.getElem?_eq_getElem hj]
    · rw [if_neg h2, List.getElem?_set_ne (fun e => h2 e.symm), List.getElem?_set_ne (fun e => h1 e.symm)]
theorem swapN_inv (i j k : Nat) (hne : i ≠ j) : swapN i j (swapN i j k) = k := by
  unfold swapN
  by_cases h1 : k = i
  · subst h1; rw [if_pos rfl, if_neg (fun e => hne e.symm), if_pos rfl]
  · rw [if_neg h1]
    by_cases h2 : k = j
    · subst h2; rw [if_pos rfl, if_pos rfl]
    · rw [if_neg h2, if_neg h1, if_neg h2]
def swapL (i j : Nat) (l : List (Nat × Nat)) : List (Nat × Nat) := l.map fun x => (swapN i j x.1, x.2)
def AV.swap (i j : Nat) : AV → AV
  | .p k o => .p (swapN i j k) o
  | .q k base n x => .q (swapN i j k) base n x
  | .l k n => .l (swapN i j k) n
  | .c f fs cs => .c f (swapL i j fs) (swapL i j cs)
  | av => av
theorem CRel.swap {σ : List Nat} {i j : Nat} (hi : i < σ.length) (hj : j < σ.length) (hne : i ≠ j) : ∀ {l : List (Nat × Nat)} {vs : List Value}, CRel σ l vs → CRel (swp σ i j) (swapL i j l) vs
  | [], [], _ => trivial
  | [], _ :: _, h => h.elim
  | (_, _) :: _, [], h => h.elim
  | (k, o) :: l, v :: vs, ⟨⟨b, h1, h2⟩, h⟩ => ⟨⟨b, (swp_get hi hj hne k).trans h1, h2⟩, h.swap hi hj hne⟩
theorem VRel.swap {σ : List Nat} {i j : Nat} (hi : i < σ.length) (hj : j < σ.length) (hne : i ≠ j) {av : AV} {v : Value} (h : VRel σ av v) : VRel (swp σ i j) (av.swap i j) v := by
  cases av with
  | d x => exact h
  | t vs => exact h
  | p k o => obtain ⟨b, h1, h2⟩ := h; exact ⟨b, (swp_get hi hj hne k).trans h1, h2⟩
  | q k base n x => obtain ⟨b, h1, h2⟩ := h; exact ⟨b, (swp_get hi hj hne k).trans h1, h2⟩
  | l k n => obtain ⟨b, h1, h2⟩ := h; exact ⟨b, (swp_get hi hj hne k).trans h1, h2⟩
  | c f fs cs => obtain ⟨fv, cv, h1, h2, h3⟩ := h; exact ⟨fv, cv, h1.swap hi hj hne, h2.swap hi hj hne, h3⟩
theorem FRel.swap {σ : List Nat} {i j : Nat} (hi : i < σ.length) (hj : j < σ.length) (hne : i ≠ j) {A : List AV} {tmps : Array Value} (h : FRel σ A tmps) : FRel (swp σ i j) (A.map (AV.swap i j)) tmps := by
  refine ⟨by simp [h.size], fun k av hk => ?_⟩
  rw [List.getElem?_map] at hk
  cases ha : A[k]? with
  | none => rw [ha] at hk; cases hk
  | some av0 =>
    rw [ha] at hk; cases hk
    obtain ⟨v, h1, h2⟩ := h.at_ k av0 ha
    exact ⟨v, h1, h2.swap hi hj hne⟩
def Hp.swap (i j : Nat) (H : Hp) : Hp := ⟨swp H.bs i j, H.m, H.rw, H.ro⟩
theorem MRel.swap {X : Nat → Prop} {w0 : W0} {σ : List Nat} {H : Hp} {w : World} (M : MRel X w0 σ H w) {i j : Nat} (hi : i < σ.length) (hj : j < σ.length) (hne : i ≠ j) (i1 : w0.σ.length ≤ i) (j1 : w0.σ.length ≤ j) (i2 : w0.ts.length ≤ i) (j2 : w0.ts.length ≤ j) (i3 : H.ro ≤ i) (j3 : H.ro ≤ j) :
    MRel X w0 (swp σ i j) (H.swap i j) w := by
  have hi' : i < H.bs.length := by rw [← M.len]; exact hi
  have hj' : j < H.bs.length := by rw [← M.len]; exact hj
  have gσ : ∀ k : Nat, (swp σ i j)[k]? = σ[swapN i j k]? := fun k => by have := swp_get hi hj hne (swapN i j k); rw [swapN_inv i j k hne] at this; exact this
  have gH : ∀ k : Nat, (swp H.bs i j)[k]? = H.bs[swapN i j k]? := fun k => by have := swp_get hi' hj' hne (swapN i j k); rw [swapN_inv i j k hne] at this; exact this
  have low : ∀ m k : Nat, m ≤ i → m ≤ j → k < m → swapN i j k = k := fun m k h1 h2 h3 => by unfold swapN; rw [if_neg (by omega), if_neg (by omega)]
  have high : ∀ m k : Nat, m ≤ i → m ≤ j → m ≤ k → m ≤ swapN i j k := fun m k h1 h2 h3 => by
    unfold swapN
    split
    · exact h2
    · split
      · exact h1
      · exact h3
  refine ⟨M.fr, fun k b hk hr => ?_, fun k b hk => ?_, by show (swp σ i j).length = (swp H.bs i j).length; rw [swp_len, swp_len]; exact M.len, fun k b bk h1 h2 => ?_, fun a b c h1 h2 => ?_, fun S hS => ?_, M.rwk, fun k T hT => ?_⟩
  · rw [gσ] at hk
    exact M.own _ b hk (high H.ro k i3 j3 hr)
  · have hl := (List.getElem?_eq_some_iff.1 hk).1
    rw [gσ, low _ k i1 j1 hl]; exact M.pre k b hk
  · rw [gσ] at h1
    have h2' : (swp H.bs i j)[k]? = some bk := h2
    rw [gH] at h2'
    exact M.blk _ b bk h1 h2'
  · rw [gσ] at h1 h2
    have := M.inj _ _ c h1 h2
    have h3 := congrArg (swapN i j) this
    rwa [swapN_inv i j a hne, swapN_inv i j b hne] at h3
  · obtain ⟨F, f1, f2, f3⟩ := M.mach S hS
    exact ⟨F, f1, f2, fun k b hk => f3 _ b (by rw [gσ] at hk; exact hk)⟩
  · have hl := (List.getElem?_eq_some_iff.1 hT).1
    obtain ⟨bk, h1, h2⟩ := M.ty k T hT
    exact ⟨bk, by show (swp H.bs i j)[k]? = _; rw [gH, low _ k i2 j2 hl]; exact h1, h2⟩
def firstNew (n0 : Nat) : List AV → Option Nat
  | [] => none
  | .p k _ :: A => if n0 ≤ k then some k else firstNew n0 A
  | _ :: A => firstNew n0 A
def finR (n0 : Nat) (k : List AV → Hp → Tr) (A : List AV) (H : Hp) : Tr :=
  match decide (firstNew n0 A = some (n0 + 1)) && decide (H.bs.length = n0 + 2) && decide (H.ro ≤ n0) with
  | true => k (A.map (AV.swap n0 (n0 + 1))) (H.swap n0 (n0 + 1))
  | false => k A H
theorem MRel.pre_len {X : Nat → Prop} {w0 : W0} {σ : List Nat} {H : Hp} {w : World} (M : MRel X w0 σ H w) : w0.σ.length ≤ H.bs.length ∧ w0.ts.length ≤ H.bs.length := by
  refine ⟨?_, ?_⟩
  · by_cases c : w0.σ.length = 0
    · omega
    · have h1 : w0.σ.length - 1 < w0.σ.length := by omega
      have := M.pre _ _ (List.getElem?_eq_getElem h1)
      have := (List.getElem?_eq_some_iff.1 this).1
      rw [M.len] at this
      omega
  · by_cases c : w0.ts.length = 0
    · omega
    · have h1 : w0.ts.length - 1 < w0.ts.length := by omega
      obtain ⟨bk, h2, _⟩ := M.ty _ _ (List.getElem?_eq_getElem h1)
      have := (List.getElem?_eq_some_iff.1 h2).1
      omega
theorem finR_ok {X : Nat → Prop} {w0 : W0} {n0 : Nat} (hw : w0.σ.length ≤ n0 ∧ w0.ts.length ≤ n0) {k : List AV → Hp → Tr} {R : List Dv → Option HS → Prop} {ds : List Deferred} {Q : Act → World → Prop}
    (hk : ∀ σ A H a w, FRel σ A a.tmps → a.defers = ds → MRel X w0 σ H w → (k A H).holds R → Q a w) {σ : List Nat} {A : List AV} {H : Hp} {a : Act} {w : World} (F : FRel σ A a.tmps) (hd : a.defers = ds) (M : MRel X w0 σ H w) (h : (finR n0 k A H).holds R) : Q a w := by
  unfold finR at h
  split at h
  · rename_i hc
    simp only [Bool.and_eq_true, decide_eq_true_eq] at hc
    obtain ⟨⟨_, hl⟩, hr⟩ := hc
    have hi : n0 < σ.length := by rw [M.len]; omega
    have hj : n0 + 1 < σ.length := by rw [M.len]; omega
    exact hk _ _ _ a w (F.swap hi hj (by omega)) hd (M.swap hi hj (by omega) hw.1 (by omega) hw.2 (by omega) hr (by omega)) h
  · exact hk σ A H a w F hd M h
def evR (P : Program) (E : Env) (ops : Array Oper) (n0 : Nat) (tch : Nat → Bool) (k : List AV → Hp → Tr) : Nat → Array Bool → List AV → Hp → Tr
  | 0, listed, A, H => match Region.ready .any ops listed with
    | [] => finR n0 k A H
    | _ => .fail
  | f + 1, listed, A, H => match Region.ready .any ops listed with
    | [] => finR n0 k A H
    | r :: rs => match (r :: rs).find? (fun i => match ops[i]? with | some o => canTake n0 tch A o.op && Region.free .any ops listed i | none => false) with
      | some i => match ops[i]? with
        | none => .fail
        | some o => evGuard ops o A fun A wn => match wn with
          | false => evR P E ops n0 tch k f (listed.setIfInBounds i true) (putA A o.dst (.t [])) H
          | true => match canTake n0 tch A o.op with
            | false => .fail
            | true => match evPure P E.zt A H o.op with
              | some (n, av) => .need n (evR P E ops n0 tch k f (listed.setIfInBounds i true) (putA A o.dst av) H)
              | none => .fail
      | none => bothAll (fun r => match ops[r]? with
          | none => .fail
          | some o => evGuard ops o A fun A wn => match wn with
            | false => evR P E ops n0 tch k f (listed.setIfInBounds r true) (putA A o.dst (.t [])) H
            | true => match stOk n0 tch A o.op with
              | false => .fail
              | true => evOne P E o A H fun A H => evR P E ops n0 tch k f (listed.setIfInBounds r true) A H) r rs
def Keeps (n0 : Nat) (tch : Nat → Bool) (σ0 : List Nat) (H0 : Hp) (σ : List Nat) (H : Hp) : Prop := ∀ k, k < n0 → tch k = false → σ[k]? = σ0[k]? ∧ H.bs[k]? = H0.bs[k]?
def SW (n0 : Nat) (tch : Nat → Bool) (σ0 : List Nat) (H0 : Hp) (w : World) : Prop := ∀ k b bk, k < n0 → tch k = false → σ0[k]? = some b → H0.bs[k]? = some bk → w.heap[b]? = some (.cells (flat bk.cs).toArray bk.T (0, 0))
theorem SW.of {n0 : Nat} {tch : Nat → Bool} {σ0 σ : List Nat} {H0 H : Hp} {X : Nat → Prop} {w0 : W0} {w : World} (M : MRel X w0 σ H w) (K : Keeps n0 tch σ0 H0 σ H) : SW n0 tch σ0 H0 w := by
  intro k b bk hk ht h1 h2
  obtain ⟨e1, e2⟩ := K k hk ht
  exact M.blk k b bk (e1.trans h1) (e2.trans h2)
theorem evMem_keeps {P : Program} {E : Env} {A : List AV} {H H' : Hp} {o : Op} {av : AV} {n0 : Nat} {tch : Nat → Bool} (h : evMem P E A H o = some (av, H')) (hs : stOk n0 tch A o = true) (hn : n0 ≤ H.bs.length) :
    ∀ k, k < n0 → tch k = false → H'.bs[k]? = H.bs[k]? := by
  intro k hk ht
  cases o <;> unfold evMem at h <;> (try (cases h; done)) <;> simp only at h
  case buildSlice t len parts =>
    cases hz : evSlice P E A t len parts.toList with
    | none => rw [hz] at h; cases h
    | some r => rw [hz] at h; cases h; exact List.getElem?_append_left (by omega)
  case alloc t =>
    cases hz : E.zt t with
    | none => rw [hz] at h; cases h
    | some r => rw [hz] at h; cases h; exact List.getElem?_append_left (by omega)
  case box t x =>
    cases hz : dOf A x with
    | none => rw [hz] at h; cases h
    | some r =>
      rw [hz] at h
      simp only at h
      split at h
      · cases h; exact List.getElem?_append_left (by omega)
      · cases h
  case store t x y =>
    unfold stOk at hs
    simp only at hs
    split at h
    · rename_i j off d hx hd
      rw [hx] at hs
      have hj : j ≠ k := by
        rintro rfl
        simp [ht] at hs
        omega
      have fin : ∀ r : List Ch, ∀ bk : Bk, (H.put j ⟨bk.T, r⟩).bs[k]? = H.bs[k]? := fun r bk => List.getElem?_set_ne hj
      (repeat' split at h) <;> first | (cases h; done) | skip
      all_goals (
        simp only [Option.map_eq_some_iff] at h
        obtain ⟨r, hr, he⟩ := h
        cases he
        exact fin _ _)
    · rename_i j base n i st b hx hd
      rw [hx] at hs
      have hj : j ≠ k := by
        rintro rfl
        simp [ht] at hs
        omega
      have fin : ∀ r : List Ch, ∀ bk : Bk, (H.put j ⟨bk.T, r⟩).bs[k]? = H.bs[k]? := fun r bk => List.getElem?_set_ne hj
      (repeat' split at h) <;> first | (cases h; done) | skip
      all_goals (
        simp only [Option.map_eq_some_iff] at h
        obtain ⟨r, hr, he⟩ := h
        cases he
        exact fin _ _)
    · cases h
theorem evOne_ok {P : Program} {E : Env} (hE : EnvOk P E) {X : Nat → Prop} {w0 : W0} {n0 : Nat} {tch : Nat → Bool} {σ0 : List Nat} {H0 : Hp} {o : Oper} {k : List AV → Hp → Tr} {R : List Dv → Option HS → Prop} {K : Act → World → Prop} {Q : Exit → Act → World → Prop} {ds : List Deferred}
    {σ : List Nat} {A : List AV} {H : Hp} {a : Act} {w : World} (F : FRel σ A a.tmps) (hd : a.defers = ds) (M : MRel X w0 σ H w) (Kp : Keeps n0 tch σ0 H0 σ H) (hn0 : n0 ≤ H.bs.length) (hs : stOk n0 tch A o.op = true)
    (hk : ∀ σ A H a w, FRel σ A a.tmps → a.defers = ds → MRel X w0 σ H w → Keeps n0 tch σ0 H0 σ H → n0 ≤ H.bs.length → (k A H).holds R → K a w) (h : (evOne P E o A H k).holds R) : o.wp P a w K Q := by
  unfold evOne at h
  have main : ∀ op, op = o.op → (match evMem P E A H op with
      | some (av, H') => k (putA A o.dst av) H'
      | none => match evPure P E.zt A H op with
        | some (n, av) => Tr.need n (k (putA A o.dst av) H)
        | none => Tr.fail).holds R → o.wp P a w K Q := by
    intro op hop h'
    subst hop
    cases hm : evMem P E A H o.op with
    | some r =>
      obtain ⟨av, H'⟩ := r
      rw [hm] at h'
      obtain ⟨σ', v, w', hrun, hv, M', hσ⟩ := evMem_ok hE F M hm
      have F2 : FRel σ' A a.tmps := by
        rcases hσ with rfl | ⟨b, rfl⟩
        · exact F
        · exact F.more b
      have hlen : H.bs.length ≤ H'.bs.length := by
        rw [← M.len, ← M'.len]
        rcases hσ with rfl | ⟨b, rfl⟩
        · exact Nat.le_refl _
        · simp
      have K2 : Keeps n0 tch σ0 H0 σ' H' := fun j hj ht => by
        refine ⟨?_, (evMem_keeps hm hs hn0 j hj ht).trans (Kp j hj ht).2⟩
        rcases hσ with rfl | ⟨b, rfl⟩
        · exact (Kp j hj ht).1
        · rw [List.getElem?_append_left (by rw [M.len]; omega)]; exact (Kp j hj ht).1
      have fin := hk σ' _ H' (a.put o.dst v) w' (F2.put o.dst hv) (by rw [put_defers]; exact hd) M' K2 (Nat.le_trans hn0 hlen) h'
      rcases hrun with hrun | ⟨hrun, rfl⟩
      · exact wp_value hrun fin
      · exact wp_skip' hrun fin
    | none =>
      rw [hm] at h'
      simp only at h'
      cases hp : evPure P E.zt A H o.op with
      | none => rw [hp] at h'; exact h'.elim
      | some r =>
        obtain ⟨n, av⟩ := r
        rw [hp] at h'
        obtain ⟨hn, h2⟩ := h'
        obtain ⟨v, hv, hrun⟩ := evPure_ok hE.zt F M hp hn
        exact wp_value hrun (hk σ _ H _ w (F.put o.dst hv) (by rw [put_defers]; exact hd) M Kp hn0 h2)
  cases hop : o.op with
  | call c =>
    rw [hop] at h
    simp only at h
    cases hc : evCall P E A H c o.type with
    | none =>
      rw [hc] at h
      simp only at h
      cases hx : evCallM E A H c with
      | none => rw [hx] at h; exact h.elim
      | some r =>
        obtain ⟨n, av, S'⟩ := r
        rw [hx] at h
        obtain ⟨hn, h2⟩ := h
        exact evCallM_ok hE F M hop hx hn fun v w' hv hM => hk σ _ _ _ w' (F.put o.dst hv) (by rw [put_defers]; exact hd) hM Kp hn0 h2
    | some r =>
      obtain ⟨n, av⟩ := r
      rw [hc] at h
      obtain ⟨hn, h2⟩ := h
      exact evCall_ok hE F M hop hc hn fun v w' hv hb => hk σ _ H _ w' (F.put o.dst hv) (by rw [put_defers]; exact hd) (M.step hb) Kp hn0 h2
  | _ => rw [hop] at h; exact main _ hop.symm h
theorem take_yields {P : Program} {E : Env} (hE : EnvOk P E) {X : Nat → Prop} {w0 : W0} {w : World} {n0 : Nat} {tch : Nat → Bool} {σ0 σ : List Nat} {H0 H : Hp} {A : List AV} {a : Act} {o : Oper} {n : Bool} {av : AV}
    (F : FRel σ A a.tmps) (M : MRel X w0 σ H w) (Kp : Keeps n0 tch σ0 H0 σ H) (hc : canTake n0 tch A o.op = true) (h : evPure P E.zt A H o.op = some (n, av)) (hn : n = true) :
    ∃ v, VRel σ av v ∧ ∀ w', SW n0 tch σ0 H0 w' → (execOp a.eval o).run P w' = .ok (.value v) w' := by
  obtain ⟨v, hv, _⟩ := evPure_ok hE.zt F M h hn
  refine ⟨v, hv, fun w' hS => ?_⟩
  obtain ⟨v', hv', hrun⟩ := evPure_gen (w := w') (o := o) (H := H) hE.zt F (fun t x k b bk hop hx hk hH => by
    have hkk : k < n0 ∧ tch k = false := by
      unfold canTake at hc
      rw [hop] at hc
      simp only at hc
      rcases hx with ⟨off, hx⟩ | ⟨base, m, i, hx⟩ <;> rw [hx] at hc <;> simpa using hc
    obtain ⟨e1, e2⟩ := Kp k hkk.1 hkk.2
    exact one_box (hS k b bk hkk.1 hkk.2 (e1.symm.trans hk) (e2.symm.trans hH))) h hn
  rw [hrun, VRel.fun hv' hv]
theorem evR_ok {P : Program} {E : Env} (hE : EnvOk P E) {X : Nat → Prop} {w0 : W0} {ops : Array Oper} (hns : Region.noSelect ops = true) {n0 : Nat} {tch : Nat → Bool} {σ0 : List Nat} {H0 : Hp} {k : List AV → Hp → Tr} {R : List Dv → Option HS → Prop} {Q : Exit → Act → World → Prop} {ds : List Deferred} (hw : w0.σ.length ≤ n0 ∧ w0.ts.length ≤ n0)
    (hk : ∀ σ A H a w, FRel σ A a.tmps → a.defers = ds → MRel X w0 σ H w → (k A H).holds R → Q .normal a w) :
    ∀ (f : Nat) (listed : Array Bool) (σ : List Nat) (A : List AV) (H : Hp) (a : Act) (w : World), FRel σ A a.tmps → a.defers = ds → MRel X w0 σ H w → Keeps n0 tch σ0 H0 σ H → n0 ≤ H.bs.length →
      (evR P E ops n0 tch k f listed A H).holds R → wpAnyH P .any ops (NoPanic Q) (SW n0 tch σ0 H0) f listed a w
  | 0, listed, σ, A, H, a, w, F, hd, M, Kp, hn0, h => by
    unfold evR at h
    split at h
    · rename_i hr; exact wpAnyH_done hr (NoPanic.normal (finR_ok hw hk F hd M h)) 0
    · exact h.elim
  | f + 1, listed, σ, A, H, a, w, F, hd, M, Kp, hn0, h => by
    have ih := evR_ok hE hns (n0 := n0) (tch := tch) (σ0 := σ0) (H0 := H0) (X := X) (w0 := w0) (ds := ds) hw hk f
    unfold evR at h
    split at h
    · rename_i hr; exact wpAnyH_done hr (NoPanic.normal (finR_ok hw hk F hd M h)) _
    · rename_i r rs hr
      split at h
      · rename_i i hfi
        have hmem := List.mem_of_find?_eq_some hfi
        have hp := List.find?_some hfi
        split at h
        · exact h.elim
        · rename_i o ho
          simp only [ho, Bool.and_eq_true] at hp
          obtain ⟨A', wn, F', hw, h'⟩ := evGuard_ok F h
          have hcon : (Region.ready .any ops listed).contains i = true := by rw [hr]; simpa using hmem
          cases wn with
          | false =>
            simp only at h'
            exact wpAnyH_take (v := undef) ho hns hp.2 hcon (fun c a w h => h) (.inr ⟨hw, rfl⟩) (SW.of M Kp) (ih _ σ _ H _ w (F'.put (av := .t []) (v := undef) o.dst rfl) (by rw [put_defers]; exact hd) M Kp hn0 h')
          | true =>
            simp only at h'
            split at h'
            · exact h'.elim
            · rename_i hct
              split at h'
              · rename_i n av hpu
                obtain ⟨hn, h2⟩ := h'
                obtain ⟨v, hv, hy⟩ := take_yields hE F' M Kp hct hpu hn
                exact wpAnyH_take (v := v) ho hns hp.2 hcon (fun c a w h => h) (.inl ⟨hw, hy⟩) (SW.of M Kp) (ih _ σ _ H _ w (F'.put o.dst hv) (by rw [put_defers]; exact hd) M Kp hn0 h2)
              · exact h'.elim
      · refine wpAnyH_all hr (by simp) (fun i hi => ?_)
        have h := bothAll_ok h i hi
        split at h
        · exact h.elim
        · rename_i o ho
          obtain ⟨A', wn, F', hw, h'⟩ := evGuard_ok F h
          unfold wpOp
          rw [ho]
          simp only
          cases wn with
          | false =>
            simp only at h'
            rw [if_neg (by rw [hw]; decide)]
            exact ⟨SW.of M Kp, ih _ σ _ H _ w (F'.put (av := .t []) (v := undef) o.dst rfl) (by rw [put_defers]; exact hd) M Kp hn0 h'⟩
          | true =>
            simp only at h'
            rw [if_pos hw]
            refine .inl ?_
            split at h'
            · exact h'.elim
            · rename_i hst
              exact evOne_ok hE F' hd M Kp hn0 hst (fun σ A H a w F hd M Kp hn0 h => ⟨SW.of M Kp, ih _ σ A H a w F hd M Kp hn0 h⟩) h'
end Go.Proofs.YtfehilinnalflaaGreat
namespace Go.Proofs.YtfehilinnalflaaGreat
open Go.RowKit
set_option linter.unusedVariables false
set_option maxRecDepth 100000
section
variable {P : Program} {ops : Array Oper} {md : Region.Mode} {C : World → Prop}
def chainR (md : Region.Mode) (ops : Array Oper) (n : Nat) : Bool :=
  (List.range ops.size).all fun t => decide (t ≤ n) || (List.range t).any fun j => decide (n ≤ j) && Region.waitsFor md ops t j
theorem tail_waitsR {n : Nat} {listed : Array Bool} (hs : Region.sinkB md ops n = true) (hc : chainR md ops n = true) (hn : n < ops.size) (inv : HeadInv md ops n listed) :
    ∀ (d i : Nat), n - i = d → i < n → listed.getD i true = false → ∀ t, n ≤ t → t ∉ Region.ready md ops listed := by
  intro d
  induction d using Nat.strongRecOn with
  | _ d ih =>
    intro i hd hi hun t ht hr
    obtain ⟨_, ot, hot, hall⟩ := mem_ready.1 hr
    have htlt : t < ops.size := (Array.getElem?_eq_some_iff.1 hot).1
    by_cases htn : t = n
    · subst htn
      have h1 := List.all_eq_true.1 hs i (List.mem_range.2 hi)
      obtain ⟨j, hj, hj2⟩ := List.any_eq_true.1 h1
      simp only [Bool.and_eq_true, decide_eq_true_eq] at hj2
      obtain ⟨oj, hoj, e, he, hb, hon⟩ := Region.waitsFor_spec hj2.2
      have hjle : j ≤ t := by have := List.mem_range.1 hj; omega
      by_cases hjt : j = t
      · subst hjt
        have : oj = ot := Option.some.inj (hoj.symm.trans hot)
        subst this
        have h2 := hall e he hb
        rw [hon, getD_both hun] at h2
        cases h2
      · cases hl : listed.getD j false with
        | true =>
          have h2 := inv.closed j oj hoj hl e he hb
          rw [hon, getD_both hun] at h2
          cases h2
        | false =>
          have hjs : j < listed.size := by rw [inv.size]; omega
          exact ih (t - j) (by omega) j rfl (by omega) (getD_in hjs hl) t (Nat.le_refl _) hr
    · have h1 := List.all_eq_true.1 hc t (List.mem_range.2 htlt)
      simp only [Bool.or_eq_true, decide_eq_true_eq] at h1
      rcases h1 with h1 | h1
      · omega
      · obtain ⟨j, hj, hj2⟩ := List.any_eq_true.1 h1
        simp only [Bool.and_eq_true, decide_eq_true_eq] at hj2
        have hjt := List.mem_range.1 hj
        obtain ⟨o', ho', e, he, hb, hon⟩ := Region.waitsFor_spec hj2.2
        have : o' = ot := Option.some.inj (ho'.symm.trans hot)
        subst this
        have h2 := hall e he hb
        rw [hon, getD_both (inv.tail j hj2.1 (by omega))] at h2
        cases h2
theorem headQ_firstR {n i : Nat} {oi : Oper} {v : Value} {L : Array Bool → Act → Prop} (hi : ops[i]? = some oi) (hsel : ∀ (j : Nat) (o : Oper) cs b, ops[j]? = some o → o.op ≠ .select cs b)
    (hs : Region.sinkB md ops n = true) (hc : chainR md ops n = true) (hn : n < ops.size) (hin : i < n)
    (hdone : ∀ listed a, L listed a → ∀ j ∈ Region.ready md ops listed, n ≤ j) :
    ∀ (f : Nat) (listed : Array Bool) (a : Act), HeadInv md ops n listed →
      (∀ j oj, ops[j]? = some oj → j ≠ i → listed.getD j true = false → (∀ e ∈ oj.after, Region.binds md e = true → e.on ≠ i) → oi.apart ops oj = true) →
      i ∈ Region.ready md ops listed → YieldsIn P ops C oi v a →
      headQ P md ops C n L f (listed.setIfInBounds i true) (a.put oi.dst v) → headQ P md ops C n L (f + 1) listed a := by
  intro f
  induction f with
  | zero =>
    intro listed a inv _ hr hy H
    have hun := (mem_ready.1 hr).1
    refine ⟨fun h => (by rw [h] at hr; cases hr), fun j hj => ?_⟩
    have hjn : j < n := by
      rcases Nat.lt_or_ge j n with h | h
      · exact h
      · exact absurd hj (tail_waitsR hs hc hn inv _ i rfl hin hun j h)
    refine ⟨hjn, ?_⟩
    by_cases hji : j = i
    · subst hji; exact hy.qOp hi H
    · have := hdone _ _ H j (ready_mono hj hji)
      omega
  | succ f ih =>
    intro listed a inv hfree hr hy H
    have hun := (mem_ready.1 hr).1
    refine ⟨fun h => (by rw [h] at hr; cases hr), fun j hj => ?_⟩
    have hjn : j < n := by
      rcases Nat.lt_or_ge j n with h | h
      · exact h
      · exact absurd hj (tail_waitsR hs hc hn inv _ i rfl hin hun j h)
    refine ⟨hjn, ?_⟩
    by_cases hji : j = i
    · subst hji; exact hy.qOp hi H
    · have h1 := (H.2 j (ready_mono hj hji)).2
      obtain ⟨hjun, oj, hoj, hall⟩ := mem_ready.1 hj
      have hnot : ∀ e ∈ oj.after, Region.binds md e = true → e.on ≠ i := fun e he hb heq => by
        have h1 := hall e he hb
        rw [heq, getD_both hun] at h1
        cases h1
      have h2 := qOp_put hoj (hfree j oj hoj hji hjun hnot) (fun cs b => hsel i oi cs b hi) (fun cs b => hsel j oj cs b hoj) hy h1
      have hfree' : ∀ k ok, ops[k]? = some ok → k ≠ i → (listed.setIfInBounds j true).getD k true = false →
          (∀ e ∈ ok.after, Region.binds md e = true → e.on ≠ i) → oi.apart ops ok = true := fun k ok hk hki hun hno => by
        refine hfree k ok hk hki ?_ hno
        by_cases hjk : j = k
        · subst hjk; exact hjun
        · rw [getD_set_ne true hjk] at hun; exact hun
      refine qOp_mono (fun a' h3 => ih (listed.setIfInBounds j true) a' (inv.set hj hjn) hfree' (ready_mono hr (Ne.symm hji)) h3.1 ?_) h2
      rw [Array.setIfInBounds_comm _ _ hji]
      exact h3.2
def fillB : Nat → Nat → Array Bool → Array Bool
  | 0, _, l => l
  | f + 1, k, l => fillB f (k + 1) (l.setIfInBounds k true)
def lexHeadR (md : Region.Mode) (ops : Array Oper) : Nat → Nat → Array Bool → Bool
  | 0, k, listed => (Region.ready md ops listed).all fun j => decide (k ≤ j)
  | f + 1, k, listed => (Region.ready md ops listed).contains k && Region.free md ops listed k && lexHeadR md ops f (k + 1) (listed.setIfInBounds k true)
def okR (ops : Array Oper) (n : Nat) : Bool := Region.noSelect ops && decide (n < ops.size) && Region.sinkB .any ops n && chainR .any ops n && lexHeadR .any ops n 0 (Array.replicate ops.size false)
theorem headQ_lexR {n : Nat} {Lq : Act → Prop} (hsel : Region.noSelect ops = true) (hs : Region.sinkB md ops n = true) (hc : chainR md ops n = true) (hn : n < ops.size) (L0 : Array Bool) (hL0 : ∀ j ∈ Region.ready md ops L0, n ≤ j) :
    ∀ (l : List Oper) (k : Nat) (listed : Array Bool) (a : Act), (∀ j, j < l.length → l[j]? = ops[k + j]?) → k + l.length = n → HeadInv md ops n listed → fillB l.length k listed = L0 →
    lexHeadR md ops l.length k listed = true → wpQuiet P ops C Lq l a →
    headQ P md ops C n (fun listed' a' => listed' = L0 ∧ Lq a') l.length listed a
  | [], k, listed, a, _, hk, _, hf, hB, h => ⟨hf, h⟩
  | o :: l, k, listed, a, hl, hk, inv, hf, hB, h => by
    have h0 : ops[k]? = some o := by simpa using (hl 0 (by simp)).symm
    simp only [List.length_cons, lexHeadR, Bool.and_eq_true] at hB
    obtain ⟨⟨hr, hfr⟩, hB'⟩ := hB
    have hkn : k < n := by simp only [List.length_cons] at hk; omega
    have hr' : k ∈ Region.ready md ops listed := by simpa using hr
    have hst : qOp P ops C k (wpQuiet P ops C Lq l) a := by unfold qOp; simp only [h0]; exact h
    obtain ⟨v, hy, hK⟩ := yieldsIn_of_qOp h0 hst
    exact headQ_firstR (L := fun listed' a' => listed' = L0 ∧ Lq a') h0 (Region.noSelect_spec hsel) hs hc hn hkn (fun listed' a' hL => by rw [hL.1]; exact hL0) l.length listed a inv (Region.free_spec h0 hfr) hr' hy
      (headQ_lexR hsel hs hc hn L0 hL0 l (k + 1) _ _ (fun j hj => by have := hl (j + 1) (by simp; omega); simpa [Nat.add_assoc, Nat.add_comm 1 j] using this) (by simp only [List.length_cons] at hk; omega) (inv.set hr' hkn) hf hB' hK)
theorem lexHeadR_end : ∀ (f k : Nat) (listed : Array Bool), lexHeadR md ops f k listed = true → ∀ j ∈ Region.ready md ops (fillB f k listed), k + f ≤ j
  | 0, k, listed, h => by
    intro j hj
    have := List.all_eq_true.1 h j hj
    simpa using this
  | f + 1, k, listed, h => by
    simp only [lexHeadR, Bool.and_eq_true] at h
    intro j hj
    have := lexHeadR_end f (k + 1) _ h.2 j hj
    omega
theorem wp_region_quiet_rest {id : Nat} {Q : Exit → Act → World → Prop} {a : Act} {w : World} {l : List Oper} (n : Nat) (hm : P.follows .mixedOrders = true) (hB : okR l.toArray n = true)
    (hC : C { w with drawn := w.drawn + 1 })
    (h : wpQuiet P l.toArray C (fun a' => ∀ w', C w' → wpAny P .any l.toArray Q (l.length - n) (fillB n 0 (Array.replicate l.length false)) a' w') (l.take n) a) : (Code.region id l.toArray true).wp P Q a w := by
  simp only [okR, Bool.and_eq_true, decide_eq_true_eq] at hB
  obtain ⟨⟨⟨⟨hsel, hn⟩, hs⟩, hc⟩, hlex⟩ := hB
  have hn' : n < l.length := by simpa using hn
  have htl : (l.take n).length = n := by simp; omega
  have hsz : l.toArray.size = l.length := by simp
  rw [hsz] at hlex
  have inv0 : HeadInv .any l.toArray n (Array.replicate l.length false) :=
    ⟨by simp, fun j oj _ hl => (by rw [getD_replicate_false] at hl; cases hl), fun t _ ht => getD_in (by simpa using ht) (getD_replicate_false _ _)⟩
  have H := headQ_lexR (md := .any) hsel hs hc hn (fillB n 0 (Array.replicate l.length false)) (fun j hj => by have := lexHeadR_end n 0 _ hlex j hj; omega) (l.take n) 0 _ a (fun j hj => by
    have hj' : j < n := by rw [htl] at hj; exact hj
    simp [hj']) (by simpa using htl) inv0 (by rw [htl]) (by rw [htl]; exact hlex) h
  refine wp_region_any hm ?_
  have := any_of_headQ (md := .any) (ops := l.toArray) (C := C) (Q' := Q) (g := l.length - n) (L := fun listed' a' => listed' = fillB n 0 (Array.replicate l.length false) ∧ ∀ w', C w' → wpAny P .any l.toArray Q (l.length - n) (fillB n 0 (Array.replicate l.length false)) a' w') (fun listed a' w' hw' hL => by rw [hL.1]; exact hL.2 w' hw') _ _ _ _ hC H
  rw [htl, show n + (l.length - n) = l.length by omega] at this
  rw [hsz]
  exact this
end
end Go.Proofs.YtfehilinnalflaaGreat
namespace Go.Proofs.YtfehilinnalflaaGreat
open Go.RowKit Go.BigFrame
set_option linter.unusedSimpArgs false
set_option linter.unusedVariables false
set_option maxRecDepth 100000
def isMemOp : Op → Bool
  | .alloc _ => true
  | .buildSlice _ _ _ => true
  | .box _ _ => true
  | .store _ _ _ => true
  | _ => false
def isFx (fx : FuncId → Bool) : Op → Bool
  | .call c => match c.callee with
    | .value (.func f) => fx f
    | _ => false
  | _ => false
def tailAt (fx : FuncId → Bool) : List Oper → Nat
  | [] => 0
  | o :: rest => if (isMemOp o.op || isFx fx o.op) = true then 0 else tailAt fx rest + 1
def headAt (ops : Array Oper) : Nat → Option Nat
  | 0 => none
  | n + 1 => if okR ops (n + 1) = true then some (n + 1) else headAt ops n
theorem headAt_ok {ops : Array Oper} : ∀ {m n : Nat}, headAt ops m = some n → okR ops n = true
  | 0, n, h => by cases h
  | m + 1, n, h => by
    unfold headAt at h
    split at h
    · rename_i c; cases h; exact c
    · exact headAt_ok h
def rootOf (A : List AV) (ops : Array Oper) : Nat → Tmp → List Nat
  | 0, _ => []
  | n + 1, d => match ops.toList.find? (fun o => o.dst == some d) with
    | some o => match o.op with
      | .fieldAddr _ (.tmp d') _ => rootOf A ops n d'
      | .indexAddr _ (.tmp d') _ => rootOf A ops n d'
      | .nilCheck (.tmp d') => rootOf A ops n d'
      | .move (.tmp d') => rootOf A ops n d'
      | _ => []
    | none => match A[d]? with
      | some (.p k _) => [k]
      | some (.q k _ _ _) => [k]
      | _ => []
def touched (A : List AV) (ops : Array Oper) : List Nat :=
  ops.toList.flatMap fun o => match o.op with
    | .store _ (.tmp d) _ => rootOf A ops 5 d
    | _ => []
def evRX (P : Program) (E : Env) (ops : Array Oper) (n : Nat) (k : List AV → Hp → Tr) (A : List AV) (H : Hp) : Tr :=
  match ops[n]? with
  | none => .fail
  | some o => match isFx E.fx o.op && o.guard.isNone && (Region.ready .any ops (fillB n 0 (Array.replicate ops.toList.length false)) == [n]) with
    | false => evR P E ops H.bs.length (fun j => (touched A ops).contains j) k (ops.toList.length - n) (fillB n 0 (Array.replicate ops.toList.length false)) A H
    | true => match o.op with
      | .call c => match evCallX E A H c with
        | some (m, av, H') => .need m (evR P E ops H'.bs.length (fun j => (touched (putA A o.dst av) ops).contains j) k (ops.toList.length - n - 1) ((fillB n 0 (Array.replicate ops.toList.length false)).setIfInBounds n true) (putA A o.dst av) H')
        | none => .fail
      | _ => .fail
def evC (P : Program) (E : Env) : Nat → Code → List AV → Hp → (Exit → List AV → Hp → Tr) → Tr
  | 0, _, _, _, _ => .fail
  | n + 1, c, A, H, k =>
    match c with
    | .skip => k .normal A H
    | .ret => k .ret A H
    | .exit id => k (.exit id) A H
    | .region id ops draw => match draw with
      | false => evL P E ops (fun A H => k .normal A H) ops.toList A H
      | true => match Region.lexB .any ops && (tailAt E.fx ops.toList == ops.toList.length) with
        | true => evLq P E ops H (fun A => k .normal A H) ops.toList A
        | false => match Region.lexTailB .any ops (tailAt E.fx ops.toList) with
          | true => evLq P E ops H (fun A => evL P E ops (fun A H => k .normal A H) (ops.toList.drop (tailAt E.fx ops.toList)) A H) (ops.toList.take (tailAt E.fx ops.toList)) A
          | false => match headAt ops (tailAt E.fx ops.toList) with
           | some n => evLq P E ops H (fun A => evRX P E ops n (fun A H => k .normal A H) A H) (ops.toList.take n) A
           | none => match Region.noSelect ops with
            | true => evR P E ops H.bs.length (fun j => (touched A ops).contains j) (fun A H => k .normal A H) ops.size (Array.replicate ops.size false) A H
            | false => .fail
    | .seq x y => evC P E n x A H fun e A H => match e with
      | .normal => evC P E n y A H k
      | e => k e A H
    | .cond (.tmp d) x y => match A[d]? with
      | some (.d (.s (.x true (.bool b)))) => match b with
        | true => evC P E n x A H k
        | false => evC P E n y A H k
      | some (.d (.s (.x false (.bool b)))) => .test b (evC P E n x (A.set d (lit true)) H k) (evC P E n y (A.set d (lit false)) H k)
      | _ => .fail
    | .block id x => evC P E n x A H fun e A H => match e with
      | .exit id' => if id' = id then k .normal A H else k (.exit id') A H
      | e => k e A H
    | .loop x => evC P E n x A H fun e A H => match e with
      | .normal => evC P E n (.loop x) A H k
      | e => k e A H
    | .scope x => evC P E n x A H fun e A H => match e with
      | .goto _ => .fail
      | e => k e A H
    | .label _ => k .normal A H
    | _ => .fail
structure Post (P : Program) (X : Nat → Prop) (w0 : W0) (ds : List Deferred) (k : Exit → List AV → Hp → Tr) (R : List Dv → Option HS → Prop) (Q : Exit → Act → World → Prop) : Prop where
  ok : ∀ e σ A H a w, FRel σ A a.tmps → a.defers = ds → MRel X w0 σ H w → (k e A H).holds R → Q e a w
theorem drawn_below (w : World) : Below w.heap.size w { w with drawn := w.drawn + 1 } := ⟨rfl, rfl, rfl, Nat.le_refl _, fun _ _ => rfl⟩
theorem evRX_ok {P : Program} {E : Env} (hE : EnvOk P E) {X : Nat → Prop} {w0 : W0} {ops : Array Oper} (hns : Region.noSelect ops = true) {n : Nat} (hn : n < ops.toList.length) {k : List AV → Hp → Tr} {R : List Dv → Option HS → Prop} {Q : Exit → Act → World → Prop} {ds : List Deferred}
    (hk : ∀ σ A H a w, FRel σ A a.tmps → a.defers = ds → MRel X w0 σ H w → (k A H).holds R → Q .normal a w) {σ : List Nat} {A : List AV} {H : Hp} {a : Act} {w : World} (F : FRel σ A a.tmps) (hd : a.defers = ds) (M : MRel X w0 σ H w) (h : (evRX P E ops n k A H).holds R) :
    wpAny P .any ops (NoPanic Q) (ops.toList.length - n) (fillB n 0 (Array.replicate ops.toList.length false)) a w := by
  unfold evRX at h
  split at h
  · exact h.elim
  · rename_i o ho
    split at h
    · refine wpAny_of_held (S := SW H.bs.length (fun j => (touched A ops).contains j) σ H) _ _ _ _ ?_
      exact evR_ok hE hns M.pre_len (fun σ A H a w F hd M h => hk σ A H a w F hd M h) _ _ σ A H a w F hd M (fun _ _ _ => ⟨rfl, rfl⟩) (Nat.le_refl _) h
    · rename_i hc
      simp only [Bool.and_eq_true, beq_iff_eq] at hc
      obtain ⟨⟨_, hg⟩, hr⟩ := hc
      split at h
      · rename_i c hop
        split at h
        · rename_i m av H' hx
          obtain ⟨hm, h⟩ := h
          rw [show ops.toList.length - n = (ops.toList.length - n - 1) + 1 by omega]
          refine ⟨fun h0 => (by rw [hr] at h0; cases h0), fun i hi => ?_⟩
          rw [hr] at hi
          have hin : i = n := by simpa using hi
          subst hin
          unfold wpOp
          rw [ho]
          have hgn : o.guard = none := by simpa using hg
          have hw : Region.wanted o (yielded ops a.tmps) = true := by unfold Region.wanted; rw [hgn]
          simp only
          rw [if_pos hw]
          refine .inl (evCallX_ok hE F M hop hx hm fun v w' hv M' => ?_)
          have F' := F.put o.dst hv
          have hd' : (a.put o.dst v).defers = ds := by rw [put_defers]; exact hd
          refine wpAny_of_held (S := SW H'.bs.length (fun j => (touched (putA A o.dst av) ops).contains j) σ H') _ _ _ _ ?_
          exact evR_ok hE hns M'.pre_len (fun σ A H a w F hd M h => hk σ A H a w F hd M h) _ _ σ _ H' _ w' F' hd' M' (fun _ _ _ => ⟨rfl, rfl⟩) (Nat.le_refl _) h
        · exact h.elim
      · exact h.elim
theorem evC_ok {P : Program} {E : Env} (hE : EnvOk P E) (hm : P.follows .mixedOrders = true) {X : Nat → Prop} {w0 : W0} {R : List Dv → Option HS → Prop} {ds : List Deferred} : ∀ (n : Nat),
    (∀ (c : Code) (k : Exit → List AV → Hp → Tr) (Q : Exit → Act → World → Prop), Post P X w0 ds k R Q → ∀ (σ : List Nat) (A : List AV) (H : Hp) (a : Act) (w : World), FRel σ A a.tmps → a.defers = ds → MRel X w0 σ H w →
      (evC P E n c A H k).holds R → c.wp P Q a w) ∧
    (∀ (c : Code) (k : Exit → List AV → Hp → Tr) (Q : Exit → Act → World → Prop), Post P X w0 ds k R Q → ∀ (σ : List Nat) (A : List AV) (H : Hp) (a : Act) (w : World), FRel σ A a.tmps → a.defers = ds → MRel X w0 σ H w →
      (evC P E n (.loop c) A H k).holds R → Code.rounds P c Q n a w)
  | 0 => ⟨fun _ _ _ _ _ _ _ _ _ _ _ _ h => h.elim, fun _ _ _ _ _ _ _ _ _ _ _ _ h => h.elim⟩
  | n + 1 => by
    obtain ⟨ih, ihl⟩ := evC_ok hE hm (X := X) (w0 := w0) (R := R) (ds := ds) n
    have loop : ∀ (c : Code) (k : Exit → List AV → Hp → Tr) (Q : Exit → Act → World → Prop), Post P X w0 ds k R Q → ∀ (σ : List Nat) (A : List AV) (H : Hp) (a : Act) (w : World), FRel σ A a.tmps → a.defers = ds → MRel X w0 σ H w →
        (evC P E (n + 1) (.loop c) A H k).holds R → Code.rounds P c Q (n + 1) a w := by
      intro c k Q hP σ A H a w F hd M h
      rw [rounds_succ]
      unfold evC at h
      refine ih c _ _ ⟨?_⟩ σ A H a w F hd M h
      intro e σ A H a w F hd M h
      cases e with
      | normal => exact ihl c k Q hP σ A H a w F hd M h
      | _ => exact hP.ok _ σ A H a w F hd M h
    refine ⟨?_, loop⟩
    intro c k Q hP σ A H a w F hd M h
    cases c with
    | skip => exact wp_skip (hP.ok _ σ A H a w F hd M h)
    | ret => exact wp_ret (hP.ok _ σ A H a w F hd M h)
    | exit id => exact wp_exit (hP.ok _ σ A H a w F hd M h)
    | region id ops draw =>
      unfold evC at h
      cases draw with
      | false =>
        refine wp_region_list (evL_ok hE (fun σ A H a w F hd M h => hP.ok _ σ A H a w F hd M h) ops.toList σ A H a w F hd M h)
      | true =>
        simp only at h
        cases hB : Region.lexB .any ops && (tailAt E.fx ops.toList == ops.toList.length) with
        | true =>
          rw [hB] at h
          have hB' : Region.lexB .any ops = true := by simp only [Bool.and_eq_true] at hB; exact hB.1
          refine wp_region_quiet (C := fun w' => Below w.heap.size w w') hm hB' (drawn_below w) ?_
          exact evLq_ok hE M (fun A a F hd h w' hb => hP.ok _ σ A H a w' F hd (M.step hb) h) ops.toList A a F hd h
        | false =>
          rw [hB] at h
          simp only at h
          cases hT : Region.lexTailB .any ops (tailAt E.fx ops.toList) with
          | false =>
            rw [hT] at h
            simp only at h
            cases hhd : headAt ops (tailAt E.fx ops.toList) with
            | some n =>
              rw [hhd] at h
              simp only at h
              have hok := headAt_ok hhd
              have hns : Region.noSelect ops = true := by unfold okR at hok; simp only [Bool.and_eq_true] at hok; exact hok.1.1.1.1
              refine wp_region_noPanic ?_
              have := wp_region_quiet_rest (P := P) (id := id) (Q := NoPanic Q) (a := a) (w := w) (l := ops.toList) (C := fun w' => Below w.heap.size w w') n hm (by simpa using hok) (drawn_below w) (by
                refine evLq_ok hE M (fun A a F hd h w' hb => ?_) _ A a F hd (by simpa using h)
                have := evRX_ok hE hns (n := n) (by unfold okR at hok; simp only [Bool.and_eq_true, decide_eq_true_eq] at hok; simpa using hok.1.1.1.2) (fun σ A H a w F hd M h => hP.ok _ σ A H a w F hd M h) F hd (M.step hb) h
                simpa using this)
              simpa using this
            | none =>
            rw [hhd] at h
            simp only at h
            cases hns : Region.noSelect ops with
            | false => rw [hns] at h; exact h.elim
            | true =>
              rw [hns] at h
              simp only at h
              refine wp_region_noPanic (wp_region_held hm (S := SW H.bs.length (fun j => (touched A ops).contains j) σ H) ?_)
              exact evR_ok hE hns M.pre_len (fun σ A H a w F hd M h => hP.ok _ σ A H a w F hd M h) _ _ σ A H a _ F hd (M.step (drawn_below w)) (fun _ _ _ => ⟨rfl, rfl⟩) (Nat.le_refl _) h
          | true =>
            rw [hT] at h
            have := wp_region_quiet_tail (P := P) (id := id) (Q := Q) (a := a) (w := w) (l := ops.toList) (C := fun w' => Below w.heap.size w w') (tailAt E.fx ops.toList) hm (by simpa using hT) (drawn_below w) (by
              refine evLq_ok hE M (fun A a F hd h w' hb => ?_) _ A a F hd (by simpa using h)
              refine evL_ok hE (fun σ A H a w F hd M h => hP.ok _ σ A H a w F hd M h) _ σ A H a w' F hd (M.step hb) (by simpa using h))
            simpa using this
    | seq x y =>
      unfold evC at h
      refine wp_seq (ih x _ _ ⟨?_⟩ σ A H a w F hd M h)
      intro e σ A H a w F hd M h
      cases e with
      | normal => exact ih y k Q hP σ A H a w F hd M h
      | _ => exact hP.ok _ σ A H a w F hd M h
    | cond c x y =>
      unfold evC at h
      cases c with
      | tmp d =>
        simp only at h
        split at h
        · rename_i b ha
          obtain ⟨v, h1, h2⟩ := F.at_ d _ ha
          have h2' : v = .bool b := h2
          subst h2'
          have hev : a.eval (.tmp d) = .bool b := by show a.tmps.getD d undef = _; rw [Array.getD_eq_getD_getElem?, h1]; rfl
          refine wp_cond hev ?_
          cases b
          · exact ih y k Q hP σ A H a w F hd M h
          · exact ih x k Q hP σ A H a w F hd M h
        · rename_i b ha
          obtain ⟨v, h1, h2⟩ := F.at_ d _ ha
          have h2' : v = .bool b := h2
          subst h2'
          have hev : a.eval (.tmp d) = .bool b := by show a.tmps.getD d undef = _; rw [Array.getD_eq_getD_getElem?, h1]; rfl
          refine wp_cond hev ?_
          cases b
          · exact ih y k Q hP σ _ H a w (F.lit ha) hd M (h.2 rfl)
          · exact ih x k Q hP σ _ H a w (F.lit ha) hd M (h.1 rfl)
        · exact h.elim
      | _ => exact h.elim
    | block id x =>
      unfold evC at h
      refine wp_block (ih x _ _ ⟨?_⟩ σ A H a w F hd M h)
      intro e σ A H a w F hd M h
      cases e with
      | exit id' =>
        simp only at h
        show if id' = id then Q .normal a w else Q (.exit id') a w
        split at h
        · rename_i e; rw [if_pos e]; exact hP.ok _ σ A H a w F hd M h
        · rename_i e; rw [if_neg e]; exact hP.ok _ σ A H a w F hd M h
      | _ => exact hP.ok _ σ A H a w F hd M h
    | scope x =>
      unfold evC at h
      refine wp_scope_straight (ih x _ _ ⟨?_⟩ σ A H a w F hd M h)
      intro e σ A H a w F hd M h
      cases e with
      | goto l => exact h.elim
      | normal => exact hP.ok _ σ A H a w F hd M h
      | exit id => exact hP.ok _ σ A H a w F hd M h
      | ret => exact hP.ok _ σ A H a w F hd M h
      | panic c => exact hP.ok _ σ A H a w F hd M h
      | outgrown => exact hP.ok _ σ A H a w F hd M h
    | label l => exact wp_label (hP.ok _ σ A H a w F hd M h)
    | loop x => exact wp_loop_rounds (n + 1) (loop x k Q hP σ A H a w F hd M h)
    | _ => exact h.elim
def evRes (P : Program) (A : List AV) (H : Hp) : List ResultVar → Option (List Dv)
  | [] => some []
  | .tmp t :: rs => match A[t]? with
    | some (.d v) => (evRes P A H rs).map fun l => v :: l
    | _ => none
  | .cell x t :: rs => match A[x]? with
    | some (.p k off) => match H.bs[k]? with
      | some bk => match evPart P t bk.cs off with
        | some d => (evRes P A H rs).map fun l => d :: l
        | none => none
      | none => none
    | _ => none
def resVal : List Dv → Value
  | [d] => d.val
  | ds => .tuple (ds.map Dv.val).toArray
end Go.Proofs.YtfehilinnalflaaGreat
namespace Go.Proofs.YtfehilinnalflaaGreat
open Go.RowKit Go.BigFrame
set_option linter.unusedSimpArgs false
set_option linter.unusedVariables false
set_option maxRecDepth 100000
def resOne (tmps : Array Value) : ResultVar → Sem Value
  | .tmp t => pure (tmps.getD t undef)
  | .cell a t => do loadVar t (← asAddr (tmps.getD a undef))
theorem evRes_ok {P : Program} {X : Nat → Prop} {w0 : W0} {w : World} {σ : List Nat} {A : List AV} {H : Hp} {tmps : Array Value} (F : FRel σ A tmps) (M : MRel X w0 σ H w) : ∀ (rs : List ResultVar) {vs : List Dv}, evRes P A H rs = some vs →
    (rs.mapM (resOne tmps)).run P w = Result.ok (vs.map Dv.val) w
  | [], vs, h => by cases h; rfl
  | .tmp t :: rs, vs, h => by
    unfold evRes at h
    split at h
    · rename_i v ha
      cases hr : evRes P A H rs with
      | none => rw [hr] at h; cases h
      | some l =>
        rw [hr] at h; cases h
        obtain ⟨x, h1, h2⟩ := F.at_ t _ ha
        have h2' : x = v.val := h2
        have hg : tmps.getD t undef = v.val := by rw [Array.getD_eq_getD_getElem?, h1, ← h2']; rfl
        rw [List.mapM_cons]
        simp only [resOne, hg, Sem.run_bind, Sem.run_pure, Result.andThen_ok, evRes_ok F M rs hr]
        rfl
    · cases h
  | .cell x t :: rs, vs, h => by
    unfold evRes at h
    split at h
    · rename_i k off ha
      split at h
      · rename_i bk hH
        split at h
        · rename_i d hp
          cases hr : evRes P A H rs with
          | none => rw [hr] at h; cases h
          | some l =>
            rw [hr] at h; cases h
            obtain ⟨v, h1, b, hk, h2⟩ := F.at_ x _ ha
            have hg : tmps.getD x undef = .pointer (some ⟨b, off, none⟩) := by rw [Array.getD_eq_getD_getElem?, h1, ← h2]; rfl
            have hl := run_evLoad M hk hH hp
            simp only [Instr.loadAt, Instr.sureAddr, Sem.run_bind, Sem.run_pure, Result.andThen_ok] at hl
            rw [List.mapM_cons]
            simp only [resOne, hg, asAddr, Sem.run_bind, Sem.run_pure, Result.andThen_ok, hl, evRes_ok F M rs hr]
            rfl
        · cases h
      · cases h
    · cases h
theorem results_ok {P : Program} {X : Nat → Prop} {w0 : W0} {w : World} {σ : List Nat} {A : List AV} {H : Hp} {tmps : Array Value} (F : FRel σ A tmps) (M : MRel X w0 σ H w) {fn : Func} {vs : List Dv} (h : evRes P A H fn.results.toList = some vs) :
    (results fn tmps).run P w = .ok (resVal vs) w := by
  have := evRes_ok F M _ h
  have e : results fn tmps = (do let vs ← fn.results.mapM (resOne tmps); pure (if h : vs.size = 1 then vs[0] else .tuple vs)) := by
    unfold results
    congr 1
  rw [e]
  simp only [Array.mapM_eq_mapM_toList, Sem.run_bind]
  have e2 : Sem.run P (List.toArray <$> List.mapM (resOne tmps) fn.results.toList) w = .ok (vs.map Dv.val).toArray w := by
    have e3 : (List.toArray <$> List.mapM (resOne tmps) fn.results.toList : Sem (Array Value)) = (do let l ← List.mapM (resOne tmps) fn.results.toList; pure l.toArray) := rfl
    rw [e3, Sem.run_bind, this]; rfl
  rw [e2]
  cases vs with
  | nil => rfl
  | cons d l => cases l with
    | nil => rfl
    | cons d2 l => rfl
def endK (P : Program) (fn : Func) (nf : Nat) (e : Exit) (A : List AV) (H : Hp) : Tr :=
  match e with
  | .normal => match evRes P A H fn.results.toList with
    | some vs => .ret (vs ++ (H.bs.take nf).map fun (bk : Bk) => Dv.g bk.cs) H.m
    | none => .fail
  | .ret => match evRes P A H fn.results.toList with
    | some vs => .ret (vs ++ (H.bs.take nf).map fun (bk : Bk) => Dv.g bk.cs) H.m
    | none => .fail
  | _ => .fail
def Hp.nf (H : Hp) : Nat := if H.ro = 0 then H.bs.length else 0
def evFX (P : Program) (E : Env) (n : Nat) (fn : Func) (args : List AV) (H : Hp) : Tr :=
  match fn.body with
  | some c => evC P E n c (args ++ List.replicate (fn.ntmps - args.length) (.t [])) H (endK P fn H.nf)
  | none => .fail
def evF (P : Program) (E : Env) (n : Nat) (fn : Func) (args : List Dv) : Tr := evFX P E n fn (args.map .d) ⟨[], none, false, 0⟩
def Left (X : Nat → Prop) (σ : List Nat) (rw : Bool) (ts : List TypeId) (R : List Dv → Option HS → Prop) (w : World) (nf : Nat) (e : Ending) (w' : World) : Prop :=
  ∃ (vs : List Dv) (m : Option HS) (σ' : List Nat) (H' : Hp), R (vs ++ (H'.bs.take nf).map fun (bk : Bk) => Dv.g bk.cs) m ∧ e = .returned (resVal vs) ∧ MRel X ⟨w, σ, rw, ts⟩ σ' H' w' ∧ H'.m = m
theorem evFX_ok {P : Program} {E : Env} (hE : EnvOk P E) (hm : P.follows .mixedOrders = true) {f : FuncId} {fn : Func} (hf : P.funcs[f]? = some fn) {n : Nat} {args : List AV} {vals : Array Value} {H : Hp} {R : List Dv → Option HS → Prop} (h : (evFX P E n fn args H).holds R)
    {X : Nat → Prop} {σ : List Nat} {rw : Bool} {ts : List TypeId} {w : World} (F : FRel σ args vals) (M : MRel X ⟨w, σ, rw, ts⟩ σ H w) : Calls P f vals w (Left X σ rw ts R w H.nf) := by
  unfold evFX at h
  cases hb : fn.body with
  | none => rw [hb] at h; exact h.elim
  | some c =>
    rw [hb] at h
    refine calls_of_wp hf hb ?_
    refine (evC_ok hE hm (X := X) (w0 := ⟨w, σ, rw, ts⟩) (R := R) (ds := []) n).1 c (endK P fn H.nf) _ ⟨?_⟩ σ _ H _ w ?_ rfl M h
    · intro e σ' A H' a w' F hd M h
      have key : (match evRes P A H' fn.results.toList with | some vs => Tr.ret (vs ++ (H'.bs.take H.nf).map fun (bk : Bk) => Dv.g bk.cs) H'.m | none => Tr.fail).holds R → a.defers = [] ∧ ∃ v, (results fn a.tmps).run P w' = .ok v w' ∧ Left X σ rw ts R w H.nf (Ending.returned v) w' := by
        intro h
        cases hr : evRes P A H' fn.results.toList with
        | none => rw [hr] at h; exact h.elim
        | some vs => rw [hr] at h; exact ⟨hd, _, results_ok F M hr, ⟨vs, H'.m, σ', H', h, rfl, M, rfl⟩⟩
      cases e with
      | normal => exact key h
      | ret => exact key h
      | _ => exact h.elim
    · have hs := F.size
      refine ⟨by simp [hs], fun i av hi => ?_⟩
      by_cases c : i < args.length
      · rw [List.getElem?_append_left c] at hi
        obtain ⟨v, h1, h2⟩ := F.at_ i av hi
        exact ⟨v, by rw [Array.getElem?_append_left (by rw [← hs]; exact c)]; exact h1, h2⟩
      · rw [List.getElem?_append_right (Nat.le_of_not_lt c)] at hi
        rw [List.getElem?_replicate] at hi
        split at hi
        · rename_i hlt; cases hi
          refine ⟨undef, ?_, rfl⟩
          rw [Array.getElem?_append_right (by rw [← hs]; exact Nat.le_of_not_lt c)]
          simp [← hs, hlt]
        · cases hi
theorem FRel.dvs (σ : List Nat) (args : List Dv) : FRel σ (args.map .d) (args.map Dv.val).toArray := by
  refine ⟨by simp, fun i av hi => ?_⟩
  rw [List.getElem?_map] at hi
  cases ha : args[i]? with
  | none => rw [ha] at hi; cases hi
  | some v => rw [ha] at hi; cases hi; exact ⟨v.val, by simp [ha], rfl⟩
theorem evF_ok {P : Program} {E : Env} (hE : EnvOk P E) (hm : P.follows .mixedOrders = true) {f : FuncId} {fn : Func} (hf : P.funcs[f]? = some fn) {n : Nat} {args : List Dv} {R : List Dv → Option HS → Prop} (h : (evF P E n fn args).holds R) (w : World) :
    Calls P f (args.map Dv.val).toArray w fun e w' => (∃ vs m, R vs m ∧ e = .returned (resVal vs)) ∧ Below w.heap.size w w' := by
  have M : MRel (fun _ => False) ⟨w, [], false, []⟩ [] ⟨[], none, false, 0⟩ w := ⟨Fr.refl _ _, fun k b h _ => (by cases h), fun k b h => h, rfl, fun k b bk h1 => (by cases h1), fun i j b h1 => (by cases h1), fun S hS => (by cases hS), fun h => (by cases h), fun k T h => (by cases h)⟩
  refine (evFX_ok hE hm hf h (FRel.dvs [] args) M).mono ?_
  rintro e w' ⟨vs, m, σ', H', h1, h2, h3, h4⟩
  refine ⟨⟨vs, m, ?_, h2⟩, h3.fr.below⟩
  simpa [Hp.nf] using h1
end Go.Proofs.YtfehilinnalflaaGreat
namespace Go.Proofs.YtfehilinnalflaaGreat
open Go.RowKit Go.BigFrame
set_option linter.unusedSimpArgs false
set_option linter.unusedVariables false
set_option maxRecDepth 100000
inductive CK where
  | u
  | i (k : IntKind)
  | b
  | S
  | v
  | k (b : Nat)
def Ch.is : Ch → CK → Bool
  | .u _ _, .u => true
  | .x _ (.int k _), .i k' => k == k'
  | .x _ (.bool _), .b => true
  | .S _, .S => true
  | .x _ v, .v => okOne v
  | _, _ => false
def Ch.U : Ch → BitVec 64
  | .u _ b => b
  | _ => 0#64
def Ch.I : Ch → Int
  | .x _ (.int _ n) => n
  | _ => 0
def Ch.B : Ch → Bool
  | .x _ (.bool b) => b
  | _ => false
def Ch.T : Ch → St
  | .S s => s
  | _ => St0
def Ch.V : Ch → Value
  | .x _ v => v
  | _ => .pointer none
inductive DK where
  | s (k : CK)
  | g (ks : List CK)
def isAll : List Ch → List CK → Bool
  | [], [] => true
  | c :: cs, k :: ks => c.is k && isAll cs ks
  | _, _ => false
def Dv.is : Dv → DK → Bool
  | .s c, .s k => c.is k
  | .g cs, .g ks => isAll cs ks
  | _, _ => false
def areAll : List Dv → List DK → Bool
  | [], [] => true
  | d :: ds, k :: ks => d.is k && areAll ds ks
  | _, _ => false
def Tr.sel {α : Type} (d : α) (π : List Dv → α) : Tr → α
  | .fail => d
  | .ret vs _ => π vs
  | .test b y n => bif b then y.sel d π else n.sel d π
  | .need _ t => t.sel d π
  | .both a _ => a.sel d π
def Tr.is (sh : List DK) : Tr → Bool
  | .fail => false
  | .ret vs _ => areAll vs sh
  | .test _ y n => y.is sh && n.is sh
  | .need _ t => t.is sh
  | .both a _ => a.is sh
def Tr.ok : Tr → Prop
  | .fail => False
  | .ret _ _ => True
  | .test b y n => (b = true → y.ok) ∧ (b = false → n.ok)
  | .need b t => b = true ∧ t.ok
  | .both _ _ => False
def Tr.clean : Tr → Bool
  | .fail => false
  | .ret _ _ => true
  | .test _ y n => y.clean && n.clean
  | .need b t => b && t.clean
  | .both _ _ => false
theorem Tr.ok_of_clean : ∀ {t : Tr}, t.clean = true → t.ok
  | .ret _ _, _ => trivial
  | .test b y n, h => by
    have h' : y.clean = true ∧ n.clean = true := by simpa [Tr.clean] using h
    exact ⟨fun _ => ok_of_clean h'.1, fun _ => ok_of_clean h'.2⟩
  | .need b t, h => by
    have h' : b = true ∧ t.clean = true := by simpa [Tr.clean] using h
    exact ⟨h'.1, ok_of_clean h'.2⟩
  | .both _ _, h => by cases h
def pickC (vs : List Dv) (i j : Nat) : Ch :=
  match vs[i]? with
  | some d => d.chs.getD j (.u true 0#64)
  | none => .u true 0#64
def selC (t : Tr) (i j : Nat) : CK → Ch
  | .u => .u false (t.sel 0#64 fun vs => (pickC vs i j).U)
  | .i k => .x false (.int k (t.sel 0 fun vs => (pickC vs i j).I))
  | .b => .x false (.bool (t.sel false fun vs => (pickC vs i j).B))
  | .S => .S (t.sel St0 fun vs => (pickC vs i j).T)
  | .v => .x false (t.sel (.pointer none) fun vs => (pickC vs i j).V)
  | .k b => .x false (.pointer (some ⟨b, 0, none⟩))
def selG (t : Tr) (i j : Nat) : List CK → List Ch
  | [] => []
  | k :: ks => selC t i j k :: selG t i (j + 1) ks
def selD (t : Tr) (i : Nat) : DK → Dv
  | .s k => .s (selC t i 0 k)
  | .g ks => .g (selG t i 0 ks)
def outs (t : Tr) (i : Nat) : List DK → List Dv
  | [] => []
  | k :: ks => selD t i k :: outs t (i + 1) ks
theorem selC_ret (m : Option HS) (vs : List Dv) (i j : Nat) (k : CK) (h : (pickC vs i j).is k = true) : (selC (.ret vs m) i j k).cells = (pickC vs i j).cells ∧ (selC (.ret vs m) i j k).one = (pickC vs i j).one := by
  generalize hc : pickC vs i j = c at h
  cases k <;> simp only [selC, Tr.sel, hc] <;> cases c <;> first | (cases h; done) | exact ⟨rfl, rfl⟩ | skip
  all_goals (rename_i st v; cases v <;> first | (cases h; done) | exact ⟨rfl, rfl⟩ | skip)
  all_goals (rename_i k1 k2 n; have e : k2 = k1 := by simpa [Ch.is] using h)
  all_goals subst e
  all_goals exact ⟨rfl, rfl⟩
theorem selG_ret (m : Option HS) (vs : List Dv) (i : Nat) (d : Dv) (hd : vs[i]? = some d) : ∀ (ks : List CK) (j : Nat) (cs : List Ch), (∀ m, cs[m]? = d.chs[j + m]?) → isAll cs ks = true → flat (selG (.ret vs m) i j ks) = flat cs
  | [], j, cs, hcs, h => by cases cs with | nil => rfl | cons c cs => cases h
  | k :: ks, j, cs, hcs, h => by
    cases cs with
    | nil => cases h
    | cons c cs =>
      have h' : c.is k = true ∧ isAll cs ks = true := by simpa [isAll] using h
      have hp : pickC vs i j = c := by
        unfold pickC
        rw [hd]
        have := hcs 0
        simp at this
        show d.chs.getD j _ = c
        rw [List.getD_eq_getElem?_getD, ← this]; rfl
      show (selC (.ret vs m) i j k).cells ++ flat (selG (.ret vs m) i (j + 1) ks) = c.cells ++ flat cs
      have h1 := (selC_ret m vs i j k (by rw [hp]; exact h'.1)).1
      rw [h1, hp, selG_ret m vs i d hd ks (j + 1) cs (fun m => by have := hcs (m + 1); simp at this; rw [this]; congr 1; omega) h'.2]
theorem selD_ret (m : Option HS) (vs : List Dv) (i : Nat) (d : Dv) (hd : vs[i]? = some d) (k : DK) (h : d.is k = true) : (selD (.ret vs m) i k).val = d.val := by
  cases d with
  | s c =>
    cases k with
    | g ks => cases h
    | s k =>
      have hp : pickC vs i 0 = c := by unfold pickC; rw [hd]; rfl
      have := (selC_ret m vs i 0 k (by rw [hp]; exact h)).2
      rw [hp] at this
      exact this
  | g cs =>
    cases k with
    | s k => cases h
    | g ks =>
      show Value.agg (flat (selG (.ret vs m) i 0 ks)).toArray = Value.agg (flat cs).toArray
      rw [selG_ret m vs i (.g cs) hd ks 0 cs (fun m => by show _ = cs[0 + m]?; rw [Nat.zero_add]) h]
theorem outs_ret (m : Option HS) (vs0 : List Dv) : ∀ (ks : List DK) (i : Nat) (vs : List Dv), (∀ m, vs[m]? = vs0[i + m]?) → areAll vs ks = true → (outs (.ret vs0 m) i ks).map Dv.val = vs.map Dv.val
  | [], i, vs, hv, h => by cases vs with | nil => rfl | cons d ds => cases h
  | k :: ks, i, vs, hv, h => by
    cases vs with
    | nil => cases h
    | cons d ds =>
      have h' : d.is k = true ∧ areAll ds ks = true := by simpa [areAll] using h
      have h0 := hv 0
      simp at h0
      show (selD (.ret vs0 m) i k).val :: (outs (.ret vs0 m) (i + 1) ks).map Dv.val = d.val :: ds.map Dv.val
      rw [selD_ret m vs0 i d h0.symm k h'.1, outs_ret m vs0 ks (i + 1) ds (fun m => by have := hv (m + 1); simp at this; rw [this]; congr 1; omega) h'.2]
theorem resVal_map {vs vs' : List Dv} (h : vs.map Dv.val = vs'.map Dv.val) : resVal vs = resVal vs' := by
  have hl : vs.length = vs'.length := by simpa using congrArg List.length h
  match vs, vs', hl, h with
  | [], [], _, _ => rfl
  | [a], [b], _, h => simpa [resVal] using h
  | a :: b :: l, c :: d :: l', _, h => show Value.tuple ((a :: b :: l).map Dv.val).toArray = Value.tuple ((c :: d :: l').map Dv.val).toArray; rw [h]
def Tr.like (t t' : Tr) : Prop := (∀ d π, t.sel (α := BitVec 64) d π = t'.sel d π) ∧ (∀ d π, t.sel (α := Int) d π = t'.sel d π) ∧ (∀ d π, t.sel (α := Bool) d π = t'.sel d π) ∧ (∀ d π, t.sel (α := St) d π = t'.sel d π) ∧ (∀ d π, t.sel (α := Value) d π = t'.sel d π)
theorem selC_like {t t' : Tr} (h : t.like t') (i j : Nat) (k : CK) : selC t i j k = selC t' i j k := by
  obtain ⟨h1, h2, h3, h4, h5⟩ := h
  cases k <;> simp only [selC, h1, h2, h3, h4, h5]
theorem selG_like {t t' : Tr} (h : t.like t') (i : Nat) : ∀ (ks : List CK) (j : Nat), selG t i j ks = selG t' i j ks
  | [], _ => rfl
  | k :: ks, j => by show selC t i j k :: selG t i (j + 1) ks = selC t' i j k :: selG t' i (j + 1) ks; rw [selC_like h, selG_like h i ks]
theorem outs_like {t t' : Tr} (h : t.like t') : ∀ (ks : List DK) (i : Nat), outs t i ks = outs t' i ks
  | [], _ => rfl
  | k :: ks, i => by
    show selD t i k :: outs t (i + 1) ks = selD t' i k :: outs t' (i + 1) ks
    rw [outs_like h ks]
    cases k with
    | s k => show Dv.s (selC t i 0 k) :: _ = Dv.s (selC t' i 0 k) :: _; rw [selC_like h]
    | g l => show Dv.g (selG t i 0 l) :: _ = Dv.g (selG t' i 0 l) :: _; rw [selG_like h]
theorem outs_holds (sh : List DK) : ∀ (t : Tr), t.ok → t.is sh = true → t.holds fun vs _ => resVal vs = resVal (outs t 0 sh)
  | .fail, h, _ => h
  | .ret vs m, _, h => resVal_map (outs_ret m vs sh 0 vs (fun m => by rw [Nat.zero_add]) h).symm
  | .test b y n, h, hi => by
    have h' : y.is sh = true ∧ n.is sh = true := by simpa [Tr.is] using hi
    refine ⟨fun e => ?_, fun e => ?_⟩
    · subst e
      have := outs_like (t := .test true y n) (t' := y) ⟨fun _ _ => rfl, fun _ _ => rfl, fun _ _ => rfl, fun _ _ => rfl, fun _ _ => rfl⟩ sh 0
      rw [this]; exact outs_holds sh y (h.1 rfl) h'.1
    · subst e
      have := outs_like (t := .test false y n) (t' := n) ⟨fun _ _ => rfl, fun _ _ => rfl, fun _ _ => rfl, fun _ _ => rfl, fun _ _ => rfl⟩ sh 0
      rw [this]; exact outs_holds sh n (h.2 rfl) h'.2
  | .need b t, h, hi => by
    have := outs_like (t := .need b t) (t' := t) ⟨fun _ _ => rfl, fun _ _ => rfl, fun _ _ => rfl, fun _ _ => rfl, fun _ _ => rfl⟩ sh 0
    rw [this]; exact ⟨h.1, outs_holds sh t h.2 hi⟩
  | .both _ _, h, _ => h.elim
theorem gives_of {P : Program} {E : Env} (hE : EnvOk P E) (hm : P.follows .mixedOrders = true) {f : FuncId} {fn : Func} (hf : P.funcs[f]? = some fn) {n : Nat} {args : List Dv} {sh : List DK} (h : (evF P E n fn args).ok) (hs : (evF P E n fn args).is sh = true) :
    Gives P f (args.map Dv.val).toArray (resVal (outs (evF P E n fn args) 0 sh)) := fun w =>
  (evF_ok hE hm hf (outs_holds sh _ h hs) w).mono fun e w' ⟨⟨vs, _, h1, h2⟩, h3⟩ => ⟨by rw [h2, h1], h3⟩
def Tr.needB : Tr → Bool
  | .fail => false
  | .ret _ _ => true
  | .test b y n => bif b then y.needB else n.needB
  | .need b t => b && t.needB
  | .both a _ => a.needB
def Tr.nob : Tr → Bool
  | .fail => true
  | .ret _ _ => true
  | .test _ y n => y.nob && n.nob
  | .need _ t => t.nob
  | .both _ _ => false
theorem Tr.ok_of_need : ∀ {t : Tr}, t.needB = true → t.nob = true → t.ok
  | .fail, h, _ => by cases h
  | .ret _ _, _, _ => trivial
  | .test b y n, h, e => by
    have e' : y.nob = true ∧ n.nob = true := by simpa [Tr.nob] using e
    exact ⟨fun c => by subst c; exact ok_of_need h e'.1, fun c => by subst c; exact ok_of_need h e'.2⟩
  | .need b t, h, e => by
    have h' : b = true ∧ t.needB = true := by simpa [Tr.needB] using h
    exact ⟨h'.1, ok_of_need h'.2 e⟩
  | .both _ _, _, e => by cases e
def Tr.norm : Tr → Tr
  | .fail => .fail
  | .ret vs m => .ret vs m
  | .test b y n => .test b y.norm n.norm
  | .need b t => .need b t.norm
  | .both a _ => a.norm
def Tr.L : Tr → List Tr
  | .fail => []
  | .ret _ _ => []
  | .test _ y n => y.L ++ n.L
  | .need _ t => t.L
  | .both a b => a.norm :: (a.L ++ b.L)
def Tr.R : Tr → List Tr
  | .fail => []
  | .ret _ _ => []
  | .test _ y n => y.R ++ n.R
  | .need _ t => t.R
  | .both a b => b.norm :: (a.R ++ b.R)
theorem Tr.LR : ∀ (t : Tr), t.L.length = t.R.length
  | .fail => rfl
  | .ret _ _ => rfl
  | .test _ y n => by simp [Tr.L, Tr.R, Tr.LR y, Tr.LR n]
  | .need _ t => Tr.LR t
  | .both a b => by simp [Tr.L, Tr.R, Tr.LR a, Tr.LR b]
theorem holds_norm {R : List Dv → Option HS → Prop} : ∀ (t : Tr), t.L = t.R → t.norm.holds R → t.holds R
  | .fail, _, h => h
  | .ret _ _, _, h => h
  | .test b y n, e, h => by
    have e' : y.L ++ n.L = y.R ++ n.R := e
    obtain ⟨e1, e2⟩ := List.append_inj e' (Tr.LR y)
    exact ⟨fun c => holds_norm y e1 (h.1 c), fun c => holds_norm n e2 (h.2 c)⟩
  | .need b t, e, h => ⟨h.1, holds_norm t e h.2⟩
  | .both a b, e, h => by
    have e' : a.norm :: (a.L ++ b.L) = b.norm :: (a.R ++ b.R) := e
    injection e' with e0 e'
    obtain ⟨e1, e2⟩ := List.append_inj e' (Tr.LR a)
    exact ⟨holds_norm a e1 h, holds_norm b e2 (e0 ▸ h)⟩
theorem Tr.ok_norm : ∀ {t : Tr}, t.needB = true → t.norm.ok
  | .fail, h => by cases h
  | .ret _ _, _ => trivial
  | .test b y n, h => ⟨fun c => by subst c; exact ok_norm (t := y) h, fun c => by subst c; exact ok_norm (t := n) h⟩
  | .need b t, h => by
    have h' : b = true ∧ t.needB = true := by simpa [Tr.needB] using h
    exact ⟨h'.1, ok_norm h'.2⟩
  | .both a _, h => ok_norm (t := a) h
theorem norm_is (sh : List DK) : ∀ (t : Tr), t.norm.is sh = t.is sh
  | .fail => rfl
  | .ret _ _ => rfl
  | .test b y n => by show (y.norm.is sh && n.norm.is sh) = (y.is sh && n.is sh); rw [norm_is sh y, norm_is sh n]
  | .need b t => norm_is sh t
  | .both a _ => norm_is sh a
theorem norm_sel {α : Type} (d : α) (π : List Dv → α) : ∀ (t : Tr), t.norm.sel d π = t.sel d π
  | .fail => rfl
  | .ret _ _ => rfl
  | .test b y n => by show (bif b then y.norm.sel d π else n.norm.sel d π) = (bif b then y.sel d π else n.sel d π); rw [norm_sel d π y, norm_sel d π n]
  | .need b t => norm_sel d π t
  | .both a _ => norm_sel d π a
theorem norm_like (t : Tr) : t.norm.like t := ⟨fun d π => norm_sel d π t, fun d π => norm_sel d π t, fun d π => norm_sel d π t, fun d π => norm_sel d π t, fun d π => norm_sel d π t⟩
theorem outs_norm {t : Tr} {sh : List DK} (h : t.needB = true) (hs : t.is sh = true) (hL : t.L = t.R) : t.holds fun vs _ => resVal vs = resVal (outs t 0 sh) := by
  have := outs_holds sh t.norm (Tr.ok_norm h) (by rw [norm_is]; exact hs)
  rw [outs_like (norm_like t)] at this
  exact holds_norm t hL this
def told (t : Tr) (sh : List DK) : Option (Bool × AV) :=
  match sh with
  | [k] => some (t.needB, .d (selD t 0 k))
  | ks => some (t.needB, .t (outs t 0 ks))
theorem told_ok {P : Program} {E : Env} (hE : EnvOk P E) (hm : P.follows .mixedOrders = true) {f : FuncId} {fn : Func} (hf : P.funcs[f]? = some fn) {n : Nat} {args xs0 : List Dv} (ha : args.map Dv.val = xs0.map Dv.val) {sh : List DK} {t : Tr} (ht : t = evF P E n fn xs0)
    (hs : t.is sh = true) (hk : ∀ xs, quick P (callFunc f xs) = some (.enter f xs)) {m : Bool} {av : AV} (h : told t sh = some (m, av)) (hn : m = true) (hL : t.L = t.R := by kernel_rfl) :
    (∀ xs, quick P (callFunc f xs) = some (.enter f xs)) ∧ ∃ v, (∀ σ, VRel σ av v) ∧ Gives P f (args.map Dv.val).toArray v := by
  refine ⟨hk, resVal (outs t 0 sh), ?_, ?_⟩
  · intro σ
    unfold told at h
    split at h
    · cases h; rfl
    · rename_i h1; cases h
      show resVal (outs t 0 sh) = .tuple _
      match sh, h1 with
      | [], _ => rfl
      | [k], h1 => exact absurd rfl (h1 k)
      | a :: b :: l, _ => rfl
  · have hneed : t.needB = true := by
      unfold told at h
      split at h
      · cases h; exact hn
      · cases h; exact hn
    rw [ha]
    subst ht
    exact fun w => (evF_ok hE hm hf (outs_norm hneed hs hL) w).mono fun e w' ⟨⟨vs, _, h1, h2⟩, h3⟩ => ⟨by rw [h2, h1], h3⟩
def cU : Ch → Option (BitVec 64)
  | .u _ b => some b
  | _ => none
def cI (k : IntKind) : Ch → Option Int
  | .x _ (.int k' n) => if k' = k then some n else none
  | _ => none
def cB : Ch → Option Bool
  | .x _ (.bool b) => some b
  | _ => none
def cS : Ch → Option St
  | .S s => some s
  | _ => none
theorem cU_ok {c : Ch} {b : BitVec 64} (h : cU c = some b) : c.cells = (Ch.u false b).cells ∧ c.one = (Ch.u false b).one := by
  cases c <;> first | (cases h; done) | (cases h; exact ⟨rfl, rfl⟩)
theorem cI_ok {k : IntKind} {c : Ch} {n : Int} (h : cI k c = some n) : c.cells = (Ch.x false (.int k n)).cells ∧ c.one = (Ch.x false (.int k n)).one := by
  unfold cI at h
  split at h
  · split at h
    · rename_i e; cases h; subst e; exact ⟨rfl, rfl⟩
    · cases h
  · cases h
theorem cB_ok {c : Ch} {b : Bool} (h : cB c = some b) : c.cells = (Ch.x false (.bool b)).cells ∧ c.one = (Ch.x false (.bool b)).one := by
  unfold cB at h
  split at h
  · cases h; exact ⟨rfl, rfl⟩
  · cases h
theorem cS_ok {c : Ch} {s : St} (h : cS c = some s) : c.cells = (Ch.S s).cells ∧ c.one = (Ch.S s).one := by
  cases c <;> first | (cases h; done) | (cases h; exact ⟨rfl, rfl⟩)
theorem bind_some {α β : Type} {x : Option α} {f : α → Option β} {b : β} (h : x.bind f = some b) : ∃ a, x = some a ∧ f a = some b := by
  cases x with
  | none => cases h
  | some a => exact ⟨a, rfl, h⟩
def Env.add (E : Env) (f : FuncId) (s : List Dv → Option (Bool × AV)) : Env := { zt := E.zt, spec := fun g args => if g = f then s args else E.spec g args, specL := E.specL, specR := E.specR, specX := E.specX, specM := E.specM, fx := E.fx }
theorem EnvOk.add {P : Program} {E : Env} (h : EnvOk P E) (f : FuncId) (s : List Dv → Option (Bool × AV))
    (hs : ∀ args n av, s args = some (n, av) → n = true → (∀ xs, quick P (callFunc f xs) = some (.enter f xs)) ∧ ∃ v, (∀ σ, VRel σ av v) ∧ Gives P f (args.map Dv.val).toArray v) : EnvOk P (E.add f s) :=
  ⟨h.zt, fun g args n av hg hn => by
    have hg' : (if g = f then s args else E.spec g args) = some (n, av) := hg
    split at hg'
    · rename_i e; subst e; exact hs args n av hg' hn
    · exact h.spec g args n av hg' hn, h.specL, h.specR, h.specX, h.specM⟩
def Env.addL (E : Env) (f : FuncId) (s : List Dv → Nat → List Ch → Option (Bool × AV)) : Env := { zt := E.zt, spec := E.spec, specL := fun g ds m cs => if g = f then s ds m cs else E.specL g ds m cs, specR := E.specR, specX := E.specX, specM := E.specM, fx := E.fx }
theorem EnvOk.addL {P : Program} {E : Env} (h : EnvOk P E) (f : FuncId) (s : List Dv → Nat → List Ch → Option (Bool × AV))
    (hs : ∀ ds m cs n av, s ds m cs = some (n, av) → n = true → (∀ xs, quick P (callFunc f xs) = some (.enter f xs)) ∧ ∃ v, (∀ σ, VRel σ av v) ∧
      ∀ (w : World) (b : Nat) (T : TypeId), w.heap[b]? = some (.cells (flat cs).toArray T (0, 0)) → Calls P f (ds.map Dv.val ++ [Value.slice (some ⟨b, 0, none⟩) m m]).toArray w fun e w' => e = .returned v ∧ Below w.heap.size w w') : EnvOk P (E.addL f s) :=
  ⟨h.zt, h.spec, fun g ds m cs n av hg hn => by
    have hg' : (if g = f then s ds m cs else E.specL g ds m cs) = some (n, av) := hg
    split at hg'
    · rename_i e; subst e; exact hs ds m cs n av hg' hn
    · exact h.specL g ds m cs n av hg' hn, h.specR, h.specX, h.specM⟩
def Env.addR (E : Env) (f : FuncId) (s : List AV → Hp → Option (Bool × AV)) : Env := { zt := E.zt, spec := E.spec, specL := E.specL, specR := fun g avs H => if g = f then (match s avs H with | some r => some r | none => E.specR g avs H) else E.specR g avs H, specX := E.specX, specM := E.specM, fx := E.fx }
theorem EnvOk.addR {P : Program} {E : Env} (h : EnvOk P E) (f : FuncId) (s : List AV → Hp → Option (Bool × AV)) (hk : ∀ xs, quick P (callFunc f xs) = some (.enter f xs))
    (hs : ∀ avs H n av, s avs H = some (n, av) → n = true → ReadOk P f avs H av) : EnvOk P (E.addR f s) :=
  ⟨h.zt, h.spec, h.specL, fun g avs H n av hg hn => by
    have hg' : (if g = f then (match s avs H with | some r => some r | none => E.specR g avs H) else E.specR g avs H) = some (n, av) := hg
    split at hg'
    · rename_i e; subst e
      split at hg'
      · rename_i r hr; cases hg'; exact ⟨hk, hs avs H n av hr hn⟩
      · exact h.specR g avs H n av hg' hn
    · exact h.specR g avs H n av hg' hn, h.specX, h.specM⟩
def Env.addX (E : Env) (f : FuncId) (s : List AV → Hp → Option (Bool × AV × Hp)) : Env := { zt := E.zt, spec := E.spec, specL := E.specL, specR := E.specR, specX := fun g avs H => if g = f then s avs H else E.specX g avs H, specM := E.specM, fx := fun g => g == f || E.fx g }
theorem EnvOk.addX {P : Program} {E : Env} (h : EnvOk P E) (f : FuncId) (s : List AV → Hp → Option (Bool × AV × Hp)) (hk : ∀ xs, quick P (callFunc f xs) = some (.enter f xs))
    (hs : ∀ avs H n av H', s avs H = some (n, av, H') → n = true → TurnOk P f avs H av H') : EnvOk P (E.addX f s) :=
  ⟨h.zt, h.spec, h.specL, h.specR, fun g avs H n av H' hg hn => by
    have hg' : (if g = f then s avs H else E.specX g avs H) = some (n, av, H') := hg
    split at hg'
    · rename_i e; subst e; exact ⟨hk, hs avs H n av H' hg' hn⟩
    · exact h.specX g avs H n av H' hg' hn, h.specM⟩
def Env.addM (E : Env) (f : FuncId) (s : List AV → Hp → Option (Bool × AV × HS)) : Env := { zt := E.zt, spec := E.spec, specL := E.specL, specR := E.specR, specX := E.specX, specM := fun g avs H => if g = f then s avs H else E.specM g avs H, fx := fun g => g == f || E.fx g }
theorem EnvOk.addM {P : Program} {E : Env} (h : EnvOk P E) (f : FuncId) (s : List AV → Hp → Option (Bool × AV × HS)) (hk : ∀ xs, quick P (callFunc f xs) = some (.enter f xs))
    (hs : ∀ avs H n av S', s avs H = some (n, av, S') → n = true → TurnOk P f avs H av ⟨H.bs, some S', H.rw, H.ro⟩) : EnvOk P (E.addM f s) :=
  ⟨h.zt, h.spec, h.specL, h.specR, h.specX, fun g avs H n av S' hg hn => by
    have hg' : (if g = f then s avs H else E.specM g avs H) = some (n, av, S') := hg
    split at hg'
    · rename_i e; subst e; exact ⟨hk, hs avs H n av S' hg' hn⟩
    · exact h.specM g avs H n av S' hg' hn⟩
end Go.Proofs.YtfehilinnalflaaGreat
namespace Go.Proofs.YtfehilinnalflaaGreat
open Go.RowKit Go.BigFrame
set_option linter.unusedSimpArgs false
set_option linter.unusedVariables false
set_option maxRecDepth 100000
def ztA (P : Program) : Nat → TypeId → Option (List Ch)
  | 0, _ => none
  | n + 1, t => if t = 37 then some [.S St0] else match P.underlying t with
    | some (.int .u64) => some [.u true 0#64]
    | some (.int k) => some [.x true (.int k 0)]
    | some .bool => some [.x true (.bool false)]
    | some (.struct fs) => (fs.toList.mapM fun f => ztA P n f.type).map List.flatten
    | some (.array m e) => (ztA P n e).map fun l => (List.replicate m l).flatten
    | some (.pointer _) => some [.x true (.pointer none)]
    | _ => none
def LZ : List TypeId := [3, 28, 34, 35, 37, 45, 47, 54, 119, 120, 130, 141, 142, 143, 144, 145, 146, 147, 163, 173, 174, 184, 185, 196, 202, 207, 220, 236, 238, 242, 262, 267, 269, 287, 289, 291, 297, 298, 305, 310, 329, 330, 124]
noncomputable def ztP (t : TypeId) : Option (List Ch) := if LZ.elem t = true then ztA Tryz.prog 6 t else none
def ztChk (t : TypeId) : Prop := (Tryz.prog.info? t).map (fun it => it.zero.map (·.cells)) = some (some (flat ((ztA Tryz.prog 6 t).getD [])).toArray) ∧ okChs ((ztA Tryz.prog 6 t).getD []) = true
theorem ztChk0 : ztChk 3 := ⟨by kernel_rfl, by kernel_rfl⟩
theorem ztChk1 : ztChk 28 := ⟨by kernel_rfl, by kernel_rfl⟩
theorem ztChk2 : ztChk 34 := ⟨by kernel_rfl, by kernel_rfl⟩
theorem ztChk3 : ztChk 35 := ⟨by kernel_rfl, by kernel_rfl⟩
theorem ztChk4 : ztChk 37 := ⟨by kernel_rfl, by kernel_rfl⟩
theorem ztChk5 : ztChk 45 := ⟨by kernel_rfl, by kernel_rfl⟩
theorem ztChk6 : ztChk 47 := ⟨by kernel_rfl, by kernel_rfl⟩
theorem ztChk7 : ztChk 54 := ⟨by kernel_rfl, by kernel_rfl⟩
theorem ztChk8 : ztChk 119 := ⟨by kernel_rfl, by kernel_rfl⟩
theorem ztChk9 : ztChk 120 := ⟨by kernel_rfl, by kernel_rfl⟩
theorem ztChk10 : ztChk 130 := ⟨by kernel_rfl, by kernel_rfl⟩
theorem ztChk11 : ztChk 141 := ⟨by kernel_rfl, by kernel_rfl⟩
theorem ztChk12 : ztChk 142 := ⟨by kernel_rfl, by kernel_rfl⟩
theorem ztChk13 : ztChk 143 := ⟨by kernel_rfl, by kernel_rfl⟩
theorem ztChk14 : ztChk 144 := ⟨by kernel_rfl, by kernel_rfl⟩
theorem ztChk15 : ztChk 145 := ⟨by kernel_rfl, by kernel_rfl⟩
theorem ztChk16 : ztChk 146 := ⟨by kernel_rfl, by kernel_rfl⟩
theorem ztChk17 : ztChk 147 := ⟨by kernel_rfl, by kernel_rfl⟩
theorem ztChk18 : ztChk 163 := ⟨by kernel_rfl, by kernel_rfl⟩
theorem ztChk19 : ztChk 173 := ⟨by kernel_rfl, by kernel_rfl⟩
theorem ztChk20 : ztChk 174 := ⟨by kernel_rfl, by kernel_rfl⟩
theorem ztChk21 : ztChk 184 := ⟨by kernel_rfl, by kernel_rfl⟩
theorem ztChk22 : ztChk 185 := ⟨by kernel_rfl, by kernel_rfl⟩
theorem ztChk23 : ztChk 196 := ⟨by kernel_rfl, by kernel_rfl⟩
theorem ztChk24 : ztChk 202 := ⟨by kernel_rfl, by kernel_rfl⟩
theorem ztChk25 : ztChk 207 := ⟨by kernel_rfl, by kernel_rfl⟩
theorem ztChk26 : ztChk 220 := ⟨by kernel_rfl, by kernel_rfl⟩
theorem ztChk27 : ztChk 236 := ⟨by kernel_rfl, by kernel_rfl⟩
theorem ztChk28 : ztChk 238 := ⟨by kernel_rfl, by kernel_rfl⟩
theorem ztChk29 : ztChk 242 := ⟨by kernel_rfl, by kernel_rfl⟩
theorem ztChk30 : ztChk 262 := ⟨by kernel_rfl, by kernel_rfl⟩
theorem ztChk31 : ztChk 267 := ⟨by kernel_rfl, by kernel_rfl⟩
theorem ztChk32 : ztChk 269 := ⟨by kernel_rfl, by kernel_rfl⟩
theorem ztChk33 : ztChk 287 := ⟨by kernel_rfl, by kernel_rfl⟩
theorem ztChk34 : ztChk 289 := ⟨by kernel_rfl, by kernel_rfl⟩
theorem ztChk35 : ztChk 291 := ⟨by kernel_rfl, by kernel_rfl⟩
theorem ztChk36 : ztChk 297 := ⟨by kernel_rfl, by kernel_rfl⟩
theorem ztChk37 : ztChk 298 := ⟨by kernel_rfl, by kernel_rfl⟩
theorem ztChk38 : ztChk 305 := ⟨by kernel_rfl, by kernel_rfl⟩
theorem ztChk39 : ztChk 310 := ⟨by kernel_rfl, by kernel_rfl⟩
theorem ztChk40 : ztChk 329 := ⟨by kernel_rfl, by kernel_rfl⟩
theorem ztChk41 : ztChk 330 := ⟨by kernel_rfl, by kernel_rfl⟩
theorem ztChk42 : ztChk 124 := ⟨by kernel_rfl, by kernel_rfl⟩
theorem ztP_ok : ZtOk Tryz.prog ztP := by
  have all : ∀ t, LZ.elem t = true → ztChk t := by
    intro t ht
    have ht' : t = 3 ∨ t = 28 ∨ t = 34 ∨ t = 35 ∨ t = 37 ∨ t = 45 ∨ t = 47 ∨ t = 54 ∨ t = 119 ∨ t = 120 ∨ t = 130 ∨ t = 141 ∨ t = 142 ∨ t = 143 ∨ t = 144 ∨ t = 145 ∨ t = 146 ∨ t = 147 ∨ t = 163 ∨ t = 173 ∨ t = 174 ∨ t = 184 ∨ t = 185 ∨ t = 196 ∨ t = 202 ∨ t = 207 ∨ t = 220 ∨ t = 236 ∨ t = 238 ∨ t = 242 ∨ t = 262 ∨ t = 267 ∨ t = 269 ∨ t = 287 ∨ t = 289 ∨ t = 291 ∨ t = 297 ∨ t = 298 ∨ t = 305 ∨ t = 310 ∨ t = 329 ∨ t = 330 ∨ t = 124 := by simpa [LZ] using ht
    rcases ht' with rfl | rfl | rfl | rfl | rfl | rfl | rfl | rfl | rfl | rfl | rfl | rfl | rfl | rfl | rfl | rfl | rfl | rfl | rfl | rfl | rfl | rfl | rfl | rfl | rfl | rfl | rfl | rfl | rfl | rfl | rfl | rfl | rfl | rfl | rfl | rfl | rfl | rfl | rfl | rfl | rfl | rfl | rfl
    · exact ztChk0
    · exact ztChk1
    · exact ztChk2
    · exact ztChk3
    · exact ztChk4
    · exact ztChk5
    · exact ztChk6
    · exact ztChk7
    · exact ztChk8
    · exact ztChk9
    · exact ztChk10
    · exact ztChk11
    · exact ztChk12
    · exact ztChk13
    · exact ztChk14
    · exact ztChk15
    · exact ztChk16
    · exact ztChk17
    · exact ztChk18
    · exact ztChk19
    · exact ztChk20
    · exact ztChk21
    · exact ztChk22
    · exact ztChk23
    · exact ztChk24
    · exact ztChk25
    · exact ztChk26
    · exact ztChk27
    · exact ztChk28
    · exact ztChk29
    · exact ztChk30
    · exact ztChk31
    · exact ztChk32
    · exact ztChk33
    · exact ztChk34
    · exact ztChk35
    · exact ztChk36
    · exact ztChk37
    · exact ztChk38
    · exact ztChk39
    · exact ztChk40
    · exact ztChk41
    · exact ztChk42
  intro t cs h
  unfold ztP at h
  split at h
  · rename_i he
    obtain ⟨h1, h2⟩ := all t he
    rw [h] at h1 h2
    cases hi : Tryz.prog.info? t with
    | none => rw [hi] at h1; cases h1
    | some it =>
      rw [hi] at h1
      cases hz : it.zero with
      | none => simp [hz] at h1
      | some z => exact ⟨⟨it, z, rfl, hz, by simpa [hz] using h1⟩, h2⟩
  · cases h
theorem hmix : Tryz.prog.follows .mixedOrders = true := by kernel_rfl
noncomputable def E0 : Env := ⟨ztP, fun _ _ => none, fun _ _ _ _ => none, fun _ _ _ => none, fun _ _ _ => none, fun _ _ _ => none, fun _ => false⟩
theorem E0_ok : EnvOk Tryz.prog E0 := ⟨ztP_ok, fun _ _ _ _ h => (by cases h), fun _ _ _ _ _ _ h => (by cases h), fun _ _ _ _ _ h => (by cases h), fun _ _ _ _ _ _ h => (by cases h), fun _ _ _ _ _ _ h => (by cases h)⟩
def s_bits (args : List Dv) : Option (Bool × AV) :=
  match args with
  | [.s (.u _ v), .s (.x _ (.int .i64 lo)), .s (.x _ (.int .i64 n))] => some (true, .d (.s (.u false (bitsB v (loOf lo) (nOf lo n)))))
  | _ => none
noncomputable def Ew0 : Env := E0.add 78 s_bits
theorem Ew0_ok : EnvOk Tryz.prog Ew0 := E0_ok.add _ _ (by
  intro args n av h hn
  unfold s_bits at h
  split at h
  · cases h; exact ⟨fun xs => by kernel_rfl, _, fun σ => rfl, bits_b _ _ _⟩
  · cases h)
def s_set (args : List Dv) : Option (Bool × AV) :=
  match args with
  | [.s (.u _ v), .s (.x _ (.int .i64 lo)), .s (.x _ (.int .i64 n)), .s (.u _ y)] => some (true, .d (.s (.u false (setB v (loOf lo) (nOf lo n) y))))
  | _ => none
noncomputable def Ew1 : Env := Ew0.add 79 s_set
theorem Ew1_ok : EnvOk Tryz.prog Ew1 := Ew0_ok.add _ _ (by
  intro args n av h hn
  unfold s_set at h
  split at h
  · cases h; exact ⟨fun xs => by kernel_rfl, _, fun σ => rfl, set_b _ _ _ _⟩
  · cases h)
def s_sext (args : List Dv) : Option (Bool × AV) :=
  match args with
  | [.s (.u _ v), .s (.x _ (.int .i64 n))] => some (true, .d (.s (.u false (sextB v (wOf n)))))
  | _ => none
noncomputable def Ew2 : Env := Ew1.add 201 s_sext
theorem Ew2_ok : EnvOk Tryz.prog Ew2 := Ew1_ok.add _ _ (by
  intro args n av h hn
  unfold s_sext at h
  split at h
  · cases h; exact ⟨fun xs => by kernel_rfl, _, fun σ => rfl, sext_b _ _⟩
  · cases h)
def s_zext (args : List Dv) : Option (Bool × AV) :=
  match args with
  | [.s (.u _ v), .s (.x _ (.int .i64 n))] => some (true, .d (.s (.u false (zextB v (wOf n)))))
  | _ => none
noncomputable def Ew3 : Env := Ew2.add 200 s_zext
theorem Ew3_ok : EnvOk Tryz.prog Ew3 := Ew2_ok.add _ _ (by
  intro args n av h hn
  unfold s_zext at h
  split at h
  · cases h; exact ⟨fun xs => by kernel_rfl, _, fun σ => rfl, zext_b _ _⟩
  · cases h)
def s_high (args : List Dv) : Option (Bool × AV) :=
  match args with
  | [.s (.u _ v), .s (.u _ y)] => some (true, .d (.s (.x false (.bool (v.slt y)))))
  | _ => none
noncomputable def Ew : Env := Ew3.add 223 s_high
theorem Ew_ok : EnvOk Tryz.prog Ew := Ew3_ok.add _ _ (by
  intro args n av h hn
  unfold s_high at h
  split at h
  · cases h; exact ⟨fun xs => by kernel_rfl, _, fun σ => rfl, high_b _ _⟩
  · cases h)
end Go.Proofs.YtfehilinnalflaaGreat
namespace Go.Proofs.YtfehilinnalflaaGreat
open Go.RowKit Go.BigFrame
set_option linter.unusedSimpArgs false
set_option linter.unusedVariables false
set_option maxRecDepth 100000
noncomputable def t_insn_Class (a0 : Int) : Tr := evF Tryz.prog Ew 120 Tryz.f71 [.s (.x false (.int .i64 a0))]
theorem is_insn_Class (a0 : Int) : (t_insn_Class a0).is [.s (.i .i64)] = true := by kernel_rfl
noncomputable def s_insn_Class (args : List Dv) : Option (Bool × AV) :=
  match args with
  | [.s c0] => (cI .i64 c0).bind fun a0 => told (t_insn_Class a0) [.s (.i .i64)]
  | _ => none
noncomputable def E_insn_Class : Env := Ew.add 71 s_insn_Class
theorem E_insn_Class_ok : EnvOk Tryz.prog E_insn_Class := Ew_ok.add _ _ (by
  intro args n av h hn
  unfold s_insn_Class at h
  split at h
  · rename_i c0
    obtain ⟨a0, h0, h⟩ := bind_some h
    exact told_ok (n := 120) (t := t_insn_Class a0) (sh := [.s (.i .i64)]) Ew_ok hmix Tryz.func71 (xs0 := [.s (.x false (.int .i64 a0))]) (by simp only [List.map_cons, List.map_nil, Dv.val, flat, (cI_ok h0).2]) rfl (is_insn_Class a0) (fun xs => by kernel_rfl) h hn
  · cases h)
noncomputable def t_insn_Size (a0 : Int) : Tr := evF Tryz.prog E_insn_Class 120 Tryz.f73 [.s (.x false (.int .i64 a0))]
theorem is_insn_Size (a0 : Int) : (t_insn_Size a0).is [.s (.i .i64)] = true := by kernel_rfl
noncomputable def s_insn_Size (args : List Dv) : Option (Bool × AV) :=
  match args with
  | [.s c0] => (cI .i64 c0).bind fun a0 => told (t_insn_Size a0) [.s (.i .i64)]
  | _ => none
noncomputable def E_insn_Size : Env := E_insn_Class.add 73 s_insn_Size
theorem E_insn_Size_ok : EnvOk Tryz.prog E_insn_Size := E_insn_Class_ok.add _ _ (by
  intro args n av h hn
  unfold s_insn_Size at h
  split at h
  · rename_i c0
    obtain ⟨a0, h0, h⟩ := bind_some h
    exact told_ok (n := 120) (t := t_insn_Size a0) (sh := [.s (.i .i64)]) E_insn_Class_ok hmix Tryz.func73 (xs0 := [.s (.x false (.int .i64 a0))]) (by simp only [List.map_cons, List.map_nil, Dv.val, flat, (cI_ok h0).2]) rfl (is_insn_Size a0) (fun xs => by kernel_rfl) h hn
  · cases h)
noncomputable def t_insn_jumps (a0 : Int) : Tr := evF Tryz.prog E_insn_Size 120 Tryz.f221 [.s (.x false (.int .i64 a0))]
theorem is_insn_jumps (a0 : Int) : (t_insn_jumps a0).is [.g [.b, .b, .b, .b, .i .i64, .i .i64, .i .i64]] = true := by kernel_rfl
noncomputable def s_insn_jumps (args : List Dv) : Option (Bool × AV) :=
  match args with
  | [.s c0] => (cI .i64 c0).bind fun a0 => told (t_insn_jumps a0) [.g [.b, .b, .b, .b, .i .i64, .i .i64, .i .i64]]
  | _ => none
noncomputable def E_insn_jumps : Env := E_insn_Size.add 221 s_insn_jumps
theorem E_insn_jumps_ok : EnvOk Tryz.prog E_insn_jumps := E_insn_Size_ok.add _ _ (by
  intro args n av h hn
  unfold s_insn_jumps at h
  split at h
  · rename_i c0
    obtain ⟨a0, h0, h⟩ := bind_some h
    exact told_ok (n := 120) (t := t_insn_jumps a0) (sh := [.g [.b, .b, .b, .b, .i .i64, .i .i64, .i .i64]]) E_insn_Size_ok hmix Tryz.func221 (xs0 := [.s (.x false (.int .i64 a0))]) (by simp only [List.map_cons, List.map_nil, Dv.val, flat, (cI_ok h0).2]) rfl (is_insn_jumps a0) (fun xs => by kernel_rfl) h hn
  · cases h)
noncomputable def t_insn_withNumber (a0 : Int) : Tr := evF Tryz.prog E_insn_jumps 120 Tryz.f222 [.s (.x false (.int .i64 a0))]
theorem is_insn_withNumber (a0 : Int) : (t_insn_withNumber a0).is [.g [.b, .b, .b, .b, .i .i64, .i .i64, .i .i64]] = true := by kernel_rfl
noncomputable def s_insn_withNumber (args : List Dv) : Option (Bool × AV) :=
  match args with
  | [.s c0] => (cI .i64 c0).bind fun a0 => told (t_insn_withNumber a0) [.g [.b, .b, .b, .b, .i .i64, .i .i64, .i .i64]]
  | _ => none
noncomputable def E_insn_withNumber : Env := E_insn_jumps.add 222 s_insn_withNumber
theorem E_insn_withNumber_ok : EnvOk Tryz.prog E_insn_withNumber := E_insn_jumps_ok.add _ _ (by
  intro args n av h hn
  unfold s_insn_withNumber at h
  split at h
  · rename_i c0
    obtain ⟨a0, h0, h⟩ := bind_some h
    exact told_ok (n := 120) (t := t_insn_withNumber a0) (sh := [.g [.b, .b, .b, .b, .i .i64, .i .i64, .i .i64]]) E_insn_jumps_ok hmix Tryz.func222 (xs0 := [.s (.x false (.int .i64 a0))]) (by simp only [List.map_cons, List.map_nil, Dv.val, flat, (cI_ok h0).2]) rfl (is_insn_withNumber a0) (fun xs => by kernel_rfl) h hn
  · cases h)
noncomputable def t_insn_Of (a0 : Int) : Tr := evF Tryz.prog E_insn_withNumber 120 Tryz.f179 [.s (.x false (.int .i64 a0))]
theorem is_insn_Of (a0 : Int) : (t_insn_Of a0).is [.g [.b, .b, .b, .b, .i .i64, .i .i64, .i .i64]] = true := by kernel_rfl
noncomputable def s_insn_Of (args : List Dv) : Option (Bool × AV) :=
  match args with
  | [.s c0] => (cI .i64 c0).bind fun a0 => told (t_insn_Of a0) [.g [.b, .b, .b, .b, .i .i64, .i .i64, .i .i64]]
  | _ => none
noncomputable def E_insn_Of : Env := E_insn_withNumber.add 179 s_insn_Of
theorem E_insn_Of_ok : EnvOk Tryz.prog E_insn_Of := E_insn_withNumber_ok.add _ _ (by
  intro args n av h hn
  unfold s_insn_Of at h
  split at h
  · rename_i c0
    obtain ⟨a0, h0, h⟩ := bind_some h
    exact told_ok (n := 120) (t := t_insn_Of a0) (sh := [.g [.b, .b, .b, .b, .i .i64, .i .i64, .i .i64]]) E_insn_withNumber_ok hmix Tryz.func179 (xs0 := [.s (.x false (.int .i64 a0))]) (by simp only [List.map_cons, List.map_nil, Dv.val, flat, (cI_ok h0).2]) rfl (is_insn_Of a0) (fun xs => by kernel_rfl) h hn
  · cases h)
noncomputable def t_insn_field (a0 : Bool) (a1 : Int) (a2 : Int) : Tr := evF Tryz.prog E_insn_Of 120 Tryz.f180 [.s (.x false (.bool a0)), .s (.x false (.int .i64 a1)), .s (.x false (.int .i64 a2))]
theorem is_insn_field (a0 : Bool) (a1 : Int) (a2 : Int) : (t_insn_field a0 a1 a2).is [.s (.b)] = true := by kernel_rfl
noncomputable def s_insn_field (args : List Dv) : Option (Bool × AV) :=
  match args with
  | [.s c0, .s c1, .s c2] => (cB c0).bind fun a0 => (cI .i64 c1).bind fun a1 => (cI .i64 c2).bind fun a2 => told (t_insn_field a0 a1 a2) [.s (.b)]
  | _ => none
noncomputable def E_insn_field : Env := E_insn_Of.add 180 s_insn_field
theorem E_insn_field_ok : EnvOk Tryz.prog E_insn_field := E_insn_Of_ok.add _ _ (by
  intro args n av h hn
  unfold s_insn_field at h
  split at h
  · rename_i c0 c1 c2
    obtain ⟨a0, h0, h⟩ := bind_some h
    obtain ⟨a1, h1, h⟩ := bind_some h
    obtain ⟨a2, h2, h⟩ := bind_some h
    exact told_ok (n := 120) (t := t_insn_field a0 a1 a2) (sh := [.s (.b)]) E_insn_Of_ok hmix Tryz.func180 (xs0 := [.s (.x false (.bool a0)), .s (.x false (.int .i64 a1)), .s (.x false (.int .i64 a2))]) (by simp only [List.map_cons, List.map_nil, Dv.val, flat, (cB_ok h0).2, (cI_ok h1).2, (cI_ok h2).2]) rfl (is_insn_field a0 a1 a2) (fun xs => by kernel_rfl) h hn
  · cases h)
noncomputable def t_insn_Is (a0 : Int) (a1 : Int) (a2 : Int) (a3 : Int) (a4 : Int) (a5 : Int) : Tr := evF Tryz.prog E_insn_field 120 Tryz.f117 [.g [.x false (.int .i64 a0), .x false (.int .i64 a1), .x false (.int .i64 a2), .x false (.int .i64 a3), .x false (.int .i64 a4), .x false (.int .i64 a5)]]
theorem is_insn_Is (a0 : Int) (a1 : Int) (a2 : Int) (a3 : Int) (a4 : Int) (a5 : Int) : (t_insn_Is a0 a1 a2 a3 a4 a5).is [.s (.b)] = true := by kernel_rfl
noncomputable def s_insn_Is (args : List Dv) : Option (Bool × AV) :=
  match args with
  | [.g [c0, c1, c2, c3, c4, c5]] => (cI .i64 c0).bind fun a0 => (cI .i64 c1).bind fun a1 => (cI .i64 c2).bind fun a2 => (cI .i64 c3).bind fun a3 => (cI .i64 c4).bind fun a4 => (cI .i64 c5).bind fun a5 => told (t_insn_Is a0 a1 a2 a3 a4 a5) [.s (.b)]
  | _ => none
noncomputable def E_insn_Is : Env := E_insn_field.add 117 s_insn_Is
theorem E_insn_Is_ok : EnvOk Tryz.prog E_insn_Is := E_insn_field_ok.add _ _ (by
  intro args n av h hn
  unfold s_insn_Is at h
  split at h
  · rename_i c0 c1 c2 c3 c4 c5
    obtain ⟨a0, h0, h⟩ := bind_some h
    obtain ⟨a1, h1, h⟩ := bind_some h
    obtain ⟨a2, h2, h⟩ := bind_some h
    obtain ⟨a3, h3, h⟩ := bind_some h
    obtain ⟨a4, h4, h⟩ := bind_some h
    obtain ⟨a5, h5, h⟩ := bind_some h
    exact told_ok (n := 120) (t := t_insn_Is a0 a1 a2 a3 a4 a5) (sh := [.s (.b)]) E_insn_field_ok hmix Tryz.func117 (xs0 := [.g [.x false (.int .i64 a0), .x false (.int .i64 a1), .x false (.int .i64 a2), .x false (.int .i64 a3), .x false (.int .i64 a4), .x false (.int .i64 a5)]]) (by simp only [List.map_cons, List.map_nil, Dv.val, flat, (cI_ok h0).1, (cI_ok h1).1, (cI_ok h2).1, (cI_ok h3).1, (cI_ok h4).1, (cI_ok h5).1]) rfl (is_insn_Is a0 a1 a2 a3 a4 a5) (fun xs => by kernel_rfl) h hn
  · cases h)
noncomputable def t_insn_Writes (a0 : Int) (a1 : Int) (a2 : Int) (a3 : Int) (a4 : Int) (a5 : Int) : Tr := evF Tryz.prog E_insn_Is 120 Tryz.f95 [.g [.x false (.int .i64 a0), .x false (.int .i64 a1), .x false (.int .i64 a2), .x false (.int .i64 a3), .x false (.int .i64 a4), .x false (.int .i64 a5)]]
theorem is_insn_Writes (a0 : Int) (a1 : Int) (a2 : Int) (a3 : Int) (a4 : Int) (a5 : Int) : (t_insn_Writes a0 a1 a2 a3 a4 a5).is [.s (.i .i64)] = true := by kernel_rfl
noncomputable def s_insn_Writes (args : List Dv) : Option (Bool × AV) :=
  match args with
  | [.g [c0, c1, c2, c3, c4, c5]] => (cI .i64 c0).bind fun a0 => (cI .i64 c1).bind fun a1 => (cI .i64 c2).bind fun a2 => (cI .i64 c3).bind fun a3 => (cI .i64 c4).bind fun a4 => (cI .i64 c5).bind fun a5 => told (t_insn_Writes a0 a1 a2 a3 a4 a5) [.s (.i .i64)]
  | _ => none
noncomputable def E_insn_Writes : Env := E_insn_Is.add 95 s_insn_Writes
theorem E_insn_Writes_ok : EnvOk Tryz.prog E_insn_Writes := E_insn_Is_ok.add _ _ (by
  intro args n av h hn
  unfold s_insn_Writes at h
  split at h
  · rename_i c0 c1 c2 c3 c4 c5
    obtain ⟨a0, h0, h⟩ := bind_some h
    obtain ⟨a1, h1, h⟩ := bind_some h
    obtain ⟨a2, h2, h⟩ := bind_some h
    obtain ⟨a3, h3, h⟩ := bind_some h
    obtain ⟨a4, h4, h⟩ := bind_some h
    obtain ⟨a5, h5, h⟩ := bind_some h
    exact told_ok (n := 120) (t := t_insn_Writes a0 a1 a2 a3 a4 a5) (sh := [.s (.i .i64)]) E_insn_Is_ok hmix Tryz.func95 (xs0 := [.g [.x false (.int .i64 a0), .x false (.int .i64 a1), .x false (.int .i64 a2), .x false (.int .i64 a3), .x false (.int .i64 a4), .x false (.int .i64 a5)]]) (by simp only [List.map_cons, List.map_nil, Dv.val, flat, (cI_ok h0).1, (cI_ok h1).1, (cI_ok h2).1, (cI_ok h3).1, (cI_ok h4).1, (cI_ok h5).1]) rfl (is_insn_Writes a0 a1 a2 a3 a4 a5) (fun xs => by kernel_rfl) h hn
  · cases h)
noncomputable def t_insn_Reads (a0 : Int) (a1 : Int) (a2 : Int) (a3 : Int) (a4 : Int) (a5 : Int) : Tr := evF Tryz.prog E_insn_Writes 120 Tryz.f157 [.g [.x false (.int .i64 a0), .x false (.int .i64 a1), .x false (.int .i64 a2), .x false (.int .i64 a3), .x false (.int .i64 a4), .x false (.int .i64 a5)]]
theorem is_insn_Reads (a0 : Int) (a1 : Int) (a2 : Int) (a3 : Int) (a4 : Int) (a5 : Int) : (t_insn_Reads a0 a1 a2 a3 a4 a5).is [.s (.i .i64), .s (.i .i64)] = true := by kernel_rfl
noncomputable def s_insn_Reads (args : List Dv) : Option (Bool × AV) :=
  match args with
  | [.g [c0, c1, c2, c3, c4, c5]] => (cI .i64 c0).bind fun a0 => (cI .i64 c1).bind fun a1 => (cI .i64 c2).bind fun a2 => (cI .i64 c3).bind fun a3 => (cI .i64 c4).bind fun a4 => (cI .i64 c5).bind fun a5 => told (t_insn_Reads a0 a1 a2 a3 a4 a5) [.s (.i .i64), .s (.i .i64)]
  | _ => none
noncomputable def E_insn_Reads : Env := E_insn_Writes.add 157 s_insn_Reads
theorem E_insn_Reads_ok : EnvOk Tryz.prog E_insn_Reads := E_insn_Writes_ok.add _ _ (by
  intro args n av h hn
  unfold s_insn_Reads at h
  split at h
  · rename_i c0 c1 c2 c3 c4 c5
    obtain ⟨a0, h0, h⟩ := bind_some h
    obtain ⟨a1, h1, h⟩ := bind_some h
    obtain ⟨a2, h2, h⟩ := bind_some h
    obtain ⟨a3, h3, h⟩ := bind_some h
    obtain ⟨a4, h4, h⟩ := bind_some h
    obtain ⟨a5, h5, h⟩ := bind_some h
    exact told_ok (n := 120) (t := t_insn_Reads a0 a1 a2 a3 a4 a5) (sh := [.s (.i .i64), .s (.i .i64)]) E_insn_Writes_ok hmix Tryz.func157 (xs0 := [.g [.x false (.int .i64 a0), .x false (.int .i64 a1), .x false (.int .i64 a2), .x false (.int .i64 a3), .x false (.int .i64 a4), .x false (.int .i64 a5)]]) (by simp only [List.map_cons, List.map_nil, Dv.val, flat, (cI_ok h0).1, (cI_ok h1).1, (cI_ok h2).1, (cI_ok h3).1, (cI_ok h4).1, (cI_ok h5).1]) rfl (is_insn_Reads a0 a1 a2 a3 a4 a5) (fun xs => by kernel_rfl) h hn
  · cases h)
noncomputable def FnAE : Env := E_insn_Reads
theorem FnAE_ok : EnvOk Tryz.prog FnAE := E_insn_Reads_ok
end Go.Proofs.YtfehilinnalflaaGreat
