/- Our bus, a copy of it, the document's bus and a step's block side by side: each call keeps the others; no condition but the state. -/
import Derived.Test.YtkjbhjmjfacjcaaRefBusF
import Derived.Test.YtkjbhjmjfacjcaaBusCopyB
import Derived.Test.YtkjbhjmjfacjcaaKnown7
namespace Go.Proofs.Ytkjbhjmjfacjcaa
open Go.RowKit Go.BigFrame
set_option linter.unusedSimpArgs false
set_option linter.unusedVariables false
set_option maxRecDepth 100000

def Own (b p g : Nat) (ks : Nat → Option Nat) (j : Nat) : Prop := j = b ∨ j = p ∨ j = g ∨ ∃ i, i < 8 ∧ ks i = some j
def OwnR (b q h : Nat) (j : Nat) : Prop := j = b ∨ j = q ∨ j = h
theorem IsBus.own_lt {w : World} {B b p g : Nat} {ks : Nat → Option Nat} {vs : Nat → Value} {S : BusV} (h : IsBus w B b p g ks vs S) {j : Nat} (o : Own b p g ks j) : j < w.heap.size := by
  obtain ⟨h1, h2, h3, h4⟩ := h.lt
  rcases o with rfl | rfl | rfl | ⟨i, hi, e⟩
  · exact h1
  · exact h2
  · exact h3
  · exact h4 i hi j e
theorem IsBus.same {w w' : World} {B b p g : Nat} {ks : Nat → Option Nat} {vs : Nat → Value} {S : BusV} (h : IsBus w B b p g ks vs S) (hs : ∀ j, Own b p g ks j → w'.heap[j]? = w.heap[j]?) : IsBus w' B b p g ks vs S :=
  { h with
    blk := by rw [hs b (.inl rfl)]; exact h.blk
    mem := by
      obtain ⟨rest, h1, h2⟩ := h.mem
      exact ⟨rest, by rw [hs p (.inr (.inl rfl))]; exact h1, by rw [hs g (.inr (.inr (.inl rfl)))]; exact h2⟩
    row := fun i hi => (h.row i hi).same fun q hq _ => hs q (.inr (.inr (.inr ⟨i, hi, hq⟩))) }
theorem IsBus.weak {w : World} {B B' b p g : Nat} {ks : Nat → Option Nat} {vs : Nat → Value} {S : BusV} (h : IsBus w B b p g ks vs S) (hB : B' ≤ B) : IsBus w B' b p g ks vs S :=
  { h with
    row := fun i hi => (h.row i hi).weak hB
    lb := Nat.le_trans hB h.lb
    lp := Nat.le_trans hB h.lp
    lg := Nat.le_trans hB h.lg }
theorem IsRb.same {w w' : World} {b q h : Nat} {R : RbV} (H : IsRb w b q h R) (hs : ∀ j, OwnR b q h j → w'.heap[j]? = w.heap[j]?) : IsRb w' b q h R :=
  ⟨by rw [hs b (.inl rfl)]; exact H.blk, by
      obtain ⟨rest, h1, h2⟩ := H.mem
      exact ⟨rest, by rw [hs q (.inr (.inl rfl))]; exact h1, by rw [hs h (.inr (.inr rfl))]; exact h2⟩, H.bq, H.bh⟩
theorem IsRb.own_lt {w : World} {b q h : Nat} {R : RbV} (H : IsRb w b q h R) {j : Nat} (o : OwnR b q h j) : j < w.heap.size := by
  rcases o with rfl | rfl | rfl
  · exact blk_lt H.blk
  · exact H.mem.p_lt
  · exact H.mem.g_lt
/-- A bus's rows written as slices. -/
theorem IsBus.slices {w : World} {B b p g : Nat} {ks : Nat → Option Nat} {vs : Nat → Value} {S : BusV} (h : IsBus w B b p g ks vs S) : ∃ (A : Nat → Option Addr) (N C : Nat → Nat), IsBus w B b p g ks (fun i => .slice (A i) (N i) (C i)) S := by
  have each : ∀ i, ∃ (q : Option Addr × Nat × Nat), i < 8 → vs i = .slice q.1 q.2.1 q.2.2 := by
    intro i
    by_cases hi : i < 8
    · obtain ⟨a, c, e⟩ := (h.row i hi).shape
      exact ⟨(a, _, c), fun _ => e⟩
    · exact ⟨(none, 0, 0), fun e => absurd e hi⟩
  have hq := fun i => Classical.choose_spec (each i)
  refine ⟨fun i => (Classical.choose (each i)).1, fun i => (Classical.choose (each i)).2.1, fun i => (Classical.choose (each i)).2.2, ?_⟩
  generalize hf : (fun i => Classical.choose (each i)) = f at *
  have hv : ∀ i, i < 8 → vs i = .slice (f i).1 (f i).2.1 (f i).2.2 := fun i hi => by rw [← hf]; exact hq i hi
  have e1 : (fun i => Value.slice (Classical.choose (each i)).1 (Classical.choose (each i)).2.1 (Classical.choose (each i)).2.2) = fun i => Value.slice (f i).1 (f i).2.1 (f i).2.2 := by rw [← hf]
  rw [e1]
  exact { h with
    blk := by
      rw [h.blk]
      unfold busA
      rw [hv 0 (by omega), hv 1 (by omega), hv 2 (by omega), hv 3 (by omega), hv 4 (by omega), hv 5 (by omega), hv 6 (by omega), hv 7 (by omega)]
    row := fun i hi => by have := h.row i hi; rw [hv i hi] at this; exact this }
/-- The three of them and the block k. -/
structure TrioN (w W : World) (b rb q h c k : Nat) (X : Option Obj) (S Sc : BusV) (R : RbV) (p g : Nat) (ks : Nat → Option Nat) (vs : Nat → Value) (pc gc : Nat) (kc : Nat → Option Nat) (vc : Nat → Value) : Prop where
  bus : IsBus W w.heap.size b p g ks vs S
  cop : IsBus W w.heap.size c pc gc kc vc Sc
  ref : IsRb W rb q h R
  blk : W.heap[k]? = X
  kl : k < W.heap.size
  hb : Below w.heap.size w W
  nc : ∀ j, Own b p g ks j → ¬ Own c pc gc kc j
  nr : ∀ j, Own b p g ks j → ¬ OwnR rb q h j
  nk : ¬ Own b p g ks k
  cr : ∀ j, Own c pc gc kc j → ¬ OwnR rb q h j
  ck : ¬ Own c pc gc kc k
  rk : ¬ OwnR rb q h k
  l1 : w.heap.size ≤ rb
  l2 : w.heap.size ≤ h
def Trio (w W : World) (b rb q h c k : Nat) (X : Option Obj) (S Sc : BusV) (R : RbV) : Prop := ∃ p g ks vs pc gc kc vc, TrioN w W b rb q h c k X S Sc R p g ks vs pc gc kc vc
/-- Without a copy. -/
def Duo (w W : World) (b rb q h : Nat) (S : BusV) (R : RbV) : Prop := ∃ p g ks vs, IsBus W w.heap.size b p g ks vs S ∧ IsRb W rb q h R ∧ Below w.heap.size w W ∧ (∀ j, Own b p g ks j → ¬ OwnR rb q h j) ∧ w.heap.size ≤ rb ∧ w.heap.size ≤ h
theorem Trio.duo {w W : World} {b rb q h c k : Nat} {X : Option Obj} {S Sc : BusV} {R : RbV} (t : Trio w W b rb q h c k X S Sc R) : Duo w W b rb q h S R := by
  obtain ⟨p, g, ks, vs, pc, gc, kc, vc, t⟩ := t
  exact ⟨p, g, ks, vs, t.bus, t.ref, t.hb, t.nr, t.l1, t.l2⟩
theorem Duo.below {w W W' : World} {b rb q h : Nat} {S : BusV} {R : RbV} (t : Duo w W b rb q h S R) (u : Below W.heap.size W W') : Duo w W' b rb q h S R := by
  obtain ⟨p, g, ks, vs, t1, t2, t3, t4, t5, t6⟩ := t
  exact ⟨p, g, ks, vs, t1.below u, t2.below u, HBstep t3 u, t4, t5, t6⟩
theorem Duo.hb {w W : World} {b rb q h : Nat} {S : BusV} {R : RbV} (t : Duo w W b rb q h S R) : Below w.heap.size w W := by
  obtain ⟨p, g, ks, vs, t1, t2, t3, t4, t5, t6⟩ := t
  exact t3
theorem Trio.below {w W W' : World} {b rb q h c k : Nat} {X : Option Obj} {S Sc : BusV} {R : RbV} (t : Trio w W b rb q h c k X S Sc R) (u : Below W.heap.size W W') : Trio w W' b rb q h c k X S Sc R := by
  obtain ⟨p, g, ks, vs, pc, gc, kc, vc, t⟩ := t
  exact ⟨p, g, ks, vs, pc, gc, kc, vc, { t with bus := t.bus.below u, cop := t.cop.below u, ref := t.ref.below u, blk := (u.block k t.kl).trans t.blk, kl := Nat.lt_of_lt_of_le t.kl u.size, hb := HBstep t.hb u }⟩
/-- What a turned bus owns. -/
theorem Turned.own {w w' : World} {B b p g : Nat} {ks ks' : Nat → Option Nat} (hk : ∀ i, i < 8 → ks' i = ks i ∨ ks' i = none ∨ ∃ q, ks' i = some q ∧ w.heap.size ≤ q) {j : Nat} (o : Own b p g ks' j) : Own b p g ks j ∨ w.heap.size ≤ j := by
  rcases o with rfl | rfl | rfl | ⟨i, hi, e⟩
  · exact .inl (.inl rfl)
  · exact .inl (.inr (.inl rfl))
  · exact .inl (.inr (.inr (.inl rfl)))
  · rcases hk i hi with e2 | e2 | ⟨q, e2, hq⟩
    · exact .inl (.inr (.inr (.inr ⟨i, hi, e2 ▸ e⟩)))
    · rw [e2] at e; cases e
    · rw [e2] at e; cases e; exact .inr hq
theorem Turned.keep {w w' : World} {B b p g : Nat} {ks : Nat → Option Nat} {S' : BusV} (t : Turned w w' B b p g ks S') (j : Nat) (hj : j < w.heap.size) (n : ¬ Own b p g ks j) : w'.heap[j]? = w.heap[j]? :=
  t.block j hj (fun e => n (.inl e)) (fun e => n (.inr (.inr (.inl e)))) (fun i hi e => n (.inr (.inr (.inr ⟨i, hi, e⟩))))
theorem Turned.low {w W W' : World} {b p g : Nat} {ks : Nat → Option Nat} {vs : Nat → Value} {S S' : BusV} (t : Turned W W' w.heap.size b p g ks S') (h : IsBus W w.heap.size b p g ks vs S) (hb : Below w.heap.size w W) : Below w.heap.size w W' :=
  ⟨t.os.trans hb.os, t.tape.trans hb.tape, t.output.trans hb.output, Nat.le_trans hb.size t.size, fun j hj => by
    rw [t.keep j (Nat.lt_of_lt_of_le hj hb.size) (fun o => by
      rcases o with rfl | rfl | rfl | ⟨i, hi, e⟩
      · have := h.lb; omega
      · have := h.lp; omega
      · have := h.lg; omega
      · have := h.row i hi
        rw [e] at this
        obtain ⟨_, _, _, _, _, _, _, _, _, hh, _⟩ := this
        omega)]
    exact hb.block j hj⟩
theorem TrioN.turn_b {w W W' : World} {b rb q h c k : Nat} {X : Option Obj} {S S' Sc : BusV} {R : RbV} {p g : Nat} {ks : Nat → Option Nat} {vs : Nat → Value} {pc gc : Nat} {kc : Nat → Option Nat} {vc : Nat → Value}
    (t : TrioN w W b rb q h c k X S Sc R p g ks vs pc gc kc vc) (u : Turned W W' w.heap.size b p g ks S') : Trio w W' b rb q h c k X S' Sc R := by
  obtain ⟨ks', vs', hI, hk⟩ := u.bus
  have own : ∀ j, Own b p g ks' j → Own b p g ks j ∨ W.heap.size ≤ j := fun j o => Turned.own (w' := W') (B := 0) hk o
  exact ⟨p, g, ks', vs', pc, gc, kc, vc,
    { bus := hI
      cop := t.cop.same fun j o => u.keep j (t.cop.own_lt o) (fun o' => t.nc j o' o)
      ref := t.ref.same fun j o => u.keep j (t.ref.own_lt o) (fun o' => t.nr j o' o)
      blk := (u.keep k t.kl t.nk).trans t.blk
      kl := Nat.lt_of_lt_of_le t.kl u.size
      hb := u.low t.bus t.hb
      nc := fun j o o2 => by rcases own j o with o1 | o1; exact t.nc j o1 o2; have := t.cop.own_lt o2; omega
      nr := fun j o o2 => by rcases own j o with o1 | o1; exact t.nr j o1 o2; have := t.ref.own_lt o2; omega
      nk := fun o => by rcases own k o with o1 | o1; exact t.nk o1; have := t.kl; omega
      cr := t.cr, ck := t.ck, rk := t.rk, l1 := t.l1, l2 := t.l2 }⟩
theorem TrioN.turn_c {w W W' : World} {b rb q h c k : Nat} {X : Option Obj} {S Sc Sc' : BusV} {R : RbV} {p g : Nat} {ks : Nat → Option Nat} {vs : Nat → Value} {pc gc : Nat} {kc : Nat → Option Nat} {vc : Nat → Value}
    (t : TrioN w W b rb q h c k X S Sc R p g ks vs pc gc kc vc) (u : Turned W W' w.heap.size c pc gc kc Sc') : Trio w W' b rb q h c k X S Sc' R := by
  obtain ⟨ks', vs', hI, hk⟩ := u.bus
  have own : ∀ j, Own c pc gc ks' j → Own c pc gc kc j ∨ W.heap.size ≤ j := fun j o => Turned.own (w' := W') (B := 0) hk o
  exact ⟨p, g, ks, vs, pc, gc, ks', vs',
    { bus := t.bus.same fun j o => u.keep j (t.bus.own_lt o) (fun o' => t.nc j o o')
      cop := hI
      ref := t.ref.same fun j o => u.keep j (t.ref.own_lt o) (fun o' => t.cr j o' o)
      blk := (u.keep k t.kl t.ck).trans t.blk
      kl := Nat.lt_of_lt_of_le t.kl u.size
      hb := u.low t.cop t.hb
      nc := fun j o2 o => by rcases own j o with o1 | o1; exact t.nc j o2 o1; have := t.bus.own_lt o2; omega
      nr := t.nr
      nk := t.nk
      cr := fun j o o2 => by rcases own j o with o1 | o1; exact t.cr j o1 o2; have := t.ref.own_lt o2; omega
      ck := fun o => by rcases own k o with o1 | o1; exact t.ck o1; have := t.kl; omega
      rk := t.rk, l1 := t.l1, l2 := t.l2 }⟩
theorem TrioN.turn_r {w W W' : World} {b rb q h c k : Nat} {X : Option Obj} {S Sc : BusV} {R R' : RbV} {p g : Nat} {ks : Nat → Option Nat} {vs : Nat → Value} {pc gc : Nat} {kc : Nat → Option Nat} {vc : Nat → Value}
    (t : TrioN w W b rb q h c k X S Sc R p g ks vs pc gc kc vc) (u : RTurn W W' rb h) (H : IsRb W' rb q h R') : Trio w W' b rb q h c k X S Sc R' := by
  have keep : ∀ j, j < W.heap.size → ¬ OwnR rb q h j → W'.heap[j]? = W.heap[j]? := fun j hj n => u.block j hj (fun e => n (.inl e)) (fun e => n (.inr (.inr e)))
  exact ⟨p, g, ks, vs, pc, gc, kc, vc,
    { t with
      bus := t.bus.same fun j o => keep j (t.bus.own_lt o) (t.nr j o)
      cop := t.cop.same fun j o => keep j (t.cop.own_lt o) (t.cr j o)
      ref := H
      blk := (keep k t.kl t.rk).trans t.blk
      kl := Nat.lt_of_lt_of_le t.kl u.size
      hb := ⟨u.os.trans t.hb.os, u.tape.trans t.hb.tape, u.output.trans t.hb.output, Nat.le_trans t.hb.size u.size, fun j hj => by
        rw [u.block j (Nat.lt_of_lt_of_le hj t.hb.size) (fun e => by have := t.l1; omega) (fun e => by have := t.l2; omega)]; exact t.hb.block j hj⟩ }⟩
-- the calls
theorem Trio.bread {w W : World} {b rb q h c k : Nat} {X : Option Obj} {S Sc : BusV} {R : RbV} (t : Trio w W b rb q h c k X S Sc R) (a : BitVec 64) (n : Int) :
    Calls Try.prog 27 #[.pointer (some ⟨b, 0, none⟩), U a, .int .i64 n] W fun e W' => e = .returned (.tuple #[U (brV S a n), .bool (brOk a n)]) ∧ Trio w W' b rb q h c k X (brS S a n) Sc R := by
  obtain ⟨p, g, ks, vs, pc, gc, kc, vc, t⟩ := t
  exact (tread b _ p g ks vs S a n W t.bus).mono fun e W' ⟨h1, h2⟩ => ⟨h1, t.turn_b h2⟩
theorem Trio.bwrite {w W : World} {b rb q h c k : Nat} {X : Option Obj} {S Sc : BusV} {R : RbV} (t : Trio w W b rb q h c k X S Sc R) (F : Fine S) (a : BitVec 64) (n : Int) (x : BitVec 64) :
    Calls Try.prog 28 #[.pointer (some ⟨b, 0, none⟩), U a, .int .i64 n, U x] W fun e W' => e = .returned (.bool (bwOk a n)) ∧ Trio w W' b rb q h c k X (bwS S a n x) Sc R := by
  obtain ⟨p, g, ks, vs, pc, gc, kc, vc, t⟩ := t
  exact (twrite b _ p g ks vs S a n x W t.bus t.hb.size F.out).mono fun e W' ⟨h1, h2⟩ => ⟨h1, t.turn_b h2⟩
theorem Trio.cwrite {w W : World} {b rb q h c k : Nat} {X : Option Obj} {S Sc : BusV} {R : RbV} (t : Trio w W b rb q h c k X S Sc R) (F : ∀ k, k < 4 → (Sc.ls (2 * k + 1)).length ≤ 64) (a : BitVec 64) (n : Int) (x : BitVec 64) :
    Calls Try.prog 28 #[.pointer (some ⟨c, 0, none⟩), U a, .int .i64 n, U x] W fun e W' => e = .returned (.bool (bwOk a n)) ∧ Trio w W' b rb q h c k X S (bwS Sc a n x) R := by
  obtain ⟨p, g, ks, vs, pc, gc, kc, vc, t⟩ := t
  exact (twrite c _ pc gc kc vc Sc a n x W t.cop t.hb.size F).mono fun e W' ⟨h1, h2⟩ => ⟨h1, t.turn_c h2⟩
theorem Trio.btype {w W : World} {b rb q h c k : Nat} {X : Option Obj} {S Sc : BusV} {R : RbV} (t : Trio w W b rb q h c k X S Sc R) (F : Fine S) (m : Nat) (hm : m < 4) (s : ByteArray) (hs : s.size ≤ 1000) :
    Calls Try.prog 26 #[.pointer (some ⟨b, 0, none⟩), .int .i64 (m : Int), .string s] W fun e W' => e = .returned (.tuple #[]) ∧ Trio w W' b rb q h c k X (typS S m s) Sc R := by
  obtain ⟨p, g, ks, vs, pc, gc, kc, vc, t⟩ := t
  have h1 := F.inn m hm
  have h2 := F.ns m hm
  exact (ttype b _ p g m ks vs S s W t.bus hm ⟨by omega, h2⟩ (by omega) t.hb.size hs).mono fun e W' ⟨h1, h2⟩ => ⟨h1, t.turn_b h2⟩
theorem Trio.bset {w W : World} {b rb q h c k : Nat} {X : Option Obj} {S Sc : BusV} {R : RbV} (t : Trio w W b rb q h c k X S Sc R) (x : BitVec 64) :
    Calls Try.prog 30 #[.pointer (some ⟨b, 0, none⟩), U x] W fun e W' => e = .returned (.tuple #[]) ∧ Trio w W' b rb q h c k X { S with t := x } Sc R := by
  obtain ⟨p, g, ks, vs, pc, gc, kc, vc, t⟩ := t
  exact (tsettime b _ p g ks vs S x W t.bus).mono fun e W' ⟨h1, h2⟩ => ⟨h1, t.turn_b h2⟩
theorem Trio.rread {w W : World} {b rb q h c k : Nat} {X : Option Obj} {S Sc S0 : BusV} (t : Trio w W b rb q h c k X S Sc (rbOf S0)) (a : BitVec 64) (n : Int) :
    Calls Try.prog 38 #[.pointer (some ⟨rb, 0, none⟩), U a, .int .i64 n] W fun e W' => e = .returned (.tuple #[U (brV S0 a n), .bool (brOk a n)]) ∧ Trio w W' b rb q h c k X S Sc (rbOf (brS S0 a n)) := by
  obtain ⟨p, g, ks, vs, pc, gc, kc, vc, t⟩ := t
  exact (_root_.Go.Proofs.Ytkjbhjmjfacjcaa.rread S0 rb a n W t.ref).mono fun e W' ⟨h1, h2, h3⟩ => ⟨h1, t.turn_r h2 h3⟩
theorem Trio.rwrite {w W : World} {b rb q h c k : Nat} {X : Option Obj} {S Sc S0 : BusV} (t : Trio w W b rb q h c k X S Sc (rbOf S0)) (F : Fine S0) (a : BitVec 64) (n : Int) (x : BitVec 64) :
    Calls Try.prog 39 #[.pointer (some ⟨rb, 0, none⟩), U a, .int .i64 n, U x] W fun e W' => e = .returned (.bool (bwOk a n)) ∧ Trio w W' b rb q h c k X S Sc (rbOf (bwS S0 a n x)) := by
  obtain ⟨p, g, ks, vs, pc, gc, kc, vc, t⟩ := t
  exact (_root_.Go.Proofs.Ytkjbhjmjfacjcaa.rwrite S0 rb a n x W t.ref F.out).mono fun e W' ⟨h1, h2, h3⟩ => ⟨h1, t.turn_r h2 h3⟩
theorem Trio.rtype {w W : World} {b rb q h c k : Nat} {X : Option Obj} {S Sc S0 : BusV} (t : Trio w W b rb q h c k X S Sc (rbOf S0)) (F : Fine S0) (m : Nat) (hm : m < 4) (s : ByteArray) (hs : s.size ≤ 1000) :
    Calls Try.prog 40 #[.pointer (some ⟨rb, 0, none⟩), .int .i64 (m : Int), .string s] W fun e W' => e = .returned (.tuple #[]) ∧ Trio w W' b rb q h c k X S Sc (rbOf (typS S0 m s)) := by
  obtain ⟨p, g, ks, vs, pc, gc, kc, vc, t⟩ := t
  have h1 := F.inn m hm
  have h2 := F.ns m hm
  refine (_root_.Go.Proofs.Ytkjbhjmjfacjcaa.rtype rb m s W t.ref hm ⟨by show 0 ≤ S0.ns m; omega, h2⟩ (by show ((S0.ls (2 * m)).toArray).size ≤ 64; rw [List.size_toArray]; omega) hs).mono ?_
  rintro e W' ⟨h1, h2, h3⟩
  refine ⟨h1, t.turn_r (.of_b h2) ?_⟩
  rw [rbOf_typ]; exact h3
theorem Trio.rset {w W : World} {b rb q h c k : Nat} {X : Option Obj} {S Sc S0 : BusV} (t : Trio w W b rb q h c k X S Sc (rbOf S0)) (x : BitVec 64) :
    Trio w (W.setCell ⟨rb, 1, none⟩ (U x)) b rb q h c k X S Sc (rbOf { S0 with t := x }) := by
  obtain ⟨p, g, ks, vs, pc, gc, kc, vc, t⟩ := t
  exact t.turn_r (.of_b (set_upd _ _ _ _)) (t.ref.set (R' := rbOf { S0 with t := x }) 1 (U x) (by omega) rfl (rb_t q (rbOf S0) x))
theorem Trio.cell {w W : World} {b rb q h c k : Nat} {X : Option Obj} {S Sc : BusV} {R : RbV} (t : Trio w W b rb q h c k X S Sc R) : W.heap[k]? = X := by
  obtain ⟨p, g, ks, vs, pc, gc, kc, vc, t⟩ := t
  exact t.blk
theorem Trio.r1 {w W : World} {b rb q h c k : Nat} {X : Option Obj} {S Sc : BusV} {R : RbV} (t : Trio w W b rb q h c k X S Sc R) : IsRb W rb q h R := by
  obtain ⟨p, g, ks, vs, pc, gc, kc, vc, t⟩ := t
  exact t.ref
theorem Trio.b1 {w W : World} {b rb q h c k : Nat} {X : Option Obj} {S Sc : BusV} {R : RbV} (t : Trio w W b rb q h c k X S Sc R) : Bus W w.heap.size b S := by
  obtain ⟨p, g, ks, vs, pc, gc, kc, vc, t⟩ := t
  exact ⟨p, g, ks, vs, t.bus⟩
theorem Trio.hb {w W : World} {b rb q h c k : Nat} {X : Option Obj} {S Sc : BusV} {R : RbV} (t : Trio w W b rb q h c k X S Sc R) : Below w.heap.size w W := by
  obtain ⟨p, g, ks, vs, pc, gc, kc, vc, t⟩ := t
  exact t.hb
/-- The copy, made beside the block k. -/
theorem Duo.copy {w W0 W : World} {b rb q h k : Nat} {X : Option Obj} {S : BusV} {R : RbV} (t : Duo w W0 b rb q h S R) (u : Below W0.heap.size W0 W) (F : Fine S) (hk : W.heap[k]? = X) (kl : k < W.heap.size) (k0 : W0.heap.size ≤ k) :
    Calls Try.prog 33 #[.pointer (some ⟨b, 0, none⟩)] W fun e W' => ∃ c, e = .returned (.pointer (some ⟨c, 0, none⟩)) ∧ Trio w W' b rb q h c k X S (cpS S 4) R := by
  obtain ⟨p, g, ks, vs, t1, t2, t3, t4, t5, t6⟩ := t
  have ko : ¬ Own b p g ks k := fun o => by have := t1.own_lt o; omega
  have kr : ¬ OwnR rb q h k := fun o => by have := t2.own_lt o; omega
  replace t1 := t1.below u
  replace t2 := t2.below u
  replace t3 := HBstep t3 u
  obtain ⟨A, N, C, hI⟩ := t1.slices
  have hlen : ∀ i, i < 8 → (S.ls i).length ≤ 1000000 := by
    intro i hi
    have h : ∃ m, m < 4 ∧ (i = 2 * m ∨ i = 2 * m + 1) := ⟨i / 2, by omega, by omega⟩
    obtain ⟨m, hm, rfl | rfl⟩ := h
    · have := F.inn m hm; have := F.ns m hm; omega
    · have := F.out m hm; omega
  refine (bcopy2 b _ p g ks A N C S W hI hlen).mono ?_
  rintro e W' ⟨c, rfl, hc, ⟨pc, gc, kc, vc, hC⟩, hI', hb⟩
  have big : ∀ j, Own c pc gc kc j → W.heap.size ≤ j := by
    intro j o
    rcases o with rfl | rfl | rfl | ⟨i, hi, e⟩
    · exact hC.lb
    · exact hC.lp
    · exact hC.lg
    · have := hC.row i hi
      rw [e] at this
      obtain ⟨_, _, _, _, _, _, _, _, _, hh, _⟩ := this
      exact hh
  exact ⟨c, rfl, p, g, ks, _, pc, gc, kc, vc,
    { bus := hI'
      cop := hC.weak t3.size
      ref := t2.below hb
      blk := (hb.block k kl).trans hk
      kl := Nat.lt_of_lt_of_le kl hb.size
      hb := HBstep t3 hb
      nc := fun j o o2 => by have := hI.own_lt o; have := big j o2; omega
      nr := t4
      nk := ko
      cr := fun j o o2 => by have := t2.own_lt o2; have := big j o; omega
      ck := fun o => by have := big k o; omega
      rk := kr, l1 := t5, l2 := t6 }⟩
end Go.Proofs.Ytkjbhjmjfacjcaa
