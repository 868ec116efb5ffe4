/- The bus: New, console, SetTime, Timer, IsDevice; Read and Write where no console is; no condition but the state. -/
import Derived.Test.YtkjbhjmjfacjcaaBusA
import Derived.Test.YtkjbhjmjfacjcaaMemH
namespace Go.Proofs.Ytkjbhjmjfacjcaa
open Go.RowKit Go.BigFrame
set_option linter.unusedSimpArgs false
set_option linter.unusedVariables false
set_option maxRecDepth 100000

def busV0 (f : Nat → UInt8) : BusV := ⟨f, 0#64, BitVec.allOnes 64, fun _ => [], fun _ => 0, fun _ => true⟩
def NewBus (w : World) (f : Nat → UInt8) (e : Ending) (w' : World) : Prop :=
  ∃ b, e = .returned (.pointer (some ⟨b, 0, none⟩)) ∧ w.heap.size ≤ b ∧ Bus w' w.heap.size b (busV0 f) ∧ Below w.heap.size w w'
theorem new_bus {w w1 : World} {p g : Nat} {f : Nat → UInt8} (hp : w.heap.size ≤ p) (hg : w.heap.size ≤ g) (hM : IsMem w1 p g 88 f) (hb : Below w.heap.size w w1) :
    NewBus w f (.returned (.pointer (some ⟨w1.heap.size, 0, none⟩))) (w1.alloc (.cells (busA p 0#64 (BitVec.allOnes 64) (fun _ => .slice none 0 0) (fun _ => 0)) 100)) := by
  have hpl := hM.p_lt
  have hgl := hM.g_lt
  have hs := hb.size
  exact ⟨w1.heap.size, rfl, hb.size, ⟨p, g, fun _ => none, fun _ => .slice none 0 0,
    { blk := (MapKept.heap_alloc _ _).1
      mem := hM.below ((Below.refl _ _).alloc (Nat.le_refl _) _)
      row := fun _ _ => ⟨rfl, rfl⟩
      dis := fun _ _ _ _ _ h => by cases h
      far := fun _ _ => ⟨by simp, by simp, by simp⟩
      lb := hs
      lp := hp
      lg := hg
      bp := by omega
      bg := by omega
      nl := fun _ _ _ => rfl }⟩, hb.alloc hs _⟩
theorem bnew_nil (w : World) : Calls Try.prog 25 #[.pointer none] w (NewBus w fun _ => 0) := by
  go_enter Try.func25, Try.ntmps25
  go_wp2_with fail
  refine (new_all _).mono ?_
  rintro e w1 ⟨p, g, rfl, hp, hg, hpl, hgl, M, hb⟩
  have fin := Lib.hid (new_bus hp hg M hb)
  go_wp2
  go_ret
  exact fin.out
theorem bnew_mem {p g : Nat} {f : Nat → UInt8} {B : Nat} (w : World) (hM : IsMem w p g 88 f) (hB : B ≤ w.heap.size) (hp : B ≤ p) (hg : B ≤ g) :
    Calls Try.prog 25 #[.pointer (some ⟨p, 0, none⟩)] w fun e w' => ∃ b, e = .returned (.pointer (some ⟨b, 0, none⟩)) ∧ w.heap.size ≤ b ∧ (∃ ks vs, IsBus w' B b p g ks vs (busV0 f)) ∧ Below w.heap.size w w' := by
  have hpl := hM.p_lt
  have hgl := hM.g_lt
  have fin : ∃ ks vs, IsBus (w.alloc (.cells (busA p 0#64 (BitVec.allOnes 64) (fun _ => .slice none 0 0) (fun _ => 0)) 100)) B w.heap.size p g ks vs (busV0 f) := ⟨fun _ => none, fun _ => .slice none 0 0,
    { blk := (MapKept.heap_alloc _ _).1
      mem := hM.below ((Below.refl _ _).alloc (Nat.le_refl _) _)
      row := fun _ _ => ⟨rfl, rfl⟩
      dis := fun _ _ _ _ _ h => by cases h
      far := fun _ _ => ⟨by simp, by simp, by simp⟩
      lb := hB
      lp := hp
      lg := hg
      bp := by omega
      bg := by omega
      nl := fun _ _ _ => rfl }⟩
  have FIN := Lib.hid fin
  clear hM fin
  go_enter Try.func25, Try.ntmps25
  go_wp2
  go_ret
  exact ⟨_, rfl, Nat.le_refl _, FIN.out, (Below.refl _ _).alloc (Nat.le_refl _) _⟩

/-- The port of a place: none where no console is. -/
def conOf (a : BitVec 64) (n : Int) : Option Nat :=
  if n = 1 ∧ 61696 ≤ a.toNat ∧ (a.toNat - 61696) % 256 = 0 ∧ (a.toNat - 61696) / 256 < 4 then some ((a.toNat - 61696) / 256) else none
theorem bcon (b : Nat) (a : BitVec 64) (n : Int) (w : World) :
    Calls Try.prog 59 #[.pointer (some ⟨b, 0, none⟩), U a, .int .i64 n] w fun e w' => e = .returned (.pointer ((conOf a n).map fun k => ⟨b, 3 + 3 * k, none⟩)) ∧ w = w' := by
  by_cases h1 : n = 1
  · subst h1
    by_cases h2 : 61696 ≤ a.toNat
    · have s1 : IntKind.u64.wrap ((a.toNat : Int) - 61696) = ((a.toNat - 61696 : Nat) : Int) := by rw [show (a.toNat : Int) - 61696 = ((a.toNat - 61696 : Nat) : Int) by omega]; exact IntWalk.u64_in _ ⟨by omega, by have := a.isLt; omega⟩
      have l1 : decide ((a.toNat : Int) < 61696) = false := decide_eq_false (by omega)
      by_cases h3 : (a.toNat - 61696) % 256 = 0
      · have r1 : (((a.toNat - 61696 : Nat) : Int) % 256 != 0) = false := by rw [bne_eq_false_iff_eq]; omega
        have r2 : ((a.toNat - 61696 : Nat) : Int) / 256 = (((a.toNat - 61696) / 256 : Nat) : Int) := by omega
        have r3 : IntKind.u64.wrap (((a.toNat - 61696) / 256 : Nat) : Int) = (((a.toNat - 61696) / 256 : Nat) : Int) := IntWalk.u64_in _ ⟨by omega, by have := a.isLt; omega⟩
        by_cases h4 : (a.toNat - 61696) / 256 < 4
        · have c : conOf a 1 = some ((a.toNat - 61696) / 256) := by unfold conOf; rw [if_pos ⟨rfl, h2, h3, h4⟩]
          rw [c]
          have key := bport b ((a.toNat - 61696) / 256) w h4
          generalize (a.toNat - 61696) / 256 = q at *
          generalize a.toNat - 61696 = y at *
          clear h4 h3 h2 c
          go_enter Try.func59, Try.ntmps59
          go_wp2_with fail
          (with_reducible refine key.mono ?_)
          rintro e w1 ⟨rfl, rfl⟩
          go_wp2
          go_ret
          exact ⟨rfl, rfl⟩
        · have c : conOf a 1 = none := by unfold conOf; rw [if_neg (by omega)]
          rw [c]
          have key := bport_no b (((a.toNat - 61696) / 256 : Nat) : Int) w (by omega)
          generalize (a.toNat - 61696) / 256 = q at *
          generalize a.toNat - 61696 = y at *
          clear h4 h3 h2 c
          go_enter Try.func59, Try.ntmps59
          go_wp2_with fail
          (with_reducible refine key.mono ?_)
          rintro e w1 ⟨rfl, rfl⟩
          go_wp2
          go_ret
          exact ⟨rfl, rfl⟩
      · have r1 : (((a.toNat - 61696 : Nat) : Int) % 256 != 0) = true := by rw [bne_iff_ne]; omega
        have c : conOf a 1 = none := by unfold conOf; rw [if_neg (by omega)]
        rw [c]
        generalize a.toNat - 61696 = y at *
        clear h3 h2 c
        go_enter Try.func59, Try.ntmps59
        go_wp2
        go_ret
        exact ⟨rfl, rfl⟩
    · have l1 : decide ((a.toNat : Int) < 61696) = true := decide_eq_true (by omega)
      have c : conOf a 1 = none := by unfold conOf; rw [if_neg (by omega)]
      rw [c]
      clear h2 c
      go_enter Try.func59, Try.ntmps59
      go_wp2
      go_ret
      exact ⟨rfl, rfl⟩
  · have c : conOf a n = none := by unfold conOf; rw [if_neg (by omega)]
    rw [c]
    have r1 : (n != 1) = true := bne_iff_ne.2 h1
    clear h1 c
    go_enter Try.func59, Try.ntmps59
    go_wp2
    go_ret
    exact ⟨rfl, rfl⟩
theorem IsBus.c0 {w : World} {B b p g : Nat} {ks : Nat → Option Nat} {vs : Nat → Value} {S : BusV} (h : IsBus w B b p g ks vs S) : w.cell? ⟨b, 0, none⟩ = some (.pointer (some ⟨p, 0, none⟩)) := h.cell 0
theorem IsBus.c1 {w : World} {B b p g : Nat} {ks : Nat → Option Nat} {vs : Nat → Value} {S : BusV} (h : IsBus w B b p g ks vs S) : w.cell? ⟨b, 1, none⟩ = some (U S.t) := h.cell 1
theorem IsBus.c2 {w : World} {B b p g : Nat} {ks : Nat → Option Nat} {vs : Nat → Value} {S : BusV} (h : IsBus w B b p g ks vs S) : w.cell? ⟨b, 2, none⟩ = some (U S.al) := h.cell 2
theorem bsettime (b B : Nat) (x : BitVec 64) (S : BusV) (w : World) (h : Bus w B b S) :
    Calls Try.prog 30 #[.pointer (some ⟨b, 0, none⟩), U x] w fun e w' => e = .returned (.tuple #[]) ∧ Upd w w' b ∧ Bus w' B b { S with t := x } := by
  obtain ⟨p, g, ks, vs, h⟩ := h
  have key := astore b 1 S.t x w h.c1 (h.free 1)
  have fin := Lib.hid (show Upd w (w.setCell ⟨b, 1, none⟩ (U x)) b ∧ Bus (w.setCell ⟨b, 1, none⟩ (U x)) B b { S with t := x } from
    ⟨set_upd _ _ _ _, p, g, ks, vs, h.turn (set_upd _ _ _ _) x S.al S.ns (set_block h.blk (show 1 < 15 by decide))⟩)
  clear h
  go_enter Try.func30, Try.ntmps30
  go_wp2_with fail
  (with_reducible refine key.mono ?_)
  rintro e w1 ⟨rfl, rfl⟩
  go_wp2
  go_end0
  exact ⟨rfl, fin.out⟩
theorem bdevice (b : Nat) (a : BitVec 64) (w : World) :
    Calls Try.prog 32 #[.pointer (some ⟨b, 0, none⟩), U a] w fun e w' => e = .returned (.bool (decide (61440 ≤ a.toNat ∧ a.toNat < 62720))) ∧ w = w' := by
  have e : decide (61440 ≤ a.toNat ∧ a.toNat < 62720) = (decide ((61440 : Int) ≤ (a.toNat : Int)) && decide ((a.toNat : Int) < 62720)) := by rw [Bool.eq_iff_iff]; simp; omega
  rw [e]
  clear e
  generalize hb1 : decide ((61440 : Int) ≤ (a.toNat : Int)) = b1 at *
  generalize hb2 : decide ((a.toNat : Int) < 62720) = b2 at *
  go_enter Try.func32, Try.ntmps32
  cases b1 <;> cases b2 <;> (go_wp2; go_ret; exact ⟨rfl, rfl⟩)
theorem btimer (b B : Nat) (S : BusV) (w : World) (h : Bus w B b S) :
    Calls Try.prog 31 #[.pointer (some ⟨b, 0, none⟩)] w fun e w' => e = .returned (.bool (decide (S.al.toNat ≤ S.t.toNat))) ∧ ∃ k, w' = w.drewN k := by
  obtain ⟨p, g, ks, vs, h⟩ := h
  have c1 := h.c1
  have key : ∀ W : World, W.heap = w.heap → Calls Try.prog 58 #[.pointer (some ⟨b, 1, none⟩)] W fun e w' => e = .returned (U S.t) ∧ W = w' := fun W hW => aload b 1 S.t W (by rw [← c1]; simp only [World.cell?, hW])
  have c2 := h.c2
  have KEY := Lib.hid key
  generalize S.t = t at *
  generalize S.al = al at *
  clear h key
  go_enter Try.func31, Try.ntmps31
  go_wp2_with fail
  go_quiet ((go_at_call 58; exact quiet_left (KEY.out _ rfl)))
  go_wp2
  go_ret
  exact ⟨rfl, _, rfl⟩
end Go.Proofs.Ytkjbhjmjfacjcaa
