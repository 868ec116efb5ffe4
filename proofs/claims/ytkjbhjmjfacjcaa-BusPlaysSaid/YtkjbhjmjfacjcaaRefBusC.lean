/- The document's Put; no condition but the state. -/
import Derived.Test.YtkjbhjmjfacjcaaRefBusB
import Derived.Deep.RegionLaw
namespace Go.Proofs.Ytkjbhjmjfacjcaa
open Go.RowKit Go.BigFrame
set_option linter.unusedSimpArgs false
set_option linter.unusedVariables false
set_option maxRecDepth 100000

/-- A byte put out. -/
def putB (s : ByteArray) (c : UInt8) : ByteArray := let r := s ++ ⟨#[c]⟩; if 64 < r.size then r.extract 1 r.size else r
set_option maxHeartbeats 2000000 in
theorem rput {q h : Nat} {R : RbV} (b k : Nat) (c : UInt8) (w : World) (H : IsRb w b q h R) (hk : k < 4) (hl : (R.outs k).size ≤ 64) :
    Calls Try.prog 64 #[.pointer (some ⟨b, 0, none⟩), .int .i64 (k : Int), .int .u8 (c.toNat : Int)] w fun e w' => e = .returned (.tuple #[]) ∧ Upd w w' b ∧ IsRb w' b q h { R with outs := updN R.outs k (putB (R.outs k) c) } := by
  have hbl := blk_lt H.blk
  have c0 : w.cell? ⟨b, 11 + k, none⟩ = some (.string (R.outs k)) := H.cout k hk
  have fz := H.free
  have HH := Lib.hid H
  obtain ⟨s, hs⟩ : ∃ s, s = R.outs k := ⟨_, rfl⟩
  rw [← hs] at c0 hl ⊢
  have hss2 := Lib.hid hs
  clear H hs
  have hk4 : (k : Int) < 4 := by omega
  have cv : (convert 40 9 (.slice (some ⟨w.heap.size, 0, none⟩) 1 1)).run Try.prog (w.alloc (.cells #[.int .u8 (c.toNat : Int)] 5)).drew = .ok (.string ⟨#[c]⟩) (w.alloc (.cells #[.int .u8 (c.toNat : Int)] 5)).drew :=
    conv_row (w := (w.alloc (.cells #[.int .u8 (c.toNat : Int)] 5)).drew) (B := 0) (k := some w.heap.size) (l := [c]) ⟨0, 1, [], [], rfl, (MapKept.heap_alloc w _).1, rfl, by simp, by simp, Nat.zero_le _, by simp only [maxLen]; omega⟩
  have c1 : (w.alloc (.cells #[.int .u8 (c.toNat : Int)] 5)).cell? ⟨b, 11 + k, none⟩ = some (.string s) := (World.cell?_of_block (a := ⟨b, 11 + k, none⟩) (Below.heap_alloc w _ _ hbl)).trans c0
  have z1 : (w.alloc (.cells #[.int .u8 (c.toNat : Int)] 5)).frozen? ⟨b, 11 + k, none⟩ = false := (World.frozen?_of_block (a := ⟨b, 11 + k, none⟩) (Below.heap_alloc w _ _ hbl)).trans (fz _)
  go_enter Try.func64, Try.ntmps64
  go_wp2_with fail
  go_region
  obtain ⟨s2, hs2⟩ : ∃ s2, s2 = s ++ ⟨#[c]⟩ := ⟨_, rfl⟩
  have U1 : ∀ W, W = ((w.setCell ⟨b, 11 + k, none⟩ (.string s2)).alloc (.cells #[.int .u8 (c.toNat : Int)] 5)).drew → Upd w W b ∧ IsRb W b q h { R with outs := updN R.outs k s2 } := by
    intro W hW
    have I1 := HH.out.set (R' := { R with outs := updN R.outs k s2 }) (11 + k) (.string s2) (by omega) rfl (rb_out q R k hk s2)
    have u2 : Below (w.setCell ⟨b, 11 + k, none⟩ (.string s2)).heap.size (w.setCell ⟨b, 11 + k, none⟩ (.string s2)) W := by
      rw [hW]; exact ((Below.refl _ _).alloc (Nat.le_refl _) _).drew
    exact ⟨(set_upd w b (11 + k) (.string s2)).trans (Upd.of_below u2 b), I1.below u2⟩
  rw [← hs2]
  generalize hW : ((w.setCell ⟨b, 11 + k, none⟩ (.string s2)).alloc (.cells #[.int .u8 (c.toNat : Int)] 5)).drew = W
  obtain ⟨u1, I1⟩ := U1 W hW.symm
  clear U1 hW c0 fz cv c1 z1
  have e2 : (updN R.outs k s2) k = s2 := updN_same _ _ _
  have d0 : W.cell? ⟨b, 11 + k, none⟩ = some (.string s2) := by have := I1.cout k hk; rw [show ({ R with outs := updN R.outs k s2 } : RbV).outs k = s2 from e2] at this; exact this
  have fz := I1.free
  by_cases big : 64 < s2.size
  · have g1 : decide ((64 : Int) < (s2.size : Int)) = true := decide_eq_true (by omega)
    have hss : ∀ W, (Instr.slice 9 (.string s2) (some (.int .i64 1)) none none).run Try.prog W = .ok (.string (s2.extract 1 s2.size)) W := fun W => run_slice_string_l (P := Try.prog) W 9 s2 Try.underlying9 .i64 1 (by omega) (by omega)
    have FIN := Lib.hid (show Upd w (W.setCell ⟨b, 11 + k, none⟩ (.string (s2.extract 1 s2.size))) b ∧ IsRb (W.setCell ⟨b, 11 + k, none⟩ (.string (s2.extract 1 s2.size))) b q h { R with outs := updN R.outs k (putB s c) } from by
      refine ⟨u1.trans (set_upd _ _ _ _), ?_⟩
      have := I1.set (R' := { R with outs := updN R.outs k (putB s c) }) (11 + k) (.string (s2.extract 1 s2.size)) (by omega) rfl ?_
      · exact this
      · rw [rb_out q _ k hk]
        congr 2
        funext j
        unfold updN
        by_cases e : j = k
        · rw [if_pos e, if_pos e]; unfold putB; rw [← hs2]; exact (if_pos big).symm
        · rw [if_neg e, if_neg e]; exact if_neg e)
    generalize s2.extract 1 s2.size = s3 at *
    clear u1 I1 e2 big HH hs2 hss2
    go_wp2_with fail
    go_region
    go_end0
    exact ⟨rfl, FIN.out.1.trans (Upd.of_below (Below.refl _ _).drew _), FIN.out.2.below (Below.refl _ _).drew⟩
  · have g1 : decide ((64 : Int) < (s2.size : Int)) = false := decide_eq_false (by omega)
    have hp : putB s c = s2 := by unfold putB; rw [← hs2]; exact if_neg big
    rw [← hp] at I1
    have FIN := Lib.hid (And.intro u1 I1)
    clear u1 I1 e2 big HH hs2 hss2
    go_wp2_with fail
    go_end0
    exact ⟨rfl, FIN.out.1, FIN.out.2⟩
end Go.Proofs.Ytkjbhjmjfacjcaa
