/- Part 7 of the texts behind the law: contracts and lemmas, each proved; no condition but what each names. -/
import Derived.Laws.NewBlocks
import Derived.MapKept
import Derived.Lib.Hide
import Derived.Test.YtfehilinnalflaaGreatProg
import Derived.Deep.WholeRow
import Derived.Deep.MidRow
import Derived.Deep.AppendSrc
import Derived.Deep.Upon
import Derived.Test.YtfehilinnalflaaGreatQ01
import Derived.Test.YtfehilinnalflaaGreatQ02
import Derived.Test.YtfehilinnalflaaGreatQ03
import Derived.Test.YtfehilinnalflaaGreatQ05
import Derived.Test.YtfehilinnalflaaGreatQ06
namespace Go.Proofs.YtfehilinnalflaaGreat
open Go.RowKit
set_option linter.unusedSimpArgs false
set_option linter.unusedVariables false
set_option maxRecDepth 100000
theorem alloc_set (w : World) (o o' : Obj) : ({ w.alloc o with heap := (w.alloc o).heap.setIfInBounds w.heap.size o' } : World) = w.alloc o' := by
  have e : ((w.alloc o).heap.setIfInBounds w.heap.size o') = (w.alloc o').heap := by
    show (w.heap.push o).setIfInBounds w.heap.size o' = w.heap.push o'
    apply Array.ext
    · simp
    · intro i h1 h2
      simp only [Array.size_setIfInBounds, Array.size_push] at h1
      by_cases c : i = w.heap.size
      · subst c; simp
      · have : i < w.heap.size := by omega
        rw [Array.getElem_setIfInBounds_ne (by simp; omega) (fun e => c e.symm), Array.getElem_push_lt this, Array.getElem_push_lt this]
  rw [e]; rfl
theorem upd_new {P : Program} {t kt et : TypeId} {d : TypeDesc} {k v : Value} {es : Array MapEntry} {c : Nat} (hu : P.underlying t = some (.map kt et)) (hk : P.underlying kt = some d) (hkey : MapKept.IsKey d k) (hf : Instr.findNow d k es.toList 0 = some none) (w : World) :
    (Instr.mapUpdate t (.map (some w.heap.size)) k v).run P (w.alloc (.map es c)) = .ok () (w.alloc (.map (es.push ⟨k, v, c⟩) (c + 1))) := by
  have hb : (w.alloc (.map es c)).heap[w.heap.size]? = some (.map es c) := (MapKept.heap_alloc _ _).1
  have := MapKept.run_setObj_map (P := P) (.map (es.push ⟨k, v, c⟩) (c + 1)) hb
  rw [alloc_set] at this
  simp [Instr.mapUpdate, run_underlying hu, MapKept.run_getObj_map hb, MapKept.run_checkKey hk hkey, MapKept.run_findKey hk hf, this, Result.andThen]
theorem look_hit {P : Program} {t kt et : TypeId} {d : TypeDesc} {k v : Value} {es : Array MapEntry} {c i r : Nat} (hu : P.underlying t = some (.map kt et)) (hk : P.underlying kt = some d) (hkey : MapKept.IsKey d k) (hf : Instr.findNow d k es.toList 0 = some (some (i, v))) {w : World} (hb : w.heap[r]? = some (.map es c)) :
    (Instr.lookup t (.map (some r)) k false).run P w = .ok v w := by
  simp [Instr.lookup, run_underlying hu, MapKept.run_getObj_map hb, MapKept.run_checkKey hk hkey, MapKept.run_findKey hk hf, Result.andThen]
theorem look_miss {P : Program} {t kt et : TypeId} {d : TypeDesc} {k z : Value} {es : Array MapEntry} {c r : Nat} (hu : P.underlying t = some (.map kt et)) (hk : P.underlying kt = some d) (hkey : MapKept.IsKey d k) (hf : Instr.findNow d k es.toList 0 = some none) {w : World} (hz : (zeroValue et).run P w = .ok z w) (hb : w.heap[r]? = some (.map es c)) :
    (Instr.lookup t (.map (some r)) k false).run P w = .ok z w := by
  simp [Instr.lookup, run_underlying hu, MapKept.run_getObj_map hb, MapKept.run_checkKey hk hkey, MapKept.run_findKey hk hf, hz, Result.andThen]
def wordsL : List (Int × Int) := [(267386895, 50), (4111, 51), (115, 52), (1048691, 53), (807403635, 60), (270532723, 61), (273678451, 62)]
def mapE (l : List (Int × Int)) : Array MapEntry := (l.zipIdx.map fun x => (⟨.int .u32 x.1.1, .int .i64 x.1.2, x.2⟩ : MapEntry)).toArray
def wE (n : Nat) : Array MapEntry := mapE (wordsL.take n)
theorem upd_words (n : Nat) (k v : Int) (w : World) (h1 : wordsL[n]? = some (k, v)) (h2 : Instr.findNow (.int .u32) (.int .u32 k) (wE n).toList 0 = some none) (h3 : (wE n).push ⟨.int .u32 k, .int .i64 v, n⟩ = wE (n + 1)) :
    (Instr.mapUpdate 324 (.map (some w.heap.size)) (.int .u32 k) (.int .i64 v)).run Tryz.prog (w.alloc (.map (wE n) n)) = .ok () (w.alloc (.map (wE (n + 1)) (n + 1))) := by
  rw [← h3]
  exact upd_new (kt := 26) (et := 3) (d := .int .u32) Tryz.underlying324 Tryz.underlying26 (by trivial) h2 w
theorem op1 (pl : Addr) (b off : Nat) (x3 : Value) (w : World) (hp : w.cell? pl = some (.pointer (some ⟨b, off, none⟩))) (h3 : w.cell? ⟨b, off + 3, none⟩ = some x3) (f3 : w.frozen? ⟨b, off + 3, none⟩ = false) (hb : b < w.heap.size) :
    Calls Tryz.prog 231 #[.pointer (some pl)] w fun e w1 => e = .returned (.tuple #[]) ∧ w1 = (w.setCell ⟨b, off + 3, none⟩ (.map (some w.heap.size))).alloc (.map (wE 7) 7) := by
  have u0 := upd_words 0 267386895 50 w rfl rfl rfl
  have u1 := upd_words 1 4111 51 w rfl rfl rfl
  have u2 := upd_words 2 115 52 w rfl rfl rfl
  have u3 := upd_words 3 1048691 53 w rfl rfl rfl
  have u4 := upd_words 4 807403635 60 w rfl rfl rfl
  have u5 := upd_words 5 270532723 61 w rfl rfl rfl
  have u6 := upd_words 6 273678451 62 w rfl rfl rfl
  have hm : (Instr.makeMap 324 none).run Tryz.prog w = .ok (.map (some w.heap.size)) (w.alloc (.map (wE 0) 0)) := rfl
  have h3' : (w.alloc (.map (wE 7) 7)).cell? ⟨b, off + 3, none⟩ = some x3 := by rw [World.cell?_alloc_past _ _ _ hb]; exact h3
  have f3' : (w.alloc (.map (wE 7) 7)).frozen? ⟨b, off + 3, none⟩ = false := by rw [World.frozen?_alloc_past _ _ _ hb]; exact f3
  go_enter Tryz.func231, Tryz.ntmps231
  go_wp2
  go_end0
  exact ⟨rfl, rfl⟩
def opF (x : Int) : Int := if x = 267386895 then 50 else if x = 4111 then 51 else if x = 115 then 52 else if x = 1048691 then 53 else if x = 807403635 then 60 else if x = 270532723 then 61 else if x = 273678451 then 62 else 0
theorem look_words {r : Nat} {w : World} (hb : w.heap[r]? = some (.map (wE 7) 7)) (x : Int) : (Instr.lookup 324 (.map (some r)) (.int .u32 x) false).run Tryz.prog w = .ok (.int .i64 (opF x)) w := by
  unfold opF
  by_cases h1 : x = 267386895
  · subst h1; exact look_hit (i := 0) Tryz.underlying324 Tryz.underlying26 (by trivial) rfl hb
  rw [if_neg h1]
  by_cases h2 : x = 4111
  · subst h2; exact look_hit (i := 1) Tryz.underlying324 Tryz.underlying26 (by trivial) rfl hb
  rw [if_neg h2]
  by_cases h3 : x = 115
  · subst h3; exact look_hit (i := 2) Tryz.underlying324 Tryz.underlying26 (by trivial) rfl hb
  rw [if_neg h3]
  by_cases h4 : x = 1048691
  · subst h4; exact look_hit (i := 3) Tryz.underlying324 Tryz.underlying26 (by trivial) rfl hb
  rw [if_neg h4]
  by_cases h5 : x = 807403635
  · subst h5; exact look_hit (i := 4) Tryz.underlying324 Tryz.underlying26 (by trivial) rfl hb
  rw [if_neg h5]
  by_cases h6 : x = 270532723
  · subst h6; exact look_hit (i := 5) Tryz.underlying324 Tryz.underlying26 (by trivial) rfl hb
  rw [if_neg h6]
  by_cases h7 : x = 273678451
  · subst h7; exact look_hit (i := 6) Tryz.underlying324 Tryz.underlying26 (by trivial) rfl hb
  rw [if_neg h7]
  refine look_miss Tryz.underlying324 Tryz.underlying26 (by trivial) ?_ (by rfl) hb
  have e : (wE 7).toList = [⟨.int .u32 267386895, .int .i64 50, 0⟩, ⟨.int .u32 4111, .int .i64 51, 1⟩, ⟨.int .u32 115, .int .i64 52, 2⟩, ⟨.int .u32 1048691, .int .i64 53, 3⟩, ⟨.int .u32 807403635, .int .i64 60, 4⟩, ⟨.int .u32 270532723, .int .i64 61, 5⟩, ⟨.int .u32 273678451, .int .i64 62, 6⟩] := rfl
  rw [e]
  have f1 : (x == 267386895) = false := beq_eq_false_iff_ne.2 h1
  have f2 : (x == 4111) = false := beq_eq_false_iff_ne.2 h2
  have f3 : (x == 115) = false := beq_eq_false_iff_ne.2 h3
  have f4 : (x == 1048691) = false := beq_eq_false_iff_ne.2 h4
  have f5 : (x == 807403635) = false := beq_eq_false_iff_ne.2 h5
  have f6 : (x == 270532723) = false := beq_eq_false_iff_ne.2 h6
  have f7 : (x == 273678451) = false := beq_eq_false_iff_ne.2 h7
  simp [Instr.findNow, Instr.sameNow, f1, f2, f3, f4, f5, f6, f7]
set_option maxHeartbeats 1000000 in
theorem op_any (b : Nat) (x : Int) (w : World) (hb : w.heap[b]? = some (.cells #[.int .u32 0, .int .i32 0, .int .u32 0, .map none] 326 (0, 0))) :
    Calls Tryz.prog 218 #[.pointer (some ⟨b, 0, none⟩), .int .u32 x] w fun e w' => e = .returned (.int .i64 (opF x)) ∧ Upd w w' b := by
  have hlt := blk_lt hb
  obtain ⟨W, hW⟩ : ∃ W, W = w.alloc (.cells #[.pointer (some ⟨b, 0, none⟩)] 332) := ⟨_, rfl⟩
  have hbW : W.heap[b]? = some (.cells #[.int .u32 0, .int .i32 0, .int .u32 0, .map none] 326 (0, 0)) := by rw [hW, Below.heap_alloc w _ _ hlt]; exact hb
  have hWs : W.heap.size = w.heap.size + 1 := by rw [hW]; simp
  have hpl : W.cell? ⟨w.heap.size, 0, none⟩ = some (.pointer (some ⟨b, 0, none⟩)) := by rw [hW, World.cell?_alloc_at _ _ _ _ rfl]; rfl
  have c0 : W.cell? ⟨b, 0, none⟩ = some (.int .u32 0) := by simp [World.cell?, hbW]
  have c1 : W.cell? ⟨b, 0 + 1, none⟩ = some (.int .i32 0) := by simp [World.cell?, hbW]
  have c3 : W.cell? ⟨b, 0 + 3, none⟩ = some (.map none) := by simp [World.cell?, hbW]
  have fr : ∀ j, W.frozen? ⟨b, j, none⟩ = false := fun j => by simp [World.frozen?, hbW]
  have uW : Upd w W b := by rw [hW]; exact Upd.of_below ((Below.refl _ _).alloc (Nat.le_refl _) _) b
  have hne : w.heap.size ≠ b := by omega
  have key := do_w b 0 #[.pointer (some ⟨w.heap.size, 0, none⟩)] W (fun w1 => Upd W w1 b ∧ w1.cell? ⟨w.heap.size, 0, none⟩ = some (.pointer (some ⟨b, 0, none⟩)) ∧ ∃ r, r ≠ b ∧ w1.cell? ⟨b, 0 + 3, none⟩ = some (.map (some r)) ∧ w1.heap[r]? = some (.map (wE 7) 7)) c0 c1 (fr _) (fr _) (by
    have W1 : ∃ W1, W1 = W.setCell ⟨b, 0 + 1, none⟩ (.int .i32 1) := ⟨_, rfl⟩
    obtain ⟨W1, hW1⟩ := W1
    have u1 : Upd W W1 b := by rw [hW1]; exact set_upd _ _ _ _
    have hb1 : W1.heap[b]? = some (.cells #[.int .u32 0, .int .i32 1, .int .u32 0, .map none] 326 (0, 0)) := by rw [hW1, set_block hbW (by decide)]; rfl
    have hs1 : W1.heap.size = W.heap.size := by rw [hW1]; show (W.heap.modify b _).size = _; simp
    have hpl1 : W1.cell? ⟨w.heap.size, 0, none⟩ = some (.pointer (some ⟨b, 0, none⟩)) := (World.cell?_of_block (a := ⟨w.heap.size, 0, none⟩) (u1.block w.heap.size (by omega) hne)).trans hpl
    rw [← hW1]
    refine (op1 ⟨w.heap.size, 0, none⟩ b 0 (.map none) W1 hpl1 (by simp [World.cell?, hb1]) (by simp [World.frozen?, hb1]) (by omega)).mono ?_
    rintro e w1 ⟨rfl, rfl⟩
    have hb2 : (W1.setCell ⟨b, 0 + 3, none⟩ (.map (some W1.heap.size))).heap[b]? = some (.cells #[.int .u32 0, .int .i32 1, .int .u32 0, .map (some W1.heap.size)] 326 (0, 0)) := by rw [set_block hb1 (by decide)]; rfl
    have hs2 : (W1.setCell ⟨b, 0 + 3, none⟩ (.map (some W1.heap.size))).heap.size = W1.heap.size := by show (W1.heap.modify b _).size = _; simp
    have u2 : Upd W1 (W1.setCell ⟨b, 0 + 3, none⟩ (.map (some W1.heap.size))) b := set_upd _ _ _ _
    generalize W1.setCell ⟨b, 0 + 3, none⟩ (.map (some W1.heap.size)) = W2 at *
    have u3 : Upd W2 (W2.alloc (.map (wE 7) 7)) b := Upd.of_below ((Below.refl _ _).alloc (Nat.le_refl _) _) b
    have hb3 : (W2.alloc (.map (wE 7) 7)).heap[b]? = some (.cells #[.int .u32 0, .int .i32 1, .int .u32 0, .map (some W1.heap.size)] 326 (0, 0)) := by rw [Below.heap_alloc W2 _ _ (by omega)]; exact hb2
    have hr : (W2.alloc (.map (wE 7) 7)).heap[W1.heap.size]? = some (.map (wE 7) 7) := by rw [← hs2]; exact (MapKept.heap_alloc _ _).1
    generalize W2.alloc (.map (wE 7) 7) = W3 at *
    have u13 := u1.trans (u2.trans u3)
    refine ⟨rfl, ⟨u13, (World.cell?_of_block (a := ⟨w.heap.size, 0, none⟩) (u13.block w.heap.size (by omega) hne)).trans hpl, W1.heap.size, by omega, by simp [World.cell?, hb3], hr⟩, by simp [World.cell?, hb3], by simp [World.cell?, hb3], by simp [World.frozen?, hb3], by simp [World.frozen?, hb3]⟩)
  have KEY := Lib.hid key
  have UW := Lib.hid uW
  clear key uW c0 c1 c3 fr hbW hb hpl
  go_enter Tryz.func218, Tryz.ntmps218
  go_wp2_with fail
  rw [← hW]
  (with_reducible refine KEY.out.mono ?_)
  rintro e w' ⟨rfl, w1, ⟨u, p1, r, hrb, q1, q2⟩, rfl⟩
  have hb1 : b < w1.heap.size := by have := u.size; omega
  have e0 : (0 + 3 : Nat) = 3 := rfl
  have hl := look_words (r := r) (w := (w1.drew.setCell ⟨b, 0, none⟩ (.int .u32 1)).setCell ⟨b, 0 + 1, none⟩ (.int .i32 0)) (by
    rw [set_other _ _ _ _ _ hrb, set_other _ _ _ _ _ hrb]; exact q2) x
  have p2 : ((w1.drew.setCell ⟨b, 0, none⟩ (.int .u32 1)).setCell ⟨b, 0 + 1, none⟩ (.int .i32 0)).cell? ⟨w.heap.size, 0, none⟩ = some (.pointer (some ⟨b, 0, none⟩)) := by
    refine (World.cell?_of_block (a := ⟨w.heap.size, 0, none⟩) ?_).trans p1
    rw [set_other _ _ _ _ _ hne, set_other _ _ _ _ _ hne]; rfl
  have p3 : ((w1.drew.setCell ⟨b, 0, none⟩ (.int .u32 1)).setCell ⟨b, 0 + 1, none⟩ (.int .i32 0)).cell? ⟨b, 3, none⟩ = some (.map (some r)) := by
    refine (World.cell?_setCell_other _ ⟨b, 0 + 1, none⟩ ⟨b, 3, none⟩ _ (by simp)).trans ((World.cell?_setCell_other _ ⟨b, 0, none⟩ ⟨b, 3, none⟩ _ (by simp)).trans ?_)
    exact q1
  have fin : Upd w ((w1.drew.setCell ⟨b, 0, none⟩ (.int .u32 1)).setCell ⟨b, 0 + 1, none⟩ (.int .i32 0)) b := UW.out.trans (u.trans ((Upd.of_below (Below.of_drew 1) b).trans ((set_upd _ _ _ _).trans (set_upd _ _ _ _))))
  have FIN := Lib.hid fin
  clear fin
  generalize (w1.drew.setCell ⟨b, 0, none⟩ (.int .u32 1)).setCell ⟨b, 0 + 1, none⟩ (.int .i32 0) = W9 at *
  go_wp2
  go_ret
  exact ⟨rfl, FIN.out⟩
theorem set_below {w0 w : World} {b j : Nat} {v : Value} (h : Below w0.heap.size w0 w) (hb : w0.heap.size ≤ b) : Below w0.heap.size w0 (w.setCell ⟨b, j, none⟩ v) := Upd.below h (set_upd _ _ _ _) h.size hb
theorem alloc_b (w : World) (o : Obj) : Below w.heap.size w (w.alloc o) := (Below.refl w.heap.size w).alloc (Nat.le_refl _) o
theorem fixed_b (x d1 d2 d3 d4 d5 : Int) : Gives Tryz.prog 177 #[.agg #[.int .u32 x, .int .i64 d1, .int .i64 d2, .int .i64 d3, .int .i64 d4, .int .i64 d5]] (.tuple #[.agg #[.int .i64 (opF x), .int .i64 0, .int .i64 0, .int .i64 0, .int .i64 0, .int .i64 0], .bool (opF x != 0)]) := by
  intro w
  have h0 := alloc_b w (.cells #[.int .u32 x, .int .i64 d1, .int .i64 d2, .int .i64 d3, .int .i64 d4, .int .i64 d5] 220)
  obtain ⟨W1, hW1⟩ : ∃ W1, W1 = w.alloc (.cells #[.int .u32 x, .int .i64 d1, .int .i64 d2, .int .i64 d3, .int .i64 d4, .int .i64 d5] 220) := ⟨_, rfl⟩
  have s1 : W1.heap.size = w.heap.size + 1 := by rw [hW1]; simp
  rw [← hW1] at h0
  have h1 := alloc_b W1 (.cells #[.int .i64 0, .int .i64 0, .int .i64 0, .int .i64 0, .int .i64 0, .int .i64 0] 28)
  obtain ⟨W2, hW2⟩ : ∃ W2, W2 = W1.alloc (.cells #[.int .i64 0, .int .i64 0, .int .i64 0, .int .i64 0, .int .i64 0, .int .i64 0] 28) := ⟨_, rfl⟩
  have s2 : W2.heap.size = w.heap.size + 1 + 1 := by rw [hW2]; simp [s1]
  have g2 : W2.heap[w.heap.size + 1]? = some (.cells #[.int .i64 0, .int .i64 0, .int .i64 0, .int .i64 0, .int .i64 0, .int .i64 0] 28 (0, 0)) := by rw [hW2, ← s1]; exact (MapKept.heap_alloc _ _).1
  rw [← hW2] at h1
  have h2 := alloc_b W2 (.cells #[.int .u32 0, .int .i32 0, .int .u32 0, .map none] 326)
  obtain ⟨W3, hW3⟩ : ∃ W3, W3 = W2.alloc (.cells #[.int .u32 0, .int .i32 0, .int .u32 0, .map none] 326) := ⟨_, rfl⟩
  have g3 : W3.heap[w.heap.size + 1 + 1]? = some (.cells #[.int .u32 0, .int .i32 0, .int .u32 0, .map none] 326 (0, 0)) := by rw [hW3, ← s2]; exact (MapKept.heap_alloc _ _).1
  rw [← hW3] at h2
  have g3' : W3.heap[w.heap.size + 1]? = some (.cells #[.int .i64 0, .int .i64 0, .int .i64 0, .int .i64 0, .int .i64 0, .int .i64 0] 28 (0, 0)) := by rw [h2.block _ (by omega)]; exact g2
  have B3 : Below w.heap.size w W3 := (h0.trans (h1.mono (by omega))).trans (h2.mono (by omega))
  have s3 : W3.heap.size = w.heap.size + 1 + 1 + 1 := by rw [hW3]; simp [s2]
  have key := op_any (w.heap.size + 1 + 1) x W3 g3
  have KEY := Lib.hid key
  have HB := Lib.hid B3
  have HS := Lib.hid s3
  have HG := Lib.hid g3'
  have HW := Lib.hid (hW3.trans (by rw [hW2, hW1]))
  clear key B3 s3 g3' g3 g2 h0 h1 h2 s1 s2 hW1 hW2 hW3
  go_enter Tryz.func177, Tryz.ntmps177
  go_wp2_with fail
  rw [← HW.out]
  (with_reducible refine KEY.out.mono ?_)
  rintro e w1 ⟨rfl, u⟩
  have g4 : w1.heap[w.heap.size + 1]? = some (.cells #[.int .i64 0, .int .i64 0, .int .i64 0, .int .i64 0, .int .i64 0, .int .i64 0] 28 (0, 0)) := by
    rw [u.block (w.heap.size + 1) (by have := HS.out; omega) (by omega)]; exact HG.out
  have B4 : Below w.heap.size w w1 := Upd.below HB.out u (by have := HS.out; omega) (by omega)
  have z4 := u.size
  have B4' := Lib.hid B4
  have cc : ∀ j, j < 6 → w1.cell? ⟨w.heap.size + 1, j, none⟩ = some (.int .i64 0) := fun j hj => by
    have h6 : j = 0 ∨ j = 1 ∨ j = 2 ∨ j = 3 ∨ j = 4 ∨ j = 5 := by omega
    rcases h6 with rfl | rfl | rfl | rfl | rfl | rfl <;> simp [World.cell?, g4]
  have ff : ∀ j, w1.frozen? ⟨w.heap.size + 1, j, none⟩ = false := fun j => by simp [World.frozen?, g4]
  have c0 := cc 0 (by omega)
  have c1 := cc 1 (by omega)
  have c2 := cc 2 (by omega)
  have c3 := cc 3 (by omega)
  have c4 := cc 4 (by omega)
  have c5 := cc 5 (by omega)
  have HG2 := Lib.hid g4
  clear cc g4 B4 z4 u
  go_wp2
  have hb0 := HG2.out
  have hb1 := set_block (v := .int .i64 (opF x)) hb0 (show 0 < 6 by decide)
  have hb2 := set_block (v := .int .i64 0) hb1 (show 1 < 6 by decide)
  have hb3 := set_block (v := .int .i64 0) hb2 (show 2 < 6 by decide)
  have hb4 := set_block (v := .int .i64 0) hb3 (show 3 < 6 by decide)
  have hb5 := set_block (v := .int .i64 0) hb4 (show 4 < 6 by decide)
  have hb6 := set_block (v := .int .i64 0) hb5 (show 5 < 6 by decide)
  have B5 := Lib.hid (set_below (b := w.heap.size + 1) (j := 5) (v := .int .i64 0) (set_below (b := w.heap.size + 1) (j := 4) (v := .int .i64 0) (set_below (b := w.heap.size + 1) (j := 3) (v := .int .i64 0) (set_below (b := w.heap.size + 1) (j := 2) (v := .int .i64 0) (set_below (b := w.heap.size + 1) (j := 1) (v := .int .i64 0) (set_below (b := w.heap.size + 1) (j := 0) (v := .int .i64 (opF x)) B4'.out (by omega)) (by omega)) (by omega)) (by omega)) (by omega)) (by omega))
  clear hb0 hb1 hb2 hb3 hb4 hb5 c0 c1 c2 c3 c4 c5 ff
  generalize (((((w1.setCell ⟨w.heap.size + 1, 0, none⟩ (.int .i64 (opF x))).setCell ⟨w.heap.size + 1, 1, none⟩ (.int .i64 0)).setCell ⟨w.heap.size + 1, 2, none⟩ (.int .i64 0)).setCell ⟨w.heap.size + 1, 3, none⟩ (.int .i64 0)).setCell ⟨w.heap.size + 1, 4, none⟩ (.int .i64 0)).setCell ⟨w.heap.size + 1, 5, none⟩ (.int .i64 0) = W9 at *
  have q0 : W9.cell? ⟨w.heap.size + 1, 0, none⟩ = some (.int .i64 (opF x)) := by simp [World.cell?, hb6]
  have q1 : W9.cell? ⟨w.heap.size + 1, 1, none⟩ = some (.int .i64 0) := by simp [World.cell?, hb6]
  have q2 : W9.cell? ⟨w.heap.size + 1, 2, none⟩ = some (.int .i64 0) := by simp [World.cell?, hb6]
  have q3 : W9.cell? ⟨w.heap.size + 1, 3, none⟩ = some (.int .i64 0) := by simp [World.cell?, hb6]
  have q4 : W9.cell? ⟨w.heap.size + 1, 4, none⟩ = some (.int .i64 0) := by simp [World.cell?, hb6]
  have q5 : W9.cell? ⟨w.heap.size + 1, 5, none⟩ = some (.int .i64 0) := by simp [World.cell?, hb6]
  refine bodyPost_ret (v := .tuple #[.agg #[.int .i64 (opF x), .int .i64 0, .int .i64 0, .int .i64 0, .int .i64 0, .int .i64 0], .bool (opF x != 0)]) (by simp [results, Tryz.results177, asAddr, loadVar, isAgg, loadCells, Tryz.underlying28, go_sem, q0, q1, q2, q3, q4, q5, Result.andThen]) rfl ?_
  exact ⟨rfl, B5.out⟩
end Go.Proofs.YtfehilinnalflaaGreat
namespace Go.Proofs.YtfehilinnalflaaGreat
open Go.RowKit Go.BigFrame
set_option linter.unusedSimpArgs false
set_option linter.unusedVariables false
set_option maxRecDepth 100000
def ks0 : List Nat := [1, 3, 5, 7, 8, 11, 12, 18, 19, 20, 21, 22, 38, 39]
def ks1 : List Nat := [0, 1, 2, 3, 4, 5, 6, 7, 8, 10, 12, 13, 15, 20, 21, 22, 23]
def ks16 : List Nat := [6, 7, 8, 9, 20, 21, 22]
def ks17 : List Nat := [0, 1, 2, 3, 4, 5, 6, 7, 8, 12, 13, 15]
def maskV : Nat → BitVec 64
  | 0 => oneB ks0
  | 1 => oneB ks1
  | 2 => 544#64
  | 3 => 1632#64
  | 4 | 6 | 10 | 12 | 23 | 25 => 18446744073709551612#64
  | 15 | 21 | 28 => 9223372036871487743#64
  | 16 => oneB ks16
  | 17 => oneB ks17
  | 18 | 19 => 1088#64
  | 22 => 786722#64
  | _ => 18446744073709551615#64
def mppB (v : BitVec 64) : BitVec 64 := if bitsB v 11 2 = 2#64 then v &&& ~~~6144#64 else v
end Go.Proofs.YtfehilinnalflaaGreat
namespace Go.Proofs.YtfehilinnalflaaGreat
open Go.RowKit Go.BigFrame
set_option linter.unusedSimpArgs false
set_option linter.unusedVariables false
set_option maxRecDepth 100000
def updC (f : Nat → BitVec 64) (i : Nat) (v : BitVec 64) : Nat → BitVec 64 := fun j => if j = i then v else f j
theorem stA_ext {S : St} {A : Array Value} (hz : A.size = 65) (hx : ∀ i, i < 32 → A[i]? = some (U (S.x i))) (hp : A[32]? = some (U S.pc)) (hl : A[33]? = some (.int .i64 S.lev)) (hv : A[34]? = some (.bool S.v))
    (hc : ∀ i, i < 29 → A[35 + i]? = some (U (S.c i))) (hd : A[64]? = some (U S.done)) : A = stA S := by
  apply Array.ext_getElem?
  intro i
  by_cases h1 : i < 32
  · rw [hx i h1, stA_x S i h1]
  by_cases h2 : i = 32
  · subst h2; rw [hp, stA_pc]
  by_cases h3 : i = 33
  · subst h3; rw [hl, stA_lev]
  by_cases h4 : i = 34
  · subst h4; rw [hv, stA_v]
  by_cases h5 : i < 64
  · obtain ⟨j, rfl⟩ : ∃ j, i = 35 + j := ⟨i - 35, by omega⟩
    rw [hc j (by omega), stA_c S j (by omega)]
  by_cases h6 : i = 64
  · subst h6; rw [hd, stA_done]
  · rw [Array.getElem?_eq_none (by omega), Array.getElem?_eq_none (by rw [stA_size]; omega)]
theorem set_get (A : Array Value) (k j : Nat) (v : Value) (h : k < A.size) : (A.setIfInBounds k v)[j]? = if j = k then some v else A[j]? := by
  by_cases c : j = k
  · subst c; rw [if_pos rfl]; simp [h]
  · rw [if_neg c, Array.getElem?_setIfInBounds_ne (fun e => c e.symm)]
theorem stA_setC (S : St) (i : Nat) (v : BitVec 64) (h : i < 29) : (stA S).setIfInBounds (35 + i) (U v) = stA { S with c := updC S.c i v } := by
  have z := stA_size S
  refine stA_ext (by simp [z]) (fun j hj => ?_) ?_ ?_ ?_ (fun j hj => ?_) ?_ <;> rw [set_get _ _ _ _ (by omega)]
  · rw [if_neg (by omega), stA_x S j hj]
  · rw [if_neg (by omega), stA_pc]
  · rw [if_neg (by omega), stA_lev]
  · rw [if_neg (by omega), stA_v]
  · show _ = some (U (updC S.c i v j))
    unfold updC
    by_cases c : j = i
    · subst c; rw [if_pos rfl, if_pos rfl]
    · rw [if_neg (by omega), if_neg c, stA_c S j hj]
  · rw [if_neg (by omega), stA_done]
theorem stA_setX (S : St) (i : Nat) (v : BitVec 64) (h : i < 32) : (stA S).setIfInBounds i (U v) = stA { S with x := updC S.x i v } := by
  have z := stA_size S
  refine stA_ext (by simp [z]) (fun j hj => ?_) ?_ ?_ ?_ (fun j hj => ?_) ?_ <;> rw [set_get _ _ _ _ (by omega)]
  · show _ = some (U (updC S.x i v j))
    unfold updC
    by_cases c : j = i
    · subst c; rw [if_pos rfl, if_pos rfl]
    · rw [if_neg (by omega), if_neg c, stA_x S j hj]
  · rw [if_neg (by omega), stA_pc]
  · rw [if_neg (by omega), stA_lev]
  · rw [if_neg (by omega), stA_v]
  · rw [if_neg (by omega), stA_c S j hj]
  · rw [if_neg (by omega), stA_done]
theorem stA_setP (S : St) (v : BitVec 64) : (stA S).setIfInBounds 32 (U v) = stA { S with pc := v } := by
  have z := stA_size S
  refine stA_ext (by simp [z]) (fun j hj => ?_) ?_ ?_ ?_ (fun j hj => ?_) ?_ <;> rw [set_get _ _ _ _ (by omega)]
  · rw [if_neg (by omega), stA_x S j hj]
  · rw [if_pos rfl]
  · rw [if_neg (by omega), stA_lev]
  · rw [if_neg (by omega), stA_v]
  · rw [if_neg (by omega), stA_c S j hj]
  · rw [if_neg (by omega), stA_done]
theorem stA_setL (S : St) (v : Int) : (stA S).setIfInBounds 33 (.int .i64 v) = stA { S with lev := v } := by
  have z := stA_size S
  refine stA_ext (by simp [z]) (fun j hj => ?_) ?_ ?_ ?_ (fun j hj => ?_) ?_ <;> rw [set_get _ _ _ _ (by omega)]
  · rw [if_neg (by omega), stA_x S j hj]
  · rw [if_neg (by omega), stA_pc]
  · rw [if_pos rfl]
  · rw [if_neg (by omega), stA_v]
  · rw [if_neg (by omega), stA_c S j hj]
  · rw [if_neg (by omega), stA_done]
theorem stA_setV (S : St) (v : Bool) : (stA S).setIfInBounds 34 (.bool v) = stA { S with v := v } := by
  have z := stA_size S
  refine stA_ext (by simp [z]) (fun j hj => ?_) ?_ ?_ ?_ (fun j hj => ?_) ?_ <;> rw [set_get _ _ _ _ (by omega)]
  · rw [if_neg (by omega), stA_x S j hj]
  · rw [if_neg (by omega), stA_pc]
  · rw [if_neg (by omega), stA_lev]
  · rw [if_pos rfl]
  · rw [if_neg (by omega), stA_c S j hj]
  · rw [if_neg (by omega), stA_done]
theorem HasSt.set {w : World} {b : Nat} {S S' : St} (h : HasSt w b S) (k : Nat) (v : Value) (hs : (stA S).setIfInBounds k v = stA S') : HasSt (w.setCell ⟨b, k, none⟩ v) b S' := by
  unfold HasSt at *
  rw [heap_setCell_same w b k _ _ v h, hs]
theorem HasSt.setC {w : World} {b : Nat} {S : St} (h : HasSt w b S) (i : Nat) (v : BitVec 64) (hi : i < 29) : HasSt (w.setCell ⟨b, 35 + i, none⟩ (U v)) b { S with c := updC S.c i v } := h.set _ _ (stA_setC S i v hi)
def cleanL (l : Int) : Int := if l = 0 ∨ l = 1 ∨ l = 3 then l else 3
def cleanS (S : St) : St :=
  { x := updC S.x 0 0#64, pc := S.pc &&& ~~~3#64, lev := cleanL S.lev, v := if cleanL S.lev = 3 then false else S.v,
    c := fun i => if i = 0 then mppB (S.c 0 &&& maskV 0) else S.c i &&& maskV i, done := S.done }
end Go.Proofs.YtfehilinnalflaaGreat
namespace Go.Proofs.YtfehilinnalflaaGreat
open Go.RowKit Go.BigFrame
set_option linter.unusedSimpArgs false
set_option linter.unusedVariables false
set_option maxRecDepth 100000
def St0 : St := { x := fun _ => 0#64, pc := 0#64, lev := 0, v := false, c := fun _ => 0#64, done := 0#64 }
theorem stA_one (S : St) : (stA S).all (·.oneCell') = true := by
  rw [Array.all_eq_true_iff_forall_mem]
  intro v hv
  unfold stA stL at hv
  simp only [List.mem_toArray, List.mem_append, List.mem_map, List.mem_cons, List.not_mem_nil, or_false] at hv
  rcases hv with ((⟨a, _, rfl⟩ | rfl | rfl | rfl) | ⟨a, _, rfl⟩) | rfl <;> rfl
end Go.Proofs.YtfehilinnalflaaGreat
namespace Go.Proofs.YtfehilinnalflaaGreat
open Go.RowKit Go.BigFrame
set_option linter.unusedSimpArgs false
set_option linter.unusedVariables false
set_option maxRecDepth 100000
inductive Ch where
  | u (st : Bool) (b : BitVec 64)
  | x (st : Bool) (v : Value)
  | S (s : St)
def Ch.cells : Ch → List Value
  | .u _ b => [U b]
  | .x _ v => [v]
  | .S s => stL s
def Ch.w : Ch → Nat
  | .S _ => 65
  | _ => 1
def Ch.one : Ch → Value
  | .u _ b => U b
  | .x _ v => v
  | .S s => .agg (stA s)
def Ch.sc : Ch → Bool
  | .S _ => false
  | _ => true
theorem stL_len (s : St) : (stL s).length = 65 := by have := stA_size s; unfold stA at this; simpa using this
theorem Ch.len (c : Ch) : c.cells.length = c.w := by cases c <;> first | rfl | exact stL_len _
theorem Ch.sc_cells {c : Ch} (h : c.sc = true) : c.cells = [c.one] := by cases c <;> first | rfl | cases h
theorem Ch.sc_w {c : Ch} (h : c.sc = true) : c.w = 1 := by cases c <;> first | rfl | cases h
def flat : List Ch → List Value
  | [] => []
  | c :: cs => c.cells ++ flat cs
def wid : List Ch → Nat
  | [] => 0
  | c :: cs => c.w + wid cs
theorem flat_len : ∀ cs, (flat cs).length = wid cs
  | [] => rfl
  | c :: cs => by simp [flat, wid, Ch.len, flat_len cs]
theorem flat_app : ∀ a b, flat (a ++ b) = flat a ++ flat b
  | [], b => rfl
  | c :: cs, b => by simp [flat, flat_app cs b]
def stGet (s : St) (o : Nat) : Ch :=
  if o < 32 then .u false (s.x o) else if o = 32 then .u false s.pc else if o = 33 then .x false (.int .i64 s.lev) else if o = 34 then .x false (.bool s.v) else if o < 64 then .u false (s.c (o - 35)) else .u false s.done
theorem stGet_sc (s : St) (o : Nat) : (stGet s o).sc = true := by
  unfold stGet
  by_cases h1 : o < 32
  · rw [if_pos h1]; rfl
  rw [if_neg h1]
  by_cases h2 : o = 32
  · rw [if_pos h2]; rfl
  rw [if_neg h2]
  by_cases h3 : o = 33
  · rw [if_pos h3]; rfl
  rw [if_neg h3]
  by_cases h4 : o = 34
  · rw [if_pos h4]; rfl
  rw [if_neg h4]
  by_cases h5 : o < 64
  · rw [if_pos h5]; rfl
  · rw [if_neg h5]; rfl
theorem stL_at (s : St) (o : Nat) (v : Value) (h : (stA s)[o]? = some v) : (stL s)[o]? = some v := by unfold stA at h; simpa using h
theorem stGet_ok (s : St) (o : Nat) (h : o < 65) : (stL s)[o]? = some (stGet s o).one := by
  apply stL_at
  unfold stGet
  by_cases h1 : o < 32
  · rw [if_pos h1, stA_x s o h1]; rfl
  by_cases h2 : o = 32
  · subst h2; rw [stA_pc]; rfl
  by_cases h3 : o = 33
  · subst h3; rw [stA_lev]; rfl
  by_cases h4 : o = 34
  · subst h4; rw [stA_v]; rfl
  by_cases h5 : o < 64
  · rw [if_neg h1, if_neg h2, if_neg h3, if_neg h4, if_pos h5]
    have := stA_c s (o - 35) (by omega)
    rw [show 35 + (o - 35) = o by omega] at this
    rw [this]; rfl
  · obtain rfl : o = 64 := by omega
    rw [stA_done]; rfl
def stSet (s : St) (o : Nat) (c : Ch) : Option St :=
  match c with
  | .u _ b => if o < 32 then some { s with x := updC s.x o b } else if o = 32 then some { s with pc := b } else if o < 35 then none else if o < 64 then some { s with c := updC s.c (o - 35) b } else if o = 64 then some { s with done := b } else none
  | .x _ (.int .i64 n) => if o = 33 then some { s with lev := n } else none
  | .x _ (.bool b) => if o = 34 then some { s with v := b } else none
  | _ => none
theorem stA_setD (S : St) (v : BitVec 64) : (stA S).setIfInBounds 64 (U v) = stA { S with done := v } := by
  have z := stA_size S
  refine stA_ext (by simp [z]) (fun j hj => ?_) ?_ ?_ ?_ (fun j hj => ?_) ?_ <;> rw [set_get _ _ _ _ (by omega)]
  · rw [if_neg (by omega), stA_x S j hj]
  · rw [if_neg (by omega), stA_pc]
  · rw [if_neg (by omega), stA_lev]
  · rw [if_neg (by omega), stA_v]
  · rw [if_neg (by omega), stA_c S j hj]
  · rw [if_pos rfl]
theorem stSet_arr {s s' : St} {o : Nat} {c : Ch} (h : stSet s o c = some s') : (stA s).setIfInBounds o c.one = stA s' ∧ o < 65 ∧ c.sc = true := by
  unfold stSet at h
  split at h
  · rename_i b
    split at h
    · rename_i h1; cases h; exact ⟨stA_setX s o b h1, by omega, rfl⟩
    · split at h
      · rename_i h2; subst h2; cases h; exact ⟨stA_setP s b, by omega, rfl⟩
      · split at h
        · cases h
        · split at h
          · cases h
            have := stA_setC s (o - 35) b (by omega)
            rw [show 35 + (o - 35) = o by omega] at this
            exact ⟨this, by omega, rfl⟩
          · split at h
            · rename_i h5; subst h5; cases h; exact ⟨stA_setD s b, by omega, rfl⟩
            · cases h
  · split at h
    · rename_i n h1; subst h1; cases h; exact ⟨stA_setL s n, by omega, rfl⟩
    · cases h
  · split at h
    · rename_i b h1; subst h1; cases h; exact ⟨stA_setV s b, by omega, rfl⟩
    · cases h
  · cases h
theorem stSet_ok {s s' : St} {o : Nat} {c : Ch} (h : stSet s o c = some s') : stL s' = (stL s).set o c.one ∧ o < 65 ∧ c.sc = true := by
  obtain ⟨h1, h2, h3⟩ := stSet_arr h
  refine ⟨?_, h2, h3⟩
  unfold stA at h1
  have := congrArg Array.toList h1
  simpa using this.symm
def rd : List Ch → Nat → Option Ch
  | [], _ => none
  | .S s :: cs, o => if o < 65 then some (stGet s o) else rd cs (o - 65)
  | c :: cs, 0 => some c
  | _ :: cs, o + 1 => rd cs o
theorem rd_ok (cs : List Ch) : ∀ {o : Nat} {c : Ch}, rd cs o = some c → (flat cs)[o]? = some c.one ∧ c.sc = true := by
  induction cs with
  | nil => intro o c h; cases h
  | cons d cs ih =>
    intro o c h
    cases d with
    | S s =>
      unfold rd at h
      split at h
      · rename_i ho; cases h
        refine ⟨?_, stGet_sc s o⟩
        show (stL s ++ flat cs)[o]? = _
        rw [List.getElem?_append_left (by rw [stL_len]; omega)]
        exact stGet_ok s o ho
      · have := ih h
        refine ⟨?_, this.2⟩
        show (stL s ++ flat cs)[o]? = _
        rw [List.getElem?_append_right (by rw [stL_len]; omega), stL_len]
        exact this.1
    | u st b => cases o with
      | zero => unfold rd at h; cases h; exact ⟨rfl, rfl⟩
      | succ o => unfold rd at h; exact ih h
    | x st v => cases o with
      | zero => unfold rd at h; cases h; exact ⟨rfl, rfl⟩
      | succ o => unfold rd at h; exact ih h
def wr : List Ch → Nat → Ch → Option (List Ch)
  | [], _, _ => none
  | .S s :: cs, o, c => if o < 65 then (stSet s o c).map (fun s' => .S s' :: cs) else (wr cs (o - 65) c).map (fun r => .S s :: r)
  | _ :: cs, 0, c => if c.sc = true then some (c :: cs) else none
  | d :: cs, o + 1, c => (wr cs o c).map (fun r => d :: r)
theorem wr_ok (cs : List Ch) : ∀ {o : Nat} {c : Ch} {r : List Ch}, wr cs o c = some r → flat r = (flat cs).set o c.one ∧ o < wid cs ∧ c.sc = true := by
  induction cs with
  | nil => intro o c r h; cases h
  | cons d cs ih =>
    intro o c r h
    cases d with
    | S s =>
      unfold wr at h
      split at h
      · rename_i ho
        cases hs : stSet s o c with
        | none => rw [hs] at h; cases h
        | some s' =>
          rw [hs] at h; cases h
          obtain ⟨h1, h2, h3⟩ := stSet_ok hs
          refine ⟨?_, by simp only [wid, Ch.w]; omega, h3⟩
          show stL s' ++ flat cs = (stL s ++ flat cs).set o c.one
          rw [List.set_append_left _ _ (by rw [stL_len]; omega), h1]
      · cases hs : wr cs (o - 65) c with
        | none => rw [hs] at h; cases h
        | some r' =>
          rw [hs] at h; cases h
          obtain ⟨h1, h2, h3⟩ := ih hs
          refine ⟨?_, by simp only [wid, Ch.w]; omega, h3⟩
          show stL s ++ flat r' = (stL s ++ flat cs).set o c.one
          rw [List.set_append_right _ _ (by rw [stL_len]; omega), stL_len, h1]
    | u st b => cases o with
      | zero =>
        unfold wr at h
        split at h
        · rename_i hc; cases h
          refine ⟨?_, by simp only [wid, Ch.w]; omega, hc⟩
          show c.cells ++ flat cs = _
          rw [Ch.sc_cells hc]; rfl
        · cases h
      | succ o =>
        unfold wr at h
        cases hs : wr cs o c with
        | none => rw [hs] at h; cases h
        | some r' =>
          rw [hs] at h; cases h
          obtain ⟨h1, h2, h3⟩ := ih hs
          refine ⟨?_, by simp only [wid, Ch.w]; omega, h3⟩
          show U b :: flat r' = _
          rw [h1]; rfl
    | x st b => cases o with
      | zero =>
        unfold wr at h
        split at h
        · rename_i hc; cases h
          refine ⟨?_, by simp only [wid, Ch.w]; omega, hc⟩
          show c.cells ++ flat cs = _
          rw [Ch.sc_cells hc]; rfl
        · cases h
      | succ o =>
        unfold wr at h
        cases hs : wr cs o c with
        | none => rw [hs] at h; cases h
        | some r' =>
          rw [hs] at h; cases h
          obtain ⟨h1, h2, h3⟩ := ih hs
          refine ⟨?_, by simp only [wid, Ch.w]; omega, h3⟩
          show b :: flat r' = _
          rw [h1]; rfl
def takeN : List Ch → Nat → Option (List Ch)
  | _, 0 => some []
  | [], _ + 1 => none
  | c :: cs, n + 1 => if c.w ≤ n + 1 then (takeN cs (n + 1 - c.w)).map (fun r => c :: r) else none
def dropN : List Ch → Nat → Option (List Ch)
  | cs, 0 => some cs
  | [], _ + 1 => none
  | c :: cs, n + 1 => if c.w ≤ n + 1 then dropN cs (n + 1 - c.w) else none
theorem takeN_ok : ∀ {cs : List Ch} {n : Nat} {r : List Ch}, takeN cs n = some r → flat r = (flat cs).take n ∧ n ≤ wid cs ∧ wid r = n
  | cs, 0, r, h => by cases cs <;> (unfold takeN at h; cases h; exact ⟨by simp [flat], Nat.zero_le _, rfl⟩)
  | [], n + 1, r, h => by unfold takeN at h; cases h
  | c :: cs, n + 1, r, h => by
    unfold takeN at h
    split at h
    · rename_i hw
      cases hs : takeN cs (n + 1 - c.w) with
      | none => rw [hs] at h; cases h
      | some r' =>
        rw [hs] at h; cases h
        obtain ⟨h1, h2, h3⟩ := takeN_ok hs
        refine ⟨?_, by simp only [wid]; omega, by simp only [wid]; omega⟩
        show c.cells ++ flat r' = (c.cells ++ flat cs).take (n + 1)
        rw [List.take_append, h1, Ch.len, List.take_of_length_le (l := c.cells) (by rw [Ch.len]; omega)]
    · cases h
theorem dropN_ok : ∀ {cs : List Ch} {n : Nat} {r : List Ch}, dropN cs n = some r → flat r = (flat cs).drop n ∧ n ≤ wid cs
  | cs, 0, r, h => by cases cs <;> (unfold dropN at h; cases h; exact ⟨by simp, Nat.zero_le _⟩)
  | [], n + 1, r, h => by unfold dropN at h; cases h
  | c :: cs, n + 1, r, h => by
    unfold dropN at h
    split at h
    · rename_i hw
      obtain ⟨h1, h2⟩ := dropN_ok h
      refine ⟨?_, by simp only [wid]; omega⟩
      show flat r = (c.cells ++ flat cs).drop (n + 1)
      have e : c.cells.drop (n + 1) = [] := List.drop_eq_nil_of_le (by rw [Ch.len]; omega)
      rw [List.drop_append, h1, Ch.len, e]; rfl
    · cases h
def sub (cs : List Ch) (o n : Nat) : Option (List Ch) := (dropN cs o).bind fun r => takeN r n
def lay (cs : List Ch) (o : Nat) (vs : List Ch) : Option (List Ch) := (takeN cs o).bind fun a => (dropN cs (o + wid vs)).map fun b => a ++ vs ++ b
theorem sub_ok {cs r : List Ch} {o n : Nat} (h : sub cs o n = some r) : flat r = ((flat cs).drop o).take n ∧ o + n ≤ wid cs ∧ wid r = n := by
  unfold sub at h
  cases hd : dropN cs o with
  | none => rw [hd] at h; cases h
  | some r' =>
    rw [hd] at h
    have h' : takeN r' n = some r := h
    obtain ⟨h1, h2⟩ := dropN_ok hd
    obtain ⟨h3, h4, h5⟩ := takeN_ok h'
    have hl := congrArg List.length h1
    rw [flat_len, List.length_drop, flat_len] at hl
    exact ⟨by rw [h3, h1], by omega, h5⟩
theorem lay_ok {cs r vs : List Ch} {o : Nat} (h : lay cs o vs = some r) : flat r = (flat cs).take o ++ flat vs ++ (flat cs).drop (o + wid vs) ∧ o + wid vs ≤ wid cs := by
  unfold lay at h
  cases ht : takeN cs o with
  | none => rw [ht] at h; cases h
  | some a =>
    cases hd : dropN cs (o + wid vs) with
    | none => rw [ht, hd] at h; cases h
    | some b =>
      rw [ht, hd] at h
      have h' : a ++ vs ++ b = r := by injection h
      obtain ⟨h1, _, _⟩ := takeN_ok ht
      obtain ⟨h3, h4⟩ := dropN_ok hd
      exact ⟨by rw [← h', flat_app, flat_app, h1, h3], h4⟩
end Go.Proofs.YtfehilinnalflaaGreat
namespace Go.Proofs.YtfehilinnalflaaGreat
open Go.RowKit Go.BigFrame
set_option linter.unusedSimpArgs false
set_option linter.unusedVariables false
set_option maxRecDepth 100000
theorem code_in (a : Nat) (n : Int) (hn : n = 1 ∨ n = 2 ∨ n = 4 ∨ n = 8) (hd : (a : Int) % n = 0) (ha : a < 32768) : codeOf (BitVec.ofNat 64 a) n = 0 := by
  unfold codeOf
  rw [ofNat_toNat a (by omega), if_neg, if_neg (by omega)]
  rintro (h | h)
  · omega
  · exact h hd
end Go.Proofs.YtfehilinnalflaaGreat
namespace Go.Proofs.YtfehilinnalflaaGreat
open Go.RowKit Go.BigFrame
set_option linter.unusedSimpArgs false
set_option linter.unusedVariables false
set_option maxRecDepth 100000
def busV0 (f : Nat → UInt8) : BusV := ⟨f, 0#64, BitVec.allOnes 64, fun _ => [], fun _ => 0, fun _ => true⟩
theorem bnew_mem {p g : Nat} {f : Nat → UInt8} {B : Nat} (w : World) (hM : IsMem w p g 92 f) (hB : B ≤ w.heap.size) (hp : B ≤ p) (hg : B ≤ g) :
    Calls Tryz.prog 11 #[.pointer (some ⟨p, 0, none⟩)] w fun e w' => ∃ b, e = .returned (.pointer (some ⟨b, 0, none⟩)) ∧ w.heap.size ≤ b ∧ (∃ ks vs, IsBus w' B b p g ks vs (busV0 f)) ∧ Below w.heap.size w w' := by
  have hpl := hM.p_lt
  have hgl := hM.g_lt
  have fin : ∃ ks vs, IsBus (w.alloc (.cells (busA p 0#64 (BitVec.allOnes 64) (fun _ => .slice none 0 0) (fun _ => 0)) 89)) B w.heap.size p g ks vs (busV0 f) := ⟨fun _ => none, fun _ => .slice none 0 0,
    { blk := (MapKept.heap_alloc _ _).1
      mem := hM.below ((Below.refl _ _).alloc (Nat.le_refl _) _)
      row := fun _ _ => ⟨rfl, rfl⟩
      dis := fun _ _ _ _ _ h => by cases h
      far := fun _ _ => ⟨by simp, by simp, by simp⟩
      lb := hB
      lp := hp
      lg := hg
      bp := by omega
      bg := by omega
      nl := fun _ _ _ => rfl }⟩
  have FIN := Lib.hid fin
  clear hM fin
  go_enter Tryz.func11, Tryz.ntmps11
  go_wp2
  go_ret
  exact ⟨_, rfl, Nat.le_refl _, FIN.out, (Below.refl _ _).alloc (Nat.le_refl _) _⟩
def conOf (a : BitVec 64) (n : Int) : Option Nat :=
  if n = 1 ∧ 61696 ≤ a.toNat ∧ (a.toNat - 61696) % 256 = 0 ∧ (a.toNat - 61696) / 256 < 4 then some ((a.toNat - 61696) / 256) else none
theorem bcon (b : Nat) (a : BitVec 64) (n : Int) (w : World) :
    Calls Tryz.prog 169 #[.pointer (some ⟨b, 0, none⟩), U a, .int .i64 n] w fun e w' => e = .returned (.pointer ((conOf a n).map fun k => ⟨b, 3 + 3 * k, none⟩)) ∧ w = w' := by
  by_cases h1 : n = 1
  · subst h1
    by_cases h2 : 61696 ≤ a.toNat
    · have s1 : IntKind.u64.wrap ((a.toNat : Int) - 61696) = ((a.toNat - 61696 : Nat) : Int) := by rw [show (a.toNat : Int) - 61696 = ((a.toNat - 61696 : Nat) : Int) by omega]; exact IntWalk.u64_in _ ⟨by omega, by have := a.isLt; omega⟩
      have l1 : decide ((a.toNat : Int) < 61696) = false := decide_eq_false (by omega)
      by_cases h3 : (a.toNat - 61696) % 256 = 0
      · have r1 : (((a.toNat - 61696 : Nat) : Int) % 256 != 0) = false := by rw [bne_eq_false_iff_eq]; omega
        have r2 : ((a.toNat - 61696 : Nat) : Int) / 256 = (((a.toNat - 61696) / 256 : Nat) : Int) := by omega
        have r3 : IntKind.u64.wrap (((a.toNat - 61696) / 256 : Nat) : Int) = (((a.toNat - 61696) / 256 : Nat) : Int) := IntWalk.u64_in _ ⟨by omega, by have := a.isLt; omega⟩
        by_cases h4 : (a.toNat - 61696) / 256 < 4
        · have c : conOf a 1 = some ((a.toNat - 61696) / 256) := by unfold conOf; rw [if_pos ⟨rfl, h2, h3, h4⟩]
          rw [c]
          have key := bport b ((a.toNat - 61696) / 256) w h4
          generalize (a.toNat - 61696) / 256 = q at *
          generalize a.toNat - 61696 = y at *
          clear h4 h3 h2 c
          go_enter Tryz.func169, Tryz.ntmps169
          go_wp2_with fail
          (with_reducible refine key.mono ?_)
          rintro e w1 ⟨rfl, rfl⟩
          go_wp2
          go_ret
          exact ⟨rfl, rfl⟩
        · have c : conOf a 1 = none := by unfold conOf; rw [if_neg (by omega)]
          rw [c]
          have key := bport_no b (((a.toNat - 61696) / 256 : Nat) : Int) w (by omega)
          generalize (a.toNat - 61696) / 256 = q at *
          generalize a.toNat - 61696 = y at *
          clear h4 h3 h2 c
          go_enter Tryz.func169, Tryz.ntmps169
          go_wp2_with fail
          (with_reducible refine key.mono ?_)
          rintro e w1 ⟨rfl, rfl⟩
          go_wp2
          go_ret
          exact ⟨rfl, rfl⟩
      · have r1 : (((a.toNat - 61696 : Nat) : Int) % 256 != 0) = true := by rw [bne_iff_ne]; omega
        have c : conOf a 1 = none := by unfold conOf; rw [if_neg (by omega)]
        rw [c]
        generalize a.toNat - 61696 = y at *
        clear h3 h2 c
        go_enter Tryz.func169, Tryz.ntmps169
        go_wp2
        go_ret
        exact ⟨rfl, rfl⟩
    · have l1 : decide ((a.toNat : Int) < 61696) = true := decide_eq_true (by omega)
      have c : conOf a 1 = none := by unfold conOf; rw [if_neg (by omega)]
      rw [c]
      clear h2 c
      go_enter Tryz.func169, Tryz.ntmps169
      go_wp2
      go_ret
      exact ⟨rfl, rfl⟩
  · have c : conOf a n = none := by unfold conOf; rw [if_neg (by omega)]
    rw [c]
    have r1 : (n != 1) = true := bne_iff_ne.2 h1
    clear h1 c
    go_enter Tryz.func169, Tryz.ntmps169
    go_wp2
    go_ret
    exact ⟨rfl, rfl⟩
theorem IsBus.c0 {w : World} {B b p g : Nat} {ks : Nat → Option Nat} {vs : Nat → Value} {S : BusV} (h : IsBus w B b p g ks vs S) : w.cell? ⟨b, 0, none⟩ = some (.pointer (some ⟨p, 0, none⟩)) := h.cell 0
theorem IsBus.c1 {w : World} {B b p g : Nat} {ks : Nat → Option Nat} {vs : Nat → Value} {S : BusV} (h : IsBus w B b p g ks vs S) : w.cell? ⟨b, 1, none⟩ = some (U S.t) := h.cell 1
theorem IsBus.c2 {w : World} {B b p g : Nat} {ks : Nat → Option Nat} {vs : Nat → Value} {S : BusV} (h : IsBus w B b p g ks vs S) : w.cell? ⟨b, 2, none⟩ = some (U S.al) := h.cell 2
theorem bdevice (b : Nat) (a : BitVec 64) (w : World) :
    Calls Tryz.prog 111 #[.pointer (some ⟨b, 0, none⟩), U a] w fun e w' => e = .returned (.bool (decide (61440 ≤ a.toNat ∧ a.toNat < 62720))) ∧ w = w' := by
  have e : decide (61440 ≤ a.toNat ∧ a.toNat < 62720) = (decide ((61440 : Int) ≤ (a.toNat : Int)) && decide ((a.toNat : Int) < 62720)) := by rw [Bool.eq_iff_iff]; simp; omega
  rw [e]
  clear e
  generalize hb1 : decide ((61440 : Int) ≤ (a.toNat : Int)) = b1 at *
  generalize hb2 : decide ((a.toNat : Int) < 62720) = b2 at *
  go_enter Tryz.func111, Tryz.ntmps111
  cases b1 <;> cases b2 <;> (go_wp2; go_ret; exact ⟨rfl, rfl⟩)
theorem btimer (b B : Nat) (S : BusV) (w : World) (h : Bus w B b S) :
    Calls Tryz.prog 65 #[.pointer (some ⟨b, 0, none⟩)] w fun e w' => e = .returned (.bool (decide (S.al.toNat ≤ S.t.toNat))) ∧ ∃ k, w' = w.drewN k := by
  obtain ⟨p, g, ks, vs, h⟩ := h
  have c1 := h.c1
  have key : ∀ W : World, W.heap = w.heap → Calls Tryz.prog 90 #[.pointer (some ⟨b, 1, none⟩)] W fun e w' => e = .returned (U S.t) ∧ W = w' := fun W hW => aload b 1 S.t W (by rw [← c1]; simp only [World.cell?, hW])
  have c2 := h.c2
  have KEY := Lib.hid key
  generalize S.t = t at *
  generalize S.al = al at *
  clear h key
  go_enter Tryz.func65, Tryz.ntmps65
  go_wp2_with fail
  go_quiet ((go_at_call 90; exact quiet_left (KEY.out _ rfl)))
  go_wp2
  go_ret
  exact ⟨rfl, _, rfl⟩
end Go.Proofs.YtfehilinnalflaaGreat
namespace Go.Proofs.YtfehilinnalflaaGreat
open Go.RowKit Go.BigFrame
set_option linter.unusedSimpArgs false
set_option linter.unusedVariables false
set_option maxRecDepth 100000
theorem bread_time (b B : Nat) (S : BusV) (w : World) (h : Bus w B b S) :
    Calls Tryz.prog 113 #[.pointer (some ⟨b, 0, none⟩), .int .u64 61440, .int .i64 8] w fun e w' => e = .returned (.tuple #[U S.t, .bool true]) ∧ w = w' := by
  obtain ⟨p, g, ks, vs, h⟩ := h
  have key := aload b 1 S.t w h.c1
  generalize S.t = t at *
  clear h
  go_enter Tryz.func113, Tryz.ntmps113
  go_wp2_with fail
  (with_reducible refine key.mono ?_)
  rintro e w1 ⟨rfl, rfl⟩
  go_wp2
  go_ret2
  exact ⟨rfl, rfl⟩
theorem bread_alarm (b B : Nat) (S : BusV) (w : World) (h : Bus w B b S) :
    Calls Tryz.prog 113 #[.pointer (some ⟨b, 0, none⟩), .int .u64 61448, .int .i64 8] w fun e w' => e = .returned (.tuple #[U S.al, .bool true]) ∧ w = w' := by
  obtain ⟨p, g, ks, vs, h⟩ := h
  have key := h.c2
  generalize S.al = t at *
  clear h
  go_enter Tryz.func113, Tryz.ntmps113
  go_wp2
  go_ret2
  exact ⟨rfl, rfl⟩
theorem bread_mem (b B : Nat) (S : BusV) (a : BitVec 64) (n : Int) (w : World) (h : Bus w B b S) (hc : conOf a n = none) (h1 : ¬ (a.toNat = 61440 ∧ n = 8)) (h2 : ¬ (a.toNat = 61448 ∧ n = 8)) :
    Calls Tryz.prog 113 #[.pointer (some ⟨b, 0, none⟩), U a, .int .i64 n] w fun e w' => e = .returned (.tuple #[U (rdF S.f a n), .bool (codeOf a n == 0)]) ∧ Below w.heap.size w w' := by
  obtain ⟨p, g, ks, vs, h⟩ := h
  have hp := h.c0
  have kc := bcon b a n w
  rw [hc] at kc
  have kr := read_all a n w h.mem
  generalize rdF S.f a n = v at *
  have e1 : (((a.toNat : Int) == 61440) && (n == 8)) = false := by rw [Bool.eq_false_iff]; intro e; rw [Bool.and_eq_true, beq_iff_eq, beq_iff_eq] at e; omega
  have e2 : (((a.toNat : Int) == 61448) && (n == 8)) = false := by rw [Bool.eq_false_iff]; intro e; rw [Bool.and_eq_true, beq_iff_eq, beq_iff_eq] at e; omega
  generalize hb1 : ((a.toNat : Int) == 61440) = b1 at *
  generalize hb2 : ((a.toNat : Int) == 61448) = b2 at *
  generalize hb3 : (n == 8) = b3 at *
  generalize codeOf a n = c at *
  clear h h1 h2 hc
  go_enter Tryz.func113, Tryz.ntmps113
  cases b1 <;> cases b2 <;> cases b3 <;> first
    | (exact absurd e1 (by decide)) | (exact absurd e2 (by decide))
    | (go_wp2_with fail
       (with_reducible refine kc.mono ?_)
       rintro e w1 ⟨rfl, rfl⟩
       go_wp2_with fail
       (with_reducible refine kr.mono ?_)
       rintro e w2 ⟨rfl, hb⟩
       go_wp2
       go_ret2
       exact ⟨rfl, hb⟩)
theorem IsBus.mem_turn {w w' : World} {B b p g : Nat} {ks : Nat → Option Nat} {vs : Nat → Value} {S : BusV} {f : Nat → UInt8} (h : IsBus w B b p g ks vs S) (u : Upd w w' g) (hM : IsMem w' p g 92 f) :
    IsBus w' B b p g ks vs { S with f := f } :=
  { h with
    blk := by rw [u.block b (blk_lt h.blk) h.bg]; exact h.blk
    mem := hM
    row := fun i hi => (h.row i hi).same fun k hk hl => u.block k hl (fun e => (h.far i hi).1 (by rw [hk, e])) }
end Go.Proofs.YtfehilinnalflaaGreat
namespace Go.Proofs.YtfehilinnalflaaGreat
open Go.RowKit Go.BigFrame
set_option linter.unusedSimpArgs false
set_option linter.unusedVariables false
set_option maxRecDepth 100000
structure UpdK (w w' : World) (k : Option Nat) : Prop where
  os : w'.os = w.os
  tape : w'.tape = w.tape
  output : w'.output = w.output
  size : w.heap.size ≤ w'.heap.size
  block : ∀ j, j < w.heap.size → k ≠ some j → w'.heap[j]? = w.heap[j]?
theorem set_cells (g : Nat) (T : TypeId) : ∀ (l : List UInt8) (w : World) (pre post : List UInt8), l.length ≤ post.length → w.heap[g]? = some (.cells (bytesV (pre ++ post)) T (0, 0)) →
    (w.setCells g pre.length (l.map fun b => Value.int .u8 (b.toNat : Int))).heap[g]? = some (.cells (bytesV (pre ++ l ++ post.drop l.length)) T (0, 0)) ∧
    (w.setCells g pre.length (l.map fun b => Value.int .u8 (b.toNat : Int))).os = w.os ∧ (w.setCells g pre.length (l.map fun b => Value.int .u8 (b.toNat : Int))).tape = w.tape ∧
    (w.setCells g pre.length (l.map fun b => Value.int .u8 (b.toNat : Int))).output = w.output ∧ (w.setCells g pre.length (l.map fun b => Value.int .u8 (b.toNat : Int))).heap.size = w.heap.size ∧
    ∀ j, j ≠ g → (w.setCells g pre.length (l.map fun b => Value.int .u8 (b.toNat : Int))).heap[j]? = w.heap[j]?
  | [], w, pre, post, _, hg => ⟨by simpa [World.setCells] using hg, rfl, rfl, rfl, rfl, fun _ _ => rfl⟩
  | b :: l, w, pre, post, hl, hg => by
    obtain ⟨q, qs, rfl⟩ : ∃ q qs, post = q :: qs := by cases post with | nil => simp at hl | cons q qs => exact ⟨q, qs, rfl⟩
    have h1 := set_block (v := .int .u8 (b.toNat : Int)) (j := pre.length) hg (by rw [bytesV_size]; simp)
    have e1 : (bytesV (pre ++ q :: qs)).set! pre.length (.int .u8 (b.toNat : Int)) = bytesV ((pre ++ [b]) ++ qs) := by
      unfold bytesV
      rw [← Array.toList_inj]
      simp
    rw [e1] at h1
    have ih := set_cells g T l (w.setCell ⟨g, pre.length, none⟩ (.int .u8 (b.toNat : Int))) (pre ++ [b]) qs (by simpa using hl) h1
    rw [show (pre ++ [b]).length = pre.length + 1 by simp] at ih
    obtain ⟨i1, i2, i3, i4, i5, i6⟩ := ih
    refine ⟨?_, i2, i3, i4, ?_, fun j hj => (i6 j hj).trans (set_other _ _ _ _ _ hj)⟩
    · rw [show (b :: l).map (fun b => Value.int .u8 (b.toNat : Int)) = .int .u8 (b.toNat : Int) :: l.map fun b => Value.int .u8 (b.toNat : Int) from rfl, World.setCells, i1]
      congr 4
      simp
    · rw [show (b :: l).map (fun b => Value.int .u8 (b.toNat : Int)) = .int .u8 (b.toNat : Int) :: l.map fun b => Value.int .u8 (b.toNat : Int) from rfl, World.setCells, i5]
      show (w.heap.modify g _).size = _
      simp
theorem row_cell {w : World} {g o : Nat} {pre l rest : List UInt8} {T : TypeId} (hg : w.heap[g]? = some (.cells (bytesV (pre ++ l ++ rest)) T (0, 0))) (ho : pre.length = o) :
    ∀ j v, (l.map fun b => Value.int .u8 (b.toNat : Int))[j]? = some v → w.cell? ((⟨g, o, none⟩ : Addr).add j) = some v := by
  intro j v hj
  have hadd : (⟨g, o, none⟩ : Addr).add j = ⟨g, o + j, none⟩ := by unfold Addr.add; split <;> simp_all
  rw [hadd]
  rw [List.getElem?_map, Option.map_eq_some_iff] at hj
  obtain ⟨b, hb, rfl⟩ := hj
  have hj2 : j < l.length := (List.getElem?_eq_some_iff.1 hb).1
  simp only [World.cell?, hg]
  simp only [bytesV, List.getElem?_toArray]
  rw [List.getElem?_map, List.append_assoc, List.getElem?_append_right (by omega), ← ho, Nat.add_sub_cancel_left, List.getElem?_append_left hj2, hb]; rfl
theorem append_row {w : World} {B : Nat} {k : Option Nat} {v : Value} {l : List UInt8} (h : RowAt w B k v l) (hB : B ≤ w.heap.size) (tx : TypeId) (x : Value) (l2 : List UInt8)
    (hs : Src Tryz.prog 1 tx x l2.length (l2.map fun b => Value.int .u8 (b.toNat : Int)) w) (hl : l.length + l2.length ≤ 1000000) :
    ∃ v' k' w', (Builtin.append_ #[84, tx] 84 #[v, x]).run Tryz.prog w = .ok v' w' ∧ RowAt w' B k' v' (l ++ l2) ∧ UpdK w w' k ∧ (k' = k ∨ k' = some w.heap.size) := by
  obtain ⟨i0, hi, hz0, hz1, hz2⟩ := info_parts infoB
  have grow : ∀ (bs : Option Addr) (cap : Nat), v = .slice bs l.length cap → cap < l.length + l2.length →
      (Builtin.firstCells i0.size l.length (.slice bs l.length cap)).run Tryz.prog w.drew = .ok (l.map fun b => Value.int .u8 (b.toNat : Int)).toArray w.drew →
      ∃ v' k' w', (Builtin.append_ #[84, tx] 84 #[v, x]).run Tryz.prog w = .ok v' w' ∧ RowAt w' B k' v' (l ++ l2) ∧ UpdK w w' k ∧ (k' = k ∨ k' = some w.heap.size) := by
    rintro bs cap rfl hc hold
    have hrun := run_append_grow_src (P := Tryz.prog) w 84 tx 84 5 i0 (.int .u8 0) Tryz.underlying84 hi hz0 bs l.length cap _ hold x l2.length _ (by rw [hz1]; exact hs) hc (by omega)
      (growslice_fits hc (by rw [hz2]; omega))
    have hge := grownCap_ge w (l.length + l2.length) cap 5
    have hmx := grownCap_le_maxLen w (l.length + l2.length) cap 5 (by simp only [maxLen]; omega)
    generalize grownCap w (l.length + l2.length) cap 5 = G at *
    refine ⟨_, some w.heap.size, _, hrun, ⟨0, G, [], List.replicate (G - (l.length + l2.length)) 0, by rw [List.length_append], ?_, rfl, by rw [List.length_append, List.length_replicate]; omega, by rw [List.length_append]; omega, hB, hmx⟩, ?_, .inr rfl⟩
    · have e := (MapKept.heap_alloc w.drew (.cells ((l.map (fun b => Value.int .u8 (b.toNat : Int)) ++ l2.map (fun b => Value.int .u8 (b.toNat : Int))).toArray ++ Builtin.zeroCells (Value.int .u8 0).cells (G - (l.length + l2.length))) 5)).1
      rw [show w.drew.heap.size = w.heap.size from rfl] at e
      rw [e]
      have e2 : (Value.int IntKind.u8 0).cells = #[Value.int .u8 0] := rfl
      rw [e2, zero_cells]
      congr 2
      rw [← List.map_append]
      show bytesV (l ++ l2) ++ _ = _
      rw [bytesV_append, List.nil_append]
    · exact ⟨rfl, rfl, rfl, by simp, fun j hj _ => Below.heap_alloc w.drew _ j hj⟩
  cases k with
  | none =>
    obtain ⟨rfl, rfl⟩ := h
    rcases Nat.eq_zero_or_pos l2.length with h0 | h0
    · have e : l2 = [] := List.length_eq_zero_iff.1 h0
      subst e
      refine ⟨.slice none 0 0, none, w, ?_, ⟨rfl, rfl⟩, ⟨rfl, rfl, rfl, Nat.le_refl _, fun _ _ _ => rfl⟩, .inl rfl⟩
      exact run_append_nothing (P := Tryz.prog) w 84 tx 84 5 i0 Tryz.underlying84 hi none 0 0 (Nat.le_refl _) x (by rw [hz1]; exact hs)
    · exact grow none 0 rfl (by simpa using h0) (run_firstCells_none _ _ _ _ _)
  | some g =>
    have hgl := h.lt
    obtain ⟨o, cap, pre, rest, rfl, hg, ho, hc1, hc2, hBg, hmx⟩ := h
    by_cases hr : l.length + l2.length ≤ cap
    · have hpost : l2.length ≤ rest.length := by omega
      have hg' : w.heap[g]? = some (.cells (bytesV ((pre ++ l) ++ rest)) 5 (0, 0)) := hg
      have hset := set_cells g 5 l2 w (pre ++ l) rest hpost hg'
      have hofs : (pre ++ l).length = o + l.length * i0.size := by rw [hz1, List.length_append, ho]; omega
      have hrun := run_append_room_src (P := Tryz.prog) w 84 tx 84 5 i0 Tryz.underlying84 hi g o l.length cap x l2.length _ (by rw [hz1]; exact hs) hr
        (by intro j hj; rw [← hofs]; rw [List.length_map] at hj; simp [World.cell?, hg, bytesV]; omega)
        (by intro j hj; simp [World.frozen?, hg])
      rw [← hofs] at hrun
      obtain ⟨s1, s2, s3, s4, s5, s6⟩ := hset
      refine ⟨_, some g, _, hrun, ⟨o, cap, pre, rest.drop l2.length, by rw [List.length_append], ?_, ho, by rw [List.length_append, List.length_drop]; omega, by rw [List.length_append]; omega, hBg, hmx⟩, ⟨s2, s3, s4, by omega, fun j _ hj => s6 j (fun e => hj (by rw [e]))⟩, .inl rfl⟩
      rw [s1]
      congr 3
      simp [List.append_assoc]
    · exact grow _ cap rfl (by omega) (run_firstCells_some _ _ _ _ _ _ _ (by rw [hz1, List.length_map]; omega) (by intro j u hj; exact row_cell (w := w.drew) hg ho j u hj))
end Go.Proofs.YtfehilinnalflaaGreat
namespace Go.Proofs.YtfehilinnalflaaGreat
open Go.RowKit Go.BigFrame
set_option linter.unusedSimpArgs false
set_option linter.unusedVariables false
set_option maxRecDepth 100000
def updN {α : Type} (f : Nat → α) (i : Nat) (a : α) : Nat → α := fun j => if j = i then a else f j
theorem updN_same {α : Type} (f : Nat → α) (i : Nat) (a : α) : updN f i a i = a := by unfold updN; rw [if_pos rfl]
theorem updN_other {α : Type} (f : Nat → α) (i j : Nat) (a : α) (h : j ≠ i) : updN f i a j = f j := by unfold updN; rw [if_neg h]
def cellOf (i : Nat) : Nat := 3 + 3 * (i / 2) + i % 2
theorem bus_set (p : Nat) (t al : BitVec 64) (vs : Nat → Value) (ns : Nat → Int) (i : Nat) (hi : i < 8) (v : Value) : (busA p t al vs ns).set! (cellOf i) v = busA p t al (updN vs i v) ns := by
  have h : i = 0 ∨ i = 1 ∨ i = 2 ∨ i = 3 ∨ i = 4 ∨ i = 5 ∨ i = 6 ∨ i = 7 := by omega
  rcases h with rfl | rfl | rfl | rfl | rfl | rfl | rfl | rfl <;> rfl
theorem IsBus.crow {w : World} {B b p g : Nat} {ks : Nat → Option Nat} {vs : Nat → Value} {S : BusV} (h : IsBus w B b p g ks vs S) (i : Nat) (hi : i < 8) : w.cell? ⟨b, cellOf i, none⟩ = some (vs i) := by
  rw [h.cell]
  have h : i = 0 ∨ i = 1 ∨ i = 2 ∨ i = 3 ∨ i = 4 ∨ i = 5 ∨ i = 6 ∨ i = 7 := by omega
  rcases h with rfl | rfl | rfl | rfl | rfl | rfl | rfl | rfl <;> rfl
theorem IsBus.turn_row {w w1 : World} {B b p g : Nat} {ks : Nat → Option Nat} {vs : Nat → Value} {S : BusV} (h : IsBus w B b p g ks vs S) (i : Nat) (hi : i < 8) (k' : Option Nat) (v' : Value) (l' : List UInt8)
    (u : UpdK w w1 (ks i)) (hr : RowAt w1 B k' v' l') (hk : k' = ks i ∨ k' = none ∨ ∃ q, k' = some q ∧ w.heap.size ≤ q) :
    IsBus (w1.setCell ⟨b, cellOf i, none⟩ v') B b p g (updN ks i k') (updN vs i v') { S with ls := updN S.ls i l', nil := updN S.nil i false } := by
  have hbl := blk_lt h.blk
  have hpl := h.mem.p_lt
  have hgl := h.mem.g_lt
  have hb1 : w1.heap[b]? = some (.cells (busA p S.t S.al vs S.ns) 89 (0, 0)) := by rw [u.block b hbl (fun e => (h.far i hi).2.1 e)]; exact h.blk
  have hnew : ∀ q, k' = some q → q ≠ b ∧ q ≠ p ∧ q ≠ g := by
    intro q hq
    rcases hk with e | e | ⟨q', e, hq'⟩
    · rw [e] at hq
      have hf := h.far i hi
      exact ⟨fun e => hf.2.1 (by rw [hq, e]), fun e => hf.2.2 (by rw [hq, e]), fun e => hf.1 (by rw [hq, e])⟩
    · rw [e] at hq; cases hq
    · rw [e] at hq; cases hq; exact ⟨by omega, by omega, by omega⟩
  have hold : ∀ j, j < 8 → ∀ q, ks j = some q → q < w.heap.size := fun j hj q hq => by have hr := h.row j hj; rw [hq] at hr; exact hr.lt
  refine ⟨?_, ?_, ?_, ?_, ?_, h.lb, h.lp, h.lg, h.bp, h.bg, fun j hj e => ?_⟩
  · rw [set_block hb1 (by unfold cellOf; show _ < 15; omega), bus_set _ _ _ _ _ i hi]
  · obtain ⟨r, m1, m2⟩ := h.mem
    exact ⟨r, by rw [set_other _ _ _ _ _ (fun e => h.bp e.symm), u.block p hpl (fun e => (h.far i hi).2.2 e)]; exact m1, by rw [set_other _ _ _ _ _ (fun e => h.bg e.symm), u.block g hgl (fun e => (h.far i hi).1 e)]; exact m2⟩
  · intro j hj
    by_cases c : j = i
    · subst c
      rw [updN_same, updN_same]
      show RowAt _ B k' v' (updN S.ls j l' j)
      rw [updN_same]
      exact hr.same fun q hq _ => set_other _ _ _ _ _ (hnew q hq).1
    · rw [updN_other _ _ _ _ c, updN_other _ _ _ _ c]
      show RowAt _ B (ks j) (vs j) (updN S.ls i l' j)
      rw [updN_other _ _ _ _ c]
      refine (h.row j hj).same fun q hq hql => ?_
      rw [set_other _ _ _ _ _ (fun e => (h.far j hj).2.1 (by rw [hq, e])), u.block q hql]
      intro e
      exact c (h.dis j i q hj hi hq e)
  · intro a c q ha hc h1 h2
    by_cases ca : a = i
    · by_cases cc : c = i
      · rw [ca, cc]
      · exfalso
        subst ca
        rw [updN_same] at h1
        rw [updN_other _ _ _ _ cc] at h2
        rcases hk with e | e | ⟨q', e, hq'⟩
        · rw [e] at h1; exact cc (h.dis c a q hc ha h2 h1)
        · rw [e] at h1; cases h1
        · rw [e] at h1; cases h1; have := hold c hc _ h2; omega
    · by_cases cc : c = i
      · exfalso
        subst cc
        rw [updN_same] at h2
        rw [updN_other _ _ _ _ ca] at h1
        rcases hk with e | e | ⟨q', e, hq'⟩
        · rw [e] at h2; exact ca (h.dis a c q ha hc h1 h2)
        · rw [e] at h2; cases h2
        · rw [e] at h2; cases h2; have := hold a ha _ h1; omega
      · rw [updN_other _ _ _ _ ca] at h1
        rw [updN_other _ _ _ _ cc] at h2
        exact h.dis a c q ha hc h1 h2
  · intro j hj
    by_cases c : j = i
    · subst c
      rw [updN_same]
      exact ⟨fun e => (hnew _ e).2.2 rfl, fun e => (hnew _ e).1 rfl, fun e => (hnew _ e).2.1 rfl⟩
    · rw [updN_other _ _ _ _ c]; exact h.far j hj
  · by_cases c : j = i
    · subst c
      have e : updN S.nil j false j = true := e
      rw [updN_same] at e; cases e
    · have e : updN S.nil i false j = true := e
      rw [updN_other _ _ _ _ c] at e ⊢
      exact h.nl j hj e
theorem row_drop {w : World} {B : Nat} {k : Option Nat} {v : Value} {l : List UInt8} (h : RowAt w B k v l) (lo : Nat) (hlo : lo ≤ l.length) (kk : IntKind) :
    ∃ v', (∀ W, (Instr.slice 84 v (some (.int kk (lo : Int))) none none).run Tryz.prog W = .ok v' W) ∧ RowAt w B k v' (l.drop lo) := by
  have ht : Tryz.prog.underlying 84 = some (.slice (Tryz.prog.elem 84)) := by kernel_rfl
  have hz : ∀ W, (sizeOf (Tryz.prog.elem 84)).run Tryz.prog W = .ok 1 W := fun _ => by kernel_rfl
  cases k with
  | none =>
    obtain ⟨rfl, rfl⟩ := h
    have : lo = 0 := by simpa using hlo
    subst this
    refine ⟨.slice none 0 0, fun W => ?_, ⟨rfl, rfl⟩⟩
    rw [run_slice_l (P := Tryz.prog) W 84 none 0 0 ht kk ((0 : Nat) : Int) (by omega) (by omega), hz]
    rfl
  | some g =>
    obtain ⟨o, cap, pre, rest, rfl, hg, ho, hc1, hc2, hBg, hmx⟩ := h
    by_cases hc : cap = lo
    · refine ⟨.slice (some ⟨g, o, none⟩) (l.length - lo) (cap - lo), fun W => ?_, o, cap - lo, pre, l ++ rest, ?_, ?_, ho, ?_, ?_, hBg, by omega⟩
      · rw [run_slice_l (P := Tryz.prog) W 84 (some ⟨g, o, none⟩) l.length cap ht kk lo (by omega) (by omega), hz]
        simp only [Result.andThen, sliced, Int.toNat_natCast]
        rw [if_pos hc]
      · rw [List.length_drop]
      · rw [hg, List.drop_eq_nil_of_le (by omega), List.append_nil, List.append_assoc]
      · omega
      · rw [List.length_drop]; omega
    · refine ⟨.slice (some ⟨g, o + lo, none⟩) (l.length - lo) (cap - lo), fun W => ?_, o + lo, cap - lo, pre ++ l.take lo, rest, ?_, ?_, ?_, ?_, ?_, hBg, by omega⟩
      · rw [run_slice_l (P := Tryz.prog) W 84 (some ⟨g, o, none⟩) l.length cap ht kk lo (by omega) (by omega), hz]
        simp only [Result.andThen, sliced, Int.toNat_natCast]
        rw [if_neg hc]
        congr 1
        by_cases h0 : lo = 0
        · subst h0; rfl
        · simp [Addr.add, h0]
      · rw [List.length_drop]
      · rw [hg]; congr 3; rw [List.append_assoc pre (l.take lo), List.take_append_drop]
      · rw [List.length_append, List.length_take, ho]; omega
      · rw [List.length_drop]; omega
      · rw [List.length_drop]; omega
theorem RowAt.shape {w : World} {B : Nat} {k : Option Nat} {v : Value} {l : List UInt8} (h : RowAt w B k v l) : ∃ a c, v = .slice a l.length c := by
  cases k with
  | none => obtain ⟨rfl, rfl⟩ := h; exact ⟨_, _, rfl⟩
  | some g => obtain ⟨o, cap, pre, rest, rfl, _⟩ := h; exact ⟨_, _, rfl⟩
theorem con_lt {a : BitVec 64} {n : Int} {k : Nat} (h : conOf a n = some k) : k < 4 ∧ n = 1 ∧ a.toNat = 61696 + 256 * k := by
  unfold conOf at h
  by_cases c : n = 1 ∧ 61696 ≤ a.toNat ∧ (a.toNat - 61696) % 256 = 0 ∧ (a.toNat - 61696) / 256 < 4
  · rw [if_pos c] at h; cases h; omega
  · rw [if_neg c] at h; cases h
end Go.Proofs.YtfehilinnalflaaGreat
namespace Go.Proofs.YtfehilinnalflaaGreat
open Go.RowKit Go.BigFrame
set_option linter.unusedSimpArgs false
set_option linter.unusedVariables false
set_option maxRecDepth 100000
theorem at_con {a : BitVec 64} {k : Nat} (h : a.toNat = 61696 + 256 * k) (hk : k < 4) : ((a.toNat : Int) == 61440) = false ∧ ((a.toNat : Int) == 61448) = false :=
  ⟨by rw [Bool.eq_false_iff]; intro e; rw [beq_iff_eq] at e; omega, by rw [Bool.eq_false_iff]; intro e; rw [beq_iff_eq] at e; omega⟩
theorem bread_con0 (b B k : Nat) (S : BusV) (a : BitVec 64) (w : World) (h : Bus w B b S) (hc : conOf a 1 = some k) (hl : S.ls (2 * k) = []) :
    Calls Tryz.prog 113 #[.pointer (some ⟨b, 0, none⟩), U a, .int .i64 1] w fun e w' => e = .returned (.tuple #[.int .u64 0, .bool true]) ∧ w = w' := by
  obtain ⟨p, g, ks, vs, h⟩ := h
  obtain ⟨hk, _, ha⟩ := con_lt hc
  have kc := bcon b a 1 w
  rw [hc] at kc
  have ci := h.crow (2 * k) (by omega)
  rw [show cellOf (2 * k) = 3 + 3 * k by unfold cellOf; omega] at ci
  obtain ⟨ad, c, hv⟩ := (h.row (2 * k) (by omega)).shape
  rw [hl] at hv
  rw [hv] at ci
  obtain ⟨t1, t2⟩ := at_con ha hk
  simp only [Option.map_some] at kc
  generalize hO : 3 + 3 * k = o at *
  clear h hc hl hv ha hk hO
  go_enter Tryz.func113, Tryz.ntmps113
  go_wp2_with fail
  (with_reducible refine kc.mono ?_)
  rintro e w1 ⟨rfl, rfl⟩
  go_wp2
  go_ret2
  exact ⟨rfl, rfl⟩
end Go.Proofs.YtfehilinnalflaaGreat
namespace Go.Proofs.YtfehilinnalflaaGreat
open Go.RowKit Go.BigFrame
set_option linter.unusedSimpArgs false
set_option linter.unusedVariables false
set_option maxRecDepth 100000
def last64 (l : List UInt8) : List UInt8 := l.drop (l.length - 64)
end Go.Proofs.YtfehilinnalflaaGreat
namespace Go.Proofs.YtfehilinnalflaaGreat
open Go.RowKit Go.BigFrame
set_option linter.unusedSimpArgs false
set_option linter.unusedVariables false
set_option maxRecDepth 100000
structure EntV where
  ok : Bool
  v : Bool
  page : Int
  asid : Int
  vmid : Int
  frame : Int
  bits : Int
  host : Int
  guest : Int
def Ent0 : EntV := ⟨false, false, 0, 0, 0, 0, 0, 0, 0⟩
def entL (e : EntV) : List Value := [.bool e.ok, .bool e.v, .int .i64 e.page, .int .i64 e.asid, .int .i64 e.vmid, .int .i64 e.frame, .int .i64 e.bits, .int .i64 e.host, .int .i64 e.guest]
def tlbL (l : Nat → EntV) : List Value := (List.range 16).flatMap fun i => entL (l i)
def tlbA (l : Nat → EntV) : Array Value := (tlbL l).toArray
structure HS where
  bus : BusV
  tl : Nat → EntV
  b : Nat
  p : Nat
  t : Nat
structure Mach (w : World) (F : Nat → Prop) (S : HS) : Prop where
  bus : ∃ g ks vs, IsBus w 0 S.b S.p g ks vs S.bus ∧ F S.b ∧ F S.p ∧ F g ∧ (∀ i k, i < 8 → ks i = some k → F k) ∧ S.t ≠ S.b ∧ S.t ≠ S.p ∧ S.t ≠ g ∧ ∀ i, i < 8 → ks i ≠ some S.t
  tlb : w.heap[S.t]? = some (.cells (tlbA S.tl) 122 (0, 0))
  ft : F S.t
  fl : ∀ b, F b → b < w.heap.size
structure Fr (X : Nat → Prop) (w w' : World) : Prop where
  os : w'.os = w.os
  tape : w'.tape = w.tape
  output : w'.output = w.output
  size : w.heap.size ≤ w'.heap.size
  block : ∀ k, k < w.heap.size → ¬ X k → w'.heap[k]? = w.heap[k]?
theorem Fr.refl (X : Nat → Prop) (w : World) : Fr X w w := ⟨rfl, rfl, rfl, Nat.le_refl _, fun _ _ _ => rfl⟩
theorem Fr.trans {X : Nat → Prop} {a b c : World} (h : Fr X a b) (k : Fr X b c) : Fr X a c :=
  ⟨k.os.trans h.os, k.tape.trans h.tape, k.output.trans h.output, Nat.le_trans h.size k.size, fun i hi hx => (k.block i (Nat.lt_of_lt_of_le hi h.size) hx).trans (h.block i hi hx)⟩
theorem Fr.then_ {X Y : Nat → Prop} {a b c : World} (h : Fr X a b) (k : Fr Y b c) (hy : ∀ i, Y i → X i ∨ a.heap.size ≤ i) : Fr X a c :=
  ⟨k.os.trans h.os, k.tape.trans h.tape, k.output.trans h.output, Nat.le_trans h.size k.size, fun i hi hx => (k.block i (Nat.lt_of_lt_of_le hi h.size) (fun e => (hy i e).elim hx (by omega))).trans (h.block i hi hx)⟩
theorem Fr.of_below {X : Nat → Prop} {w w' : World} (h : Below w.heap.size w w') : Fr X w w' := ⟨h.os, h.tape, h.output, h.size, fun k hk _ => h.block k hk⟩
theorem Fr.of_upd {X : Nat → Prop} {w w' : World} {g : Nat} (h : Upd w w' g) (hx : X g) : Fr X w w' := ⟨h.os, h.tape, h.output, h.size, fun k hk hn => h.block k hk (fun e => hn (e ▸ hx))⟩
theorem Fr.below {w w' : World} (h : Fr (fun _ => False) w w') : Below w.heap.size w w' := ⟨h.os, h.tape, h.output, h.size, fun k hk => h.block k hk id⟩
theorem Fr.mono {X Y : Nat → Prop} {w w' : World} (h : Fr X w w') (hy : ∀ i, X i → Y i) : Fr Y w w' := ⟨h.os, h.tape, h.output, h.size, fun k hk hn => h.block k hk (fun e => hn (hy k e))⟩
theorem IsBus.keep {w w' : World} {B b p g : Nat} {ks : Nat → Option Nat} {vs : Nat → Value} {S : BusV} (h : IsBus w B b p g ks vs S) (hb : w'.heap[b]? = w.heap[b]?) (hp : w'.heap[p]? = w.heap[p]?) (hg : w'.heap[g]? = w.heap[g]?)
    (hk : ∀ i k, i < 8 → ks i = some k → w'.heap[k]? = w.heap[k]?) : IsBus w' B b p g ks vs S :=
  { h with
    blk := by rw [hb]; exact h.blk
    mem := by obtain ⟨r, h1, h2⟩ := h.mem; exact ⟨r, by rw [hp]; exact h1, by rw [hg]; exact h2⟩
    row := fun i hi => (h.row i hi).same fun k e _ => hk i k hi e }
theorem Mach.keep {w w' : World} {F : Nat → Prop} {S : HS} (h : Mach w F S) (hs : w.heap.size ≤ w'.heap.size) (hF : ∀ b, F b → w'.heap[b]? = w.heap[b]?) : Mach w' F S := by
  obtain ⟨g, ks, vs, h1, h2, h3, h4, h5, h6⟩ := h.bus
  exact ⟨⟨g, ks, vs, h1.keep (hF _ h2) (hF _ h3) (hF _ h4) (fun i k hi e => hF _ (h5 i k hi e)), h2, h3, h4, h5, h6⟩, by rw [hF _ h.ft]; exact h.tlb, h.ft, fun b hb => Nat.lt_of_lt_of_le (h.fl b hb) hs⟩
theorem Mach.below {w w' : World} {F : Nat → Prop} {S : HS} (h : Mach w F S) (u : Below w.heap.size w w') : Mach w' F S :=
  h.keep u.size fun b hb => u.block b (h.fl b hb)
end Go.Proofs.YtfehilinnalflaaGreat
namespace Go.Proofs.YtfehilinnalflaaGreat
open Go.RowKit Go.BigFrame
set_option linter.unusedSimpArgs false
set_option linter.unusedVariables false
set_option maxRecDepth 100000
def quick (p : Program) {α : Type} : Sem α → Option α
  | .pure a => some a
  | .program k => quick p (k p)
  | .mark _ k => quick p k
  | _ => none
theorem quick_run {p : Program} {α : Type} {s : Sem α} {a : α} : quick p s = some a → ∀ w, s.run p w = .ok a w := by
  induction s with
  | pure b => intro h w; cases h; rfl
  | program k ih => intro h w; exact ih p h w
  | mark m k ih => intro h w; exact ih h w
  | _ => intro h; cases h
inductive Dv where
  | s (c : Ch)
  | g (cs : List Ch)
def Dv.val : Dv → Value
  | .s c => c.one
  | .g cs => .agg (flat cs).toArray
def Dv.chs : Dv → List Ch
  | .s c => [c]
  | .g cs => cs
def okOne : Value → Bool
  | .agg _ => false
  | .tuple _ => false
  | _ => true
def okChs : List Ch → Bool
  | [] => true
  | .x _ v :: cs => okOne v && okChs cs
  | _ :: cs => okChs cs
def Dv.ok (d : Dv) : Bool := okChs d.chs
theorem okOne_cells {v : Value} (h : okOne v = true) : v.cells = #[v] := by cases v <;> first | rfl | cases h
theorem okOne_one {v : Value} (h : okOne v = true) : v.oneCell' = true := by cases v <;> first | rfl | cases h
theorem Dv.cells_ok (d : Dv) (h : d.ok = true) : d.val.cells = (flat d.chs).toArray := by
  cases d with
  | g cs => rfl
  | s c =>
    cases c with
    | u st b => rfl
    | S s => show stA s = _; simp [flat, Dv.chs, Ch.cells, stA]
    | x st v =>
      have : okOne v = true := by unfold Dv.ok Dv.chs okChs at h; simp at h; exact h.1
      show v.cells = _
      rw [okOne_cells this]; rfl
theorem stL_one (s : St) : ∀ v ∈ stL s, v.oneCell' = true := by
  have := stA_one s
  unfold stA at this
  simpa using this
theorem flat_one : ∀ cs, okChs cs = true → ∀ v ∈ flat cs, v.oneCell' = true
  | [], _, v, hv => by cases hv
  | .u st b :: cs, h, v, hv => by
    have hv' : v = U b ∨ v ∈ flat cs := by simpa [flat, Ch.cells] using hv
    rcases hv' with rfl | hv'
    · rfl
    · exact flat_one cs (by unfold okChs at h; exact h) v hv'
  | .S s :: cs, h, v, hv => by
    have hv' : v ∈ stL s ∨ v ∈ flat cs := by simpa [flat, Ch.cells] using hv
    rcases hv' with hv' | hv'
    · exact stL_one s v hv'
    · exact flat_one cs (by unfold okChs at h; exact h) v hv'
  | .x st u :: cs, h, v, hv => by
    have hh : okOne u = true ∧ okChs cs = true := by unfold okChs at h; simpa using h
    have hv' : v = u ∨ v ∈ flat cs := by simpa [flat, Ch.cells] using hv
    rcases hv' with rfl | hv'
    · exact okOne_one hh.1
    · exact flat_one cs hh.2 v hv'
inductive AV where
  | d (v : Dv)
  | t (vs : List Dv)
  | p (k off : Nat)
  | q (k base n : Nat) (i : Int)
  | l (k n : Nat)
  | c (f : FuncId) (fs cs : List (Nat × Nat))
def CRel (σ : List Nat) : List (Nat × Nat) → List Value → Prop
  | [], [] => True
  | (k, o) :: cs, v :: vs => (∃ b, σ[k]? = some b ∧ v = .pointer (some ⟨b, o, none⟩)) ∧ CRel σ cs vs
  | _, _ => False
theorem CRel.more {σ : List Nat} (b : Nat) : ∀ {cs : List (Nat × Nat)} {vs : List Value}, CRel σ cs vs → CRel (σ ++ [b]) cs vs
  | [], [], _ => trivial
  | [], _ :: _, h => h.elim
  | (_, _) :: _, [], h => h.elim
  | (k, o) :: cs, v :: vs, ⟨⟨b', h1, h2⟩, h⟩ => ⟨⟨b', by rw [List.getElem?_append_left (List.getElem?_eq_some_iff.1 h1).1]; exact h1, h2⟩, h.more b⟩
theorem CRel.fun {σ : List Nat} : ∀ {cs : List (Nat × Nat)} {vs vs' : List Value}, CRel σ cs vs → CRel σ cs vs' → vs = vs'
  | [], [], [], _, _ => rfl
  | [], [], _ :: _, _, h => h.elim
  | [], _ :: _, _, h, _ => h.elim
  | (_, _) :: _, [], _, h, _ => h.elim
  | (_, _) :: _, _ :: _, [], _, h => h.elim
  | (k, o) :: cs, v :: vs, v' :: vs', ⟨⟨b, h1, h2⟩, h⟩, ⟨⟨b', h3, h4⟩, h'⟩ => by rw [h1] at h3; cases h3; rw [h2, h4, h.fun h']
def VRel (σ : List Nat) : AV → Value → Prop
  | .d v, x => x = v.val
  | .t vs, x => x = .tuple (vs.map Dv.val).toArray
  | .p k off, x => ∃ b, σ[k]? = some b ∧ x = .pointer (some ⟨b, off, none⟩)
  | .l k n, x => ∃ b, σ[k]? = some b ∧ x = .slice (some ⟨b, 0, none⟩) n n
  | .q k base n i, x => ∃ b, σ[k]? = some b ∧ x = .pointer (some ⟨b, base + i.toNat, none⟩) ∧ 0 ≤ i ∧ i < n
  | .c f fs cs, x => ∃ fv cv, CRel σ fs fv ∧ CRel σ cs cv ∧ x = .func (.func f) fv.toArray cv.toArray
theorem VRel.more {σ : List Nat} {av : AV} {v : Value} (b : Nat) (h : VRel σ av v) : VRel (σ ++ [b]) av v := by
  cases av with
  | d v => exact h
  | t vs => exact h
  | p k off => obtain ⟨b', h1, h2⟩ := h; exact ⟨b', by rw [List.getElem?_append_left (List.getElem?_eq_some_iff.1 h1).1]; exact h1, h2⟩
  | l k n => obtain ⟨b', h1, h2⟩ := h; exact ⟨b', by rw [List.getElem?_append_left (List.getElem?_eq_some_iff.1 h1).1]; exact h1, h2⟩
  | c f fs cs => obtain ⟨fv, cv, h1, h2, h3⟩ := h; exact ⟨fv, cv, h1.more b, h2.more b, h3⟩
  | q k base n i => obtain ⟨b', h1, h2⟩ := h; exact ⟨b', by rw [List.getElem?_append_left (List.getElem?_eq_some_iff.1 h1).1]; exact h1, h2⟩
structure Bk where
  T : TypeId
  cs : List Ch
structure Hp where
  bs : List Bk
  m : Option HS
  rw : Bool
  ro : Nat
def Hp.push (H : Hp) (bk : Bk) : Hp := ⟨H.bs ++ [bk], H.m, H.rw, H.ro⟩
def Hp.put (H : Hp) (k : Nat) (bk : Bk) : Hp := ⟨H.bs.set k bk, H.m, H.rw, H.ro⟩
structure FRel (σ : List Nat) (A : List AV) (tmps : Array Value) : Prop where
  size : A.length = tmps.size
  at_ : ∀ (i : Nat) (av : AV), A[i]? = some av → ∃ v, tmps[i]? = some v ∧ VRel σ av v
structure W0 where
  w : World
  σ : List Nat
  rw : Bool
  ts : List TypeId
structure MRel (X : Nat → Prop) (w0 : W0) (σ : List Nat) (H : Hp) (w : World) : Prop where
  fr : Fr X w0.w w
  own : ∀ (k b : Nat), σ[k]? = some b → H.ro ≤ k → X b ∨ w0.w.heap.size ≤ b
  pre : ∀ (k b : Nat), w0.σ[k]? = some b → σ[k]? = some b
  len : σ.length = H.bs.length
  blk : ∀ (k b : Nat) (bk : Bk), σ[k]? = some b → H.bs[k]? = some bk → w.heap[b]? = some (.cells (flat bk.cs).toArray bk.T (0, 0))
  inj : ∀ (i j b : Nat), σ[i]? = some b → σ[j]? = some b → i = j
  mach : ∀ S, H.m = some S → ∃ F : Nat → Prop, Mach w F S ∧ (w0.rw = true → ∀ b, F b → X b ∨ w0.w.heap.size ≤ b) ∧ ∀ (k b : Nat), σ[k]? = some b → ¬ F b
  rwk : H.rw = true → w0.rw = true
  ty : ∀ (k : Nat) (T : TypeId), w0.ts[k]? = some T → ∃ bk, H.bs[k]? = some bk ∧ bk.T = T
theorem FRel.more {σ : List Nat} {A : List AV} {tmps : Array Value} (b : Nat) (h : FRel σ A tmps) : FRel (σ ++ [b]) A tmps :=
  ⟨h.size, fun i av hi => let ⟨v, h1, h2⟩ := h.at_ i av hi; ⟨v, h1, h2.more b⟩⟩
def putA (A : List AV) (dst : Option Tmp) (av : AV) : List AV :=
  match dst with
  | some d => A.set d av
  | none => A
theorem FRel.put {σ : List Nat} {A : List AV} {a : Act} {av : AV} {v : Value} (h : FRel σ A a.tmps) (dst : Option Tmp) (hv : VRel σ av v) : FRel σ (putA A dst av) (a.put dst v).tmps := by
  cases dst with
  | none => exact h
  | some d =>
    refine ⟨by show (A.set d av).length = (a.tmps.setIfInBounds d v).size; simp [h.size], fun i x hi => ?_⟩
    have hi' : (A.set d av)[i]? = some x := hi
    show ∃ u, (a.tmps.setIfInBounds d v)[i]? = some u ∧ _
    by_cases c : i = d
    · subst c
      have hl : i < A.length := by have := (List.getElem?_eq_some_iff.1 hi').1; simpa using this
      rw [List.getElem?_set_self hl] at hi'
      cases hi'
      exact ⟨v, by rw [Array.getElem?_setIfInBounds_self, if_pos (by rw [← h.size]; exact hl)], hv⟩
    · rw [List.getElem?_set_ne (fun e => c e.symm)] at hi'
      obtain ⟨u, h1, h2⟩ := h.at_ i x hi'
      exact ⟨u, by rw [Array.getElem?_setIfInBounds_ne (fun e => c e.symm)]; exact h1, h2⟩
theorem put_defers (a : Act) (dst : Option Tmp) (v : Value) : (a.put dst v).defers = a.defers := by cases dst <;> rfl
theorem MRel.step {X : Nat → Prop} {w0 : W0} {w w' : World} {σ : List Nat} {H : Hp} (h : MRel X w0 σ H w) (u : Below w.heap.size w w') : MRel X w0 σ H w' :=
  ⟨h.fr.trans (.of_below u), h.own, h.pre, h.len, fun k b bk h1 h2 => by
    have h3 := h.blk k b bk h1 h2
    exact (u.block b (blk_lt h3)).trans h3, h.inj, fun S hS => by
    obtain ⟨F, h1, h2, h3⟩ := h.mach S hS
    exact ⟨F, h1.below u, h2, h3⟩, h.rwk, h.ty⟩
theorem alloc_below (w : World) (o : Obj) : Below w.heap.size w (w.alloc o) := (Below.refl w.heap.size w).alloc (Nat.le_refl _) o
theorem MRel.alloc {X : Nat → Prop} {w0 : W0} {w : World} {σ : List Nat} {H : Hp} (h : MRel X w0 σ H w) (bk : Bk) : MRel X w0 (σ ++ [w.heap.size]) (H.push bk) (w.alloc (.cells (flat bk.cs).toArray bk.T (0, 0))) := by
  have hs : (w.alloc (.cells (flat bk.cs).toArray bk.T (0, 0))).heap.size = w.heap.size + 1 := by simp
  have hlast : ∀ (i b : Nat), ¬ i < σ.length → (σ ++ [w.heap.size])[i]? = some b → i = σ.length ∧ b = w.heap.size := by
    intro i b hi hb
    have := (List.getElem?_eq_some_iff.1 hb).1
    simp at this
    have e : i = σ.length := by omega
    subst e
    rw [List.getElem?_append_right (Nat.le_refl _)] at hb
    simp at hb
    exact ⟨rfl, hb.symm⟩
  have old : ∀ (i b : Nat), i < σ.length → (σ ++ [w.heap.size])[i]? = some b → σ[i]? = some b ∧ b < w.heap.size := by
    intro i b hi hb
    rw [List.getElem?_append_left hi] at hb
    have hi2 : i < H.bs.length := by rw [← h.len]; exact hi
    exact ⟨hb, blk_lt (h.blk i b H.bs[i] hb (List.getElem?_eq_getElem hi2))⟩
  have hb := alloc_below w (.cells (flat bk.cs).toArray bk.T (0, 0))
  refine ⟨h.fr.trans (.of_below hb), ?_, fun k b hk => by
    have := h.pre k b hk
    rw [List.getElem?_append_left (List.getElem?_eq_some_iff.1 this).1]; exact this, by simp [h.len, Hp.push], ?_, ?_, ?_, h.rwk, fun k T hT => by
    obtain ⟨bk', h1, h2⟩ := h.ty k T hT
    exact ⟨bk', (List.getElem?_append_left (List.getElem?_eq_some_iff.1 h1).1).trans h1, h2⟩⟩
  · intro k b hk hr
    by_cases c : k < σ.length
    · exact h.own k b (old k b c hk).1 hr
    · rw [(hlast k b c hk).2]; exact .inr h.fr.size
  · intro k b bk' h1 h2
    have h2' : (H.bs ++ [bk])[k]? = some bk' := h2
    by_cases c : k < σ.length
    · rw [List.getElem?_append_left (by rw [← h.len]; exact c)] at h2'
      obtain ⟨h1, hl⟩ := old k b c h1
      rw [Below.heap_alloc w _ _ hl]
      exact h.blk k b bk' h1 h2'
    · obtain ⟨rfl, rfl⟩ := hlast k b c h1
      rw [h.len, List.getElem?_append_right (Nat.le_refl _)] at h2'
      simp at h2'
      subst h2'
      exact (MapKept.heap_alloc _ _).1
  · intro i j b h1 h2
    by_cases ci : i < σ.length
    · by_cases cj : j < σ.length
      · exact h.inj i j b (old i b ci h1).1 (old j b cj h2).1
      · have := (old i b ci h1).2; have := (hlast j b cj h2).2; omega
    · by_cases cj : j < σ.length
      · have := (old j b cj h2).2; have := (hlast i b ci h1).2; omega
      · rw [(hlast i b ci h1).1, (hlast j b cj h2).1]
  · intro S hS
    obtain ⟨F, m1, m2, m3⟩ := h.mach S hS
    refine ⟨F, m1.below hb, m2, fun k b hk hF => ?_⟩
    by_cases c : k < σ.length
    · exact m3 k b (old k b c hk).1 hF
    · have := m1.fl b hF; have := (hlast k b c hk).2; omega
theorem MRel.turn {X : Nat → Prop} {w0 : W0} {w w' : World} {σ : List Nat} {H : Hp} (h : MRel X w0 σ H w) {k b : Nat} {bk : Bk} {cs : List Ch} (hk : σ[k]? = some b) (hH : H.bs[k]? = some bk) (hr : H.ro ≤ k)
    (u : Upd w w' b) (hn : w'.heap[b]? = some (.cells (flat cs).toArray bk.T (0, 0))) : MRel X w0 σ (H.put k ⟨bk.T, cs⟩) w' := by
  have hbb := h.own k b hk hr
  refine ⟨h.fr.then_ (Y := fun i => i = b) (.of_upd u rfl) (fun i e => e ▸ hbb), h.own, h.pre, by simp [h.len, Hp.put], ?_, h.inj, ?_, h.rwk, fun j T hT => by
    obtain ⟨bk', h1, h2⟩ := h.ty j T hT
    by_cases e : j = k
    · subst e
      rw [hH] at h1; cases h1
      exact ⟨_, List.getElem?_set_self (List.getElem?_eq_some_iff.1 hH).1, h2⟩
    · exact ⟨bk', (List.getElem?_set_ne (fun x => e x.symm)).trans h1, h2⟩⟩
  · intro j c bj h1 h2
    have h2' : (H.bs.set k ⟨bk.T, cs⟩)[j]? = some bj := h2
    by_cases e : j = k
    · subst e
      rw [List.getElem?_set_self (List.getElem?_eq_some_iff.1 hH).1] at h2'
      cases h2'
      rw [hk] at h1; cases h1
      exact hn
    · rw [List.getElem?_set_ne (fun x => e x.symm)] at h2'
      have h3 := h.blk j c bj h1 h2'
      rw [u.block c (blk_lt h3) (fun x => e (h.inj j k b (x ▸ h1) hk))]; exact h3
  · intro S hS
    obtain ⟨F, m1, m2, m3⟩ := h.mach S hS
    exact ⟨F, m1.keep u.size fun c hc => u.block c (m1.fl c hc) (fun e => m3 k b hk (e ▸ hc)), m2, m3⟩
end Go.Proofs.YtfehilinnalflaaGreat
namespace Go.Proofs.YtfehilinnalflaaGreat
open Go.RowKit Go.BigFrame
set_option linter.unusedSimpArgs false
set_option linter.unusedVariables false
set_option maxRecDepth 100000
def constA : Value → Option AV
  | .int .u64 n => if (decide (0 ≤ n) && decide (n < 18446744073709551616)) = true then some (.d (.s (.u true (BitVec.ofInt 64 n)))) else none
  | .agg _ => none
  | .tuple _ => none
  | v => some (.d (.s (.x true v)))
theorem constA_ok {v : Value} {av : AV} {σ : List Nat} (h : constA v = some av) : VRel σ av v := by
  unfold constA at h
  split at h
  · rename_i n
    split at h
    · rename_i c; cases h
      simp only [Bool.and_eq_true, decide_eq_true_eq] at c
      show Value.int .u64 n = U (BitVec.ofInt 64 n)
      have : ((BitVec.ofInt 64 n).toNat : Int) = n := by rw [BitVec.toNat_ofInt]; omega
      show Value.int .u64 n = .int .u64 ((BitVec.ofInt 64 n).toNat : Int)
      rw [this]
    · cases h
  · cases h
  · cases h
  · cases h; rfl
def evO (A : List AV) : Operand → Option AV
  | .tmp t => A[t]?
  | .const v => constA v
  | .func f => some (.d (.s (.x true (.func (.func f) #[] #[]))))
  | .global _ => none
theorem evO_ok {σ : List Nat} {A : List AV} {a : Act} {x : Operand} {av : AV} (F : FRel σ A a.tmps) (h : evO A x = some av) : VRel σ av (a.eval x) := by
  cases x with
  | tmp t =>
    obtain ⟨v, h1, h2⟩ := F.at_ t av h
    show VRel σ av (a.tmps.getD t undef)
    rw [Array.getD_eq_getD_getElem?, h1]; exact h2
  | const v => exact constA_ok h
  | func f => cases h; rfl
  | global g => cases h
def evW (op : BinOp) (s : Bool) (a b : BitVec 64) : Option (Bool × Ch) :=
  match op with
  | .add => some (true, .u s (a + b))
  | .sub => some (true, .u s (a - b))
  | .and => some (true, .u s (a &&& b))
  | .or => some (true, .u s (a ||| b))
  | .xor => some (true, .u s (a ^^^ b))
  | .andNot => some (true, .u s (a &&& ~~~b))
  | .shl => some (true, .u s (a <<< b.toNat))
  | .shr => some (true, .u s (a >>> b.toNat))
  | .quo => some (b != 0#64, .u s (a / b))
  | .rem => some (b != 0#64, .u s (a % b))
  | .eql => some (true, .x s (.bool (a == b)))
  | .neq => some (true, .x s (.bool (a != b)))
  | .lss => some (true, .x s (.bool (decide (a.toNat < b.toNat))))
  | .leq => some (true, .x s (.bool (decide (a.toNat ≤ b.toNat))))
  | .gtr => some (true, .x s (.bool (decide (b.toNat < a.toNat))))
  | .geq => some (true, .x s (.bool (decide (b.toNat ≤ a.toNat))))
  | _ => none
theorem dec_lt (a b : BitVec 64) : decide ((a.toNat : Int) < (b.toNat : Int)) = decide (a.toNat < b.toNat) := by simp only [decide_eq_decide]; omega
theorem dec_le (a b : BitVec 64) : decide ((a.toNat : Int) ≤ (b.toNat : Int)) = decide (a.toNat ≤ b.toNat) := by simp only [decide_eq_decide]; omega
theorem wrapT (c : BitVec 64) : IntKind.u64.wrap (c.toNat : Int) = (c.toNat : Int) := by rw [u_wrap]; simp
theorem run_bin_u {P : Program} (op : BinOp) (t : TypeId) (X Y : Operand) (s : Bool) (a b : BitVec 64) (n : Bool) (c : Ch) (h : evW op s a b = some (n, c)) (hn : n = true) (w : World) :
    (do eqGuard op t X Y (.int .u64 (a.toNat : Int)) (.int .u64 (b.toNat : Int)); binOp op t (.int .u64 (a.toNat : Int)) (.int .u64 (b.toNat : Int)) : Sem Value).run P w = .ok c.one w := by
  have hu : ∀ (x : Int), IntKind.u64.wrap x = ((BitVec.ofInt 64 x).toNat : Int) := u_wrap
  have ha : BitVec.ofInt 64 (a.toNat : Int) = a := by simp
  have hb : BitVec.ofInt 64 (b.toNat : Int) = b := by simp
  have la := u_lt a
  have lb := u_lt b
  cases op <;> unfold evW at h <;> (try (cases h; done)) <;> cases h
  all_goals simp only [eqGuard, binOp]
  case add => simp [Op.intArith, Ch.one, u_add, Sem.run]
  case sub => simp [Op.intArith, Ch.one, u_sub, Sem.run]
  case and => simp [Op.intBits, Ch.one, Sem.run, IntKind.bits, ha, hb, wrapT, -BitVec.toNat_and, -BitVec.toNat_or, -BitVec.toNat_xor, -BitVec.toNat_not]; rfl
  case or => simp [Op.intBits, Ch.one, Sem.run, IntKind.bits, ha, hb, wrapT, -BitVec.toNat_and, -BitVec.toNat_or, -BitVec.toNat_xor, -BitVec.toNat_not]; rfl
  case xor => simp [Op.intBits, Ch.one, Sem.run, IntKind.bits, ha, hb, wrapT, -BitVec.toNat_and, -BitVec.toNat_or, -BitVec.toNat_xor, -BitVec.toNat_not]; rfl
  case andNot => simp [Op.intBits, Ch.one, Sem.run, IntKind.bits, ha, hb, wrapT, -BitVec.toNat_and, -BitVec.toNat_or, -BitVec.toNat_xor, -BitVec.toNat_not]; rfl
  case shl =>
    have hy : ¬ ((b.toNat : Int) < 0) := by omega
    simp [Op.shift, Ch.one, Sem.run, IntKind.bits, hy, u_shl_min]
  case shr =>
    have hy : ¬ ((b.toNat : Int) < 0) := by omega
    have hf : (a.toNat : Int).fdiv (2 ^ min b.toNat 64) = ((a >>> b.toNat).toNat : Int) := by
      rw [Int.fdiv_eq_ediv_of_nonneg _ (Int.le_of_lt (Int.pow_pos (by decide)))]; exact u_shr_min a b.toNat
    simp [Op.shift, Ch.one, Sem.run, IntKind.bits, hy, hf, -BitVec.toNat_ushiftRight]
  case quo =>
    have hz : ¬ (b.toNat : Int) = 0 := by
      intro e
      have : b = 0#64 := by apply BitVec.eq_of_toNat_eq; simpa using e
      rw [this] at hn; exact absurd hn (by decide)
    have hq : IntKind.u64.wrap (((a.toNat : Int)).tdiv (b.toNat : Int)) = ((a / b).toNat : Int) := by
      have e : ((a.toNat : Int)).tdiv (b.toNat : Int) = ((a / b).toNat : Int) := by
        rw [BitVec.toNat_udiv]; exact (Int.ofNat_tdiv a.toNat b.toNat).symm
      rw [e, wrapT]
    have ed : Op.intDiv .quo .u64 (a.toNat : Int) (b.toNat : Int) = pure (.int .u64 ((a / b).toNat : Int)) := by unfold Op.intDiv; rw [if_neg hz, hq]
    simp [ed, Ch.one, Sem.run, -BitVec.toNat_udiv]
  case rem =>
    have hz : ¬ (b.toNat : Int) = 0 := by
      intro e
      have : b = 0#64 := by apply BitVec.eq_of_toNat_eq; simpa using e
      rw [this] at hn; exact absurd hn (by decide)
    have e : ((a.toNat : Int)).tmod (b.toNat : Int) = ((a % b).toNat : Int) := by
      rw [BitVec.toNat_umod]; exact (Int.ofNat_tmod a.toNat b.toNat).symm
    have ed : Op.intDiv .rem .u64 (a.toNat : Int) (b.toNat : Int) = pure (.int .u64 ((a % b).toNat : Int)) := by unfold Op.intDiv; rw [if_neg hz, e]
    simp [ed, Ch.one, Sem.run, -BitVec.toNat_umod]
  case eql => simp [Op.intCmp, Ch.one, Sem.run, u_beq]
  case neq =>
    have e : ((a.toNat : Int) != (b.toNat : Int)) = (a != b) := by show (!_) = !_; rw [u_beq]
    simp [Op.intCmp, Ch.one, Sem.run, e]
  case lss => simp [Op.intCmp, Ch.one, Sem.run, dec_lt]
  case leq => simp [Op.intCmp, Ch.one, Sem.run, dec_le]
  case gtr => simp [Op.intCmp, Ch.one, Sem.run, dec_lt]
  case geq => simp [Op.intCmp, Ch.one, Sem.run, dec_le]
def evShift (op : BinOp) (s : Bool) (a : BitVec 64) (m : Int) : Option (Bool × Ch) :=
  match op with
  | .shl => some (decide (0 ≤ m), .u s (a <<< m.toNat))
  | .shr => some (decide (0 ≤ m), .u s (a >>> m.toNat))
  | _ => none
theorem run_shift_u {P : Program} (op : BinOp) (t : TypeId) (X Y : Operand) (s : Bool) (a : BitVec 64) (k : IntKind) (m : Int) (n : Bool) (c : Ch) (h : evShift op s a m = some (n, c)) (hn : n = true) (w : World) :
    (do eqGuard op t X Y (.int .u64 (a.toNat : Int)) (.int k m); binOp op t (.int .u64 (a.toNat : Int)) (.int k m) : Sem Value).run P w = .ok c.one w := by
  cases op <;> unfold evShift at h <;> (try (cases h; done)) <;> cases h
  all_goals
    have h0 : 0 ≤ m := by simpa using hn
    have hy : ¬ m < 0 := by omega
    simp only [eqGuard, binOp]
  · simp [Op.shift, Ch.one, Sem.run, IntKind.bits, hy, u_shl_min]
  · have hf : (a.toNat : Int).fdiv (2 ^ min m.toNat 64) = ((a >>> m.toNat).toNat : Int) := by
      rw [Int.fdiv_eq_ediv_of_nonneg _ (Int.le_of_lt (Int.pow_pos (by decide)))]; exact u_shr_min a m.toNat
    simp [Op.shift, Ch.one, Sem.run, IntKind.bits, hy, hf, -BitVec.toNat_ushiftRight]
def chV : Value → Bool → Option Ch
  | .int .u64 _, _ => none
  | .agg _, _ => none
  | .tuple _, _ => none
  | v, s => some (.x s v)
theorem chV_ok {v : Value} {s : Bool} {c : Ch} (h : chV v s = some c) : c.one = v ∧ okChs [c] = true ∧ c.sc = true := by
  cases v with
  | agg c => cases h
  | tuple c => cases h
  | int k n => cases k <;> first | (cases h; done) | (cases h; exact ⟨rfl, rfl, rfl⟩)
  | _ => cases h; exact ⟨rfl, rfl, rfl⟩
def Ch.st : Ch → Bool
  | .u s _ => s
  | .x s _ => s
  | .S _ => false
def evDiv (op : BinOp) (s : Bool) (k : IntKind) (a : Int) (k' : IntKind) (b : Int) : Option (Bool × Ch) :=
  match op with
  | .quo => if k = k' then some (b != 0, .x s (.int k (k.wrap (a.tdiv b)))) else none
  | .rem => if k = k' then some (b != 0, .x s (.int k (a.tmod b))) else none
  | .shl => some (decide (0 ≤ b), .x s (.int k (k.wrap (a * 2 ^ min b.toNat k.bits))))
  | .shr => some (decide (0 ≤ b), .x s (.int k (a.fdiv (2 ^ min b.toNat k.bits))))
  | _ => none
theorem run_div {P : Program} (op : BinOp) (t : TypeId) (X Y : Operand) (s : Bool) (k : IntKind) (a : Int) (k' : IntKind) (b : Int) (n : Bool) (c : Ch) (h : evDiv op s k a k' b = some (n, c)) (hn : n = true) (w : World) :
    (do eqGuard op t X Y (.int k a) (.int k' b); binOp op t (.int k a) (.int k' b) : Sem Value).run P w = .ok c.one w := by
  cases op <;> unfold evDiv at h <;> (try (cases h; done)) <;> simp only at h
  case quo =>
    split at h
    · rename_i e; subst e; cases h
      have hz : ¬ b = 0 := by simpa using hn
      simp [eqGuard, binOp, Op.intDiv, hz, Ch.one, Sem.run]
    · cases h
  case rem =>
    split at h
    · rename_i e; subst e; cases h
      have hz : ¬ b = 0 := by simpa using hn
      simp [eqGuard, binOp, Op.intDiv, hz, Ch.one, Sem.run]
    · cases h
  case shl =>
    cases h
    have hz : ¬ b < 0 := by have : 0 ≤ b := by simpa using hn
                            omega
    simp [eqGuard, binOp, Op.shift, hz, Ch.one, Sem.run]
  case shr =>
    cases h
    have hz : ¬ b < 0 := by have : 0 ≤ b := by simpa using hn
                            omega
    simp [eqGuard, binOp, Op.shift, hz, Ch.one, Sem.run]
def mayP : BinOp → Bool
  | .quo => true
  | .rem => true
  | .shl => true
  | .shr => true
  | _ => false
def evBin (P : Program) (op : BinOp) (t : TypeId) (X Y : Operand) (x y : Ch) : Option (Bool × Ch) :=
  match x, y with
  | .u s a, .u s' b => evW op (s && s') a b
  | .u s a, .x s' (.int _ m) => evShift op (s && s') a m
  | .S _, _ => none
  | _, .S _ => none
  | .x s (.int k a), .x s' (.int k' b) => match mayP op with
    | true => evDiv op (s && s') k a k' b
    | false => ((quick P (do eqGuard op t X Y (.int k a) (.int k' b); binOp op t (.int k a) (.int k' b) : Sem Value)).bind fun v => chV v (s && s')).map fun c => (true, c)
  | x, y => ((quick P (do eqGuard op t X Y x.one y.one; binOp op t x.one y.one : Sem Value)).bind fun v => chV v (x.st && y.st)).map fun c => (true, c)
theorem evBin_ok {P : Program} {op : BinOp} {t : TypeId} {X Y : Operand} {x y c : Ch} {n : Bool} (h : evBin P op t X Y x y = some (n, c)) (hn : n = true) (w : World) :
    (do eqGuard op t X Y x.one y.one; binOp op t x.one y.one : Sem Value).run P w = .ok c.one w := by
  have gen : ∀ (x y : Ch) (s : Bool), ((quick P (do eqGuard op t X Y x.one y.one; binOp op t x.one y.one : Sem Value)).bind fun v => chV v s).map (fun c => (true, c)) = some (n, c) →
      (do eqGuard op t X Y x.one y.one; binOp op t x.one y.one : Sem Value).run P w = .ok c.one w := by
    intro x y s h
    cases hq : quick P (do eqGuard op t X Y x.one y.one; binOp op t x.one y.one : Sem Value) with
    | none => rw [hq] at h; cases h
    | some v =>
      rw [hq] at h
      have h' : (chV v s).map (fun c => (true, c)) = some (n, c) := h
      cases hc : chV v s with
      | none => rw [hc] at h'; cases h'
      | some c' =>
        rw [hc] at h'
        have : c' = c := by injection h' with h'; injection h'
        subst this
        rw [(chV_ok hc).1]
        exact quick_run hq w
  unfold evBin at h
  split at h
  · exact run_bin_u op t X Y _ _ _ n c h hn w
  · exact run_shift_u op t X Y _ _ _ _ n c h hn w
  · cases h
  · cases h
  · split at h
    · exact run_div op t X Y _ _ _ _ _ n c h hn w
    · exact gen (.x _ (.int _ _)) (.x _ (.int _ _)) _ h
  · exact gen _ _ _ h
def evConv (P : Program) (src dst : TypeId) (x : Ch) : Option Ch :=
  match P.underlying dst, x with
  | some (.int .u64), .u s b => some (.u s b)
  | some (.int .u64), .x s (.int _ n) => some (.u s (BitVec.ofInt 64 n))
  | _, .S _ => none
  | _, x => (quick P (convert src dst x.one)).bind fun v => chV v x.st
theorem evConv_ok {P : Program} {src dst : TypeId} {x c : Ch} (h : evConv P src dst x = some c) (hs : (P.underlying src).isSome = true) (w : World) : (convert src dst x.one).run P w = .ok c.one w := by
  obtain ⟨ds, hds⟩ := Option.isSome_iff_exists.1 hs
  have gen : ∀ x : Ch, ((quick P (convert src dst x.one)).bind fun v => chV v x.st) = some c → (convert src dst x.one).run P w = .ok c.one w := by
    intro x h
    cases hq : quick P (convert src dst x.one) with
    | none => rw [hq] at h; cases h
    | some v =>
      rw [hq] at h
      rw [(chV_ok (show chV v x.st = some c from h)).1]
      exact quick_run hq w
  unfold evConv at h
  split at h
  · rename_i hd; cases h
    simp only [convert, Sem.run_bind, run_underlying hds, run_underlying hd, Result.andThen_ok]
    simp [Ch.one, Conv.intToInt, Sem.run, wrapT]
  · rename_i hd; cases h
    simp only [convert, Sem.run_bind, run_underlying hds, run_underlying hd, Result.andThen_ok]
    simp [Ch.one, Conv.intToInt, Sem.run, u_wrap]
  · cases h
  · exact gen _ h
end Go.Proofs.YtfehilinnalflaaGreat
namespace Go.Proofs.YtfehilinnalflaaGreat
open Go.RowKit Go.BigFrame
set_option linter.unusedSimpArgs false
set_option linter.unusedVariables false
set_option maxRecDepth 100000
def fieldOff (P : Program) (t : TypeId) (f : Nat) : Option Nat :=
  match P.underlying t with
  | some (.struct fs) => match fs[f]? with
    | some fl => match P.info? fl.type with
      | some i => if i.size = 0 then none else some fl.offset
      | none => none
    | none => none
  | _ => none
theorem run_fieldAt {P : Program} {t : TypeId} {f o : Nat} (h : fieldOff P t f = some o) (b off : Nat) (w : World) :
    (Instr.fieldAt t (.pointer (some ⟨b, off, none⟩)) f).run P w = .ok (.pointer (some ⟨b, off + o, none⟩)) w := by
  unfold fieldOff at h
  split at h
  · rename_i fs hu
    split at h
    · rename_i fl hf
      split at h
      · rename_i i hi
        split at h
        · cases h
        · rename_i hz; cases h
          have ha : (⟨b, off, none⟩ : Addr).add fl.offset = ⟨b, off + fl.offset, none⟩ := Addr.add_mid _ _ _
          simp [Instr.fieldAt, Sem.run_bind, run_underlying hu, hf, Instr.sureAddr, fieldPlace, sizeOf, typeInfo, hi, hz, ha]
      · cases h
    · cases h
  · cases h
def arrT (P : Program) (t : TypeId) : Option (Nat × Nat) :=
  match P.underlying t with
  | some (.array n e) => match P.info? e with
    | some i => some (n, i.size)
    | none => none
  | _ => none
theorem run_indexAt {P : Program} {t : TypeId} {n es : Nat} (h : arrT P t = some (n, es)) (b off : Nat) (k : IntKind) (i : Int) (h0 : 0 ≤ i) (h1 : i < n) (w : World) :
    (Instr.indexAt t (.pointer (some ⟨b, off, none⟩)) (.int k i)).run P w = .ok (.pointer (some ⟨b, off + i.toNat * es, none⟩)) w := by
  unfold arrT at h
  split at h
  · rename_i n' e hu
    split at h
    · rename_i x hi; cases h
      have ha : (⟨b, off, none⟩ : Addr).add (i.toNat * x.size) = ⟨b, off + i.toNat * x.size, none⟩ := Addr.add_mid _ _ _
      simp [Instr.indexAt, Sem.run_bind, run_underlying hu, asIntOf, Instr.sureAddr, sizeOf, typeInfo, hi, h0, h1, ha]
    · cases h
  · cases h
def isRowD : TypeDesc → Bool
  | .struct _ | .array _ _ => true
  | _ => false
def rowT (P : Program) (t : TypeId) : Option Nat :=
  match P.underlying t, P.info? t with
  | some d, some i => if isRowD d = true then some i.size else none
  | _, _ => none
def oneT (P : Program) (t : TypeId) : Bool :=
  match P.underlying t, P.info? t with
  | some d, some i => !isRowD d && i.size == 1
  | _, _ => false
theorem rowT_ok {P : Program} {t : TypeId} {n : Nat} (h : rowT P t = some n) : ∃ d, P.underlying t = some d ∧ d.isRow = true ∧ (P.info? t).map (·.size) = some n := by
  unfold rowT at h
  split at h
  · rename_i d i hu hi
    split at h
    · rename_i hd; cases h
      have hr : d.isRow = true := by cases d <;> first | rfl | cases hd
      exact ⟨d, hu, hr, by rw [hi]; rfl⟩
    · cases h
  · cases h
theorem oneT_ok {P : Program} {t : TypeId} (h : oneT P t = true) : ∃ d i, P.underlying t = some d ∧ isRowD d = false ∧ P.info? t = some i ∧ i.size = 1 := by
  unfold oneT at h
  split at h
  · rename_i d i hu hi
    simp only [Bool.and_eq_true, Bool.not_eq_true', beq_iff_eq] at h
    exact ⟨d, i, hu, h.1, hi, h.2⟩
  · cases h
theorem run_load_one {P : Program} {t : TypeId} (h : oneT P t = true) {w : World} {b o : Nat} {v : Value} (hc : w.cell? ⟨b, o, none⟩ = some v) :
    (Instr.loadAt t (.pointer (some ⟨b, o, none⟩))).run P w = .ok v w := by
  obtain ⟨d, i, hu, hd, hi, hs⟩ := oneT_ok h
  have hagg : (isAgg t).run P w = .ok false w := by
    unfold isAgg
    rw [Sem.run_bind, run_underlying hu w]
    cases d <;> simp_all [isRowD]
  simp [Instr.loadAt, Instr.sureAddr, loadVar, Sem.run_bind, hagg, hc]
theorem run_store_one {P : Program} {t : TypeId} (h : oneT P t = true) {w : World} {b o : Nat} {v u : Value} (hc : w.cell? ⟨b, o, none⟩ = some u) (hz : w.frozen? ⟨b, o, none⟩ = false) (hv : okOne v = true) :
    (Instr.storeAt t (.pointer (some ⟨b, o, none⟩)) v).run P w = .ok () (w.setCell ⟨b, o, none⟩ v) := by
  obtain ⟨d, i, hu, hd, hi, hs⟩ := oneT_ok h
  have ha : (⟨b, o, none⟩ : Addr).add 0 = ⟨b, o, none⟩ := by simp [Addr.add]
  cases v <;> first | (cases hv; done) | simp [Instr.storeAt, Instr.sureAddr, storeVar, storeCells, Sem.run_bind, sizeOf, typeInfo, hi, hs, Value.cells, ha, Go.store, Sem.run, hc, hz]
theorem setCells_heap (b : Nat) (T : TypeId) : ∀ (vs : List Value) (o : Nat) (w : World) (cs : List Value), o + vs.length ≤ cs.length → w.heap[b]? = some (.cells cs.toArray T (0, 0)) →
    (w.setCells b o vs).heap[b]? = some (.cells (cs.take o ++ vs ++ cs.drop (o + vs.length)).toArray T (0, 0)) ∧ Upd w (w.setCells b o vs) b
  | [], o, w, cs, _, hg => by
    refine ⟨?_, ⟨rfl, rfl, rfl, Nat.le_refl _, fun _ _ _ => rfl⟩⟩
    show w.heap[b]? = _
    rw [hg]; simp
  | v :: vs, o, w, cs, hl, hg => by
    have hl' : o + (vs.length + 1) ≤ cs.length := hl
    have h1 : (w.setCell ⟨b, o, none⟩ v).heap[b]? = some (.cells ((cs.set o v)).toArray T (0, 0)) := by
      have := set_block (v := v) hg (show o < cs.toArray.size by simp; omega)
      rw [this]; simp
    obtain ⟨h2, h3⟩ := setCells_heap b T vs (o + 1) (w.setCell ⟨b, o, none⟩ v) (cs.set o v) (by simp; omega) h1
    refine ⟨?_, (set_upd w b o v).trans h3⟩
    show ((w.setCell ⟨b, o, none⟩ v).setCells b (o + 1) vs).heap[b]? = _
    rw [h2]
    congr 3
    have e1 : (cs.set o v).take (o + 1) = cs.take o ++ [v] := by
      rw [List.take_succ_eq_append_getElem (by simp; omega)]; simp [List.take_set_of_le]
    have e2 : (cs.set o v).drop (o + 1 + vs.length) = cs.drop (o + (vs.length + 1)) := by
      rw [List.drop_set_of_lt (by omega)]; congr 1; omega
    rw [e1, e2]; simp
end Go.Proofs.YtfehilinnalflaaGreat
