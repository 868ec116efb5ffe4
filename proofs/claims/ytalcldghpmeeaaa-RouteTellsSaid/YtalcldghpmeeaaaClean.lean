/- The document's Clean; no condition but the state's form. -/
import Derived.Test.YtalcldghpmeeaaaMask
namespace Go.Proofs.Ytalcldghpmeeaaa
open Go.RowKit Go.BigFrame
set_option linter.unusedSimpArgs false
set_option linter.unusedVariables false
set_option maxRecDepth 100000

def updC (f : Nat → BitVec 64) (i : Nat) (v : BitVec 64) : Nat → BitVec 64 := fun j => if j = i then v else f j
theorem stA_ext {S : St} {A : Array Value} (hz : A.size = 65) (hx : ∀ i, i < 32 → A[i]? = some (U (S.x i))) (hp : A[32]? = some (U S.pc)) (hl : A[33]? = some (.int .i64 S.lev)) (hv : A[34]? = some (.bool S.v))
    (hc : ∀ i, i < 29 → A[35 + i]? = some (U (S.c i))) (hd : A[64]? = some (U S.done)) : A = stA S := by
  apply Array.ext_getElem?
  intro i
  by_cases h1 : i < 32
  · rw [hx i h1, stA_x S i h1]
  by_cases h2 : i = 32
  · subst h2; rw [hp, stA_pc]
  by_cases h3 : i = 33
  · subst h3; rw [hl, stA_lev]
  by_cases h4 : i = 34
  · subst h4; rw [hv, stA_v]
  by_cases h5 : i < 64
  · obtain ⟨j, rfl⟩ : ∃ j, i = 35 + j := ⟨i - 35, by omega⟩
    rw [hc j (by omega), stA_c S j (by omega)]
  by_cases h6 : i = 64
  · subst h6; rw [hd, stA_done]
  · rw [Array.getElem?_eq_none (by omega), Array.getElem?_eq_none (by rw [stA_size]; omega)]
theorem set_get (A : Array Value) (k j : Nat) (v : Value) (h : k < A.size) : (A.setIfInBounds k v)[j]? = if j = k then some v else A[j]? := by
  by_cases c : j = k
  · subst c; rw [if_pos rfl]; simp [h]
  · rw [if_neg c, Array.getElem?_setIfInBounds_ne (fun e => c e.symm)]
theorem stA_setC (S : St) (i : Nat) (v : BitVec 64) (h : i < 29) : (stA S).setIfInBounds (35 + i) (U v) = stA { S with c := updC S.c i v } := by
  have z := stA_size S
  refine stA_ext (by simp [z]) (fun j hj => ?_) ?_ ?_ ?_ (fun j hj => ?_) ?_ <;> rw [set_get _ _ _ _ (by omega)]
  · rw [if_neg (by omega), stA_x S j hj]
  · rw [if_neg (by omega), stA_pc]
  · rw [if_neg (by omega), stA_lev]
  · rw [if_neg (by omega), stA_v]
  · show _ = some (U (updC S.c i v j))
    unfold updC
    by_cases c : j = i
    · subst c; rw [if_pos rfl, if_pos rfl]
    · rw [if_neg (by omega), if_neg c, stA_c S j hj]
  · rw [if_neg (by omega), stA_done]
theorem stA_setX (S : St) (i : Nat) (v : BitVec 64) (h : i < 32) : (stA S).setIfInBounds i (U v) = stA { S with x := updC S.x i v } := by
  have z := stA_size S
  refine stA_ext (by simp [z]) (fun j hj => ?_) ?_ ?_ ?_ (fun j hj => ?_) ?_ <;> rw [set_get _ _ _ _ (by omega)]
  · show _ = some (U (updC S.x i v j))
    unfold updC
    by_cases c : j = i
    · subst c; rw [if_pos rfl, if_pos rfl]
    · rw [if_neg (by omega), if_neg c, stA_x S j hj]
  · rw [if_neg (by omega), stA_pc]
  · rw [if_neg (by omega), stA_lev]
  · rw [if_neg (by omega), stA_v]
  · rw [if_neg (by omega), stA_c S j hj]
  · rw [if_neg (by omega), stA_done]
theorem stA_setP (S : St) (v : BitVec 64) : (stA S).setIfInBounds 32 (U v) = stA { S with pc := v } := by
  have z := stA_size S
  refine stA_ext (by simp [z]) (fun j hj => ?_) ?_ ?_ ?_ (fun j hj => ?_) ?_ <;> rw [set_get _ _ _ _ (by omega)]
  · rw [if_neg (by omega), stA_x S j hj]
  · rw [if_pos rfl]
  · rw [if_neg (by omega), stA_lev]
  · rw [if_neg (by omega), stA_v]
  · rw [if_neg (by omega), stA_c S j hj]
  · rw [if_neg (by omega), stA_done]
theorem stA_setL (S : St) (v : Int) : (stA S).setIfInBounds 33 (.int .i64 v) = stA { S with lev := v } := by
  have z := stA_size S
  refine stA_ext (by simp [z]) (fun j hj => ?_) ?_ ?_ ?_ (fun j hj => ?_) ?_ <;> rw [set_get _ _ _ _ (by omega)]
  · rw [if_neg (by omega), stA_x S j hj]
  · rw [if_neg (by omega), stA_pc]
  · rw [if_pos rfl]
  · rw [if_neg (by omega), stA_v]
  · rw [if_neg (by omega), stA_c S j hj]
  · rw [if_neg (by omega), stA_done]
theorem stA_setV (S : St) (v : Bool) : (stA S).setIfInBounds 34 (.bool v) = stA { S with v := v } := by
  have z := stA_size S
  refine stA_ext (by simp [z]) (fun j hj => ?_) ?_ ?_ ?_ (fun j hj => ?_) ?_ <;> rw [set_get _ _ _ _ (by omega)]
  · rw [if_neg (by omega), stA_x S j hj]
  · rw [if_neg (by omega), stA_pc]
  · rw [if_neg (by omega), stA_lev]
  · rw [if_pos rfl]
  · rw [if_neg (by omega), stA_c S j hj]
  · rw [if_neg (by omega), stA_done]
theorem HasSt.set {w : World} {b : Nat} {S S' : St} (h : HasSt w b S) (k : Nat) (v : Value) (hs : (stA S).setIfInBounds k v = stA S') : HasSt (w.setCell ⟨b, k, none⟩ v) b S' := by
  unfold HasSt at *
  rw [heap_setCell_same w b k _ _ v h, hs]
theorem HasSt.setC {w : World} {b : Nat} {S : St} (h : HasSt w b S) (i : Nat) (v : BitVec 64) (hi : i < 29) : HasSt (w.setCell ⟨b, 35 + i, none⟩ (U v)) b { S with c := updC S.c i v } := h.set _ _ (stA_setC S i v hi)
/-- What Clean makes of a state. -/
def cleanL (l : Int) : Int := if l = 0 ∨ l = 1 ∨ l = 3 then l else 3
def cleanS (S : St) : St :=
  { x := updC S.x 0 0#64, pc := S.pc &&& ~~~3#64, lev := cleanL S.lev, v := if cleanL S.lev = 3 then false else S.v,
    c := fun i => if i = 0 then mppB (S.c 0 &&& maskV 0) else S.c i &&& maskV i, done := S.done }
end Go.Proofs.Ytalcldghpmeeaaa
