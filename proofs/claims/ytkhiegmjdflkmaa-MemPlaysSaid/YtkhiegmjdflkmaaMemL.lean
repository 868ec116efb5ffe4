/- The document's Lay; no condition but the memory's, and that the row is short. -/
import Derived.Test.YtkhiegmjdflkmaaMemE
namespace Go.Proofs.Ytkhiegmjdflkmaa
open Go.RowKit Go.BigFrame
set_option linter.unusedSimpArgs false
set_option linter.unusedVariables false
set_option maxRecDepth 100000

theorem idx_str (s : ByteArray) (m : Nat) (x : UInt8) (h : s.data.toList[m]? = some x) (W : World) : (Instr.index 9 (.string s) (.int .i64 (m : Int))).run Try.prog W = .ok (.int .u8 (x.toNat : Int)) W := by
  obtain ⟨hm, hx⟩ := List.getElem?_eq_some_iff.1 h
  have hm2 : m < s.size := hm
  rw [run_index_string (P := Try.prog) W 9 s .i64 (m : Int) Try.underlying9, dif_pos ⟨by omega, by omega⟩]
  congr 2
  rw [← hx]
  rfl
/-- Two worlds that differ by draws alone. -/
structure AsD (a b : World) : Prop where
  heap : a.heap = b.heap
  os : a.os = b.os
  tape : a.tape = b.tape
  output : a.output = b.output
theorem AsD.cell {a b : World} (h : AsD a b) {p : Addr} : a.cell? p = b.cell? p := World.cell?_of_block (by rw [h.heap])
theorem AsD.free {a b : World} (h : AsD a b) {p : Addr} : a.frozen? p = b.frozen? p := World.frozen?_of_block (by rw [h.heap])
theorem AsD.set {a b : World} (h : AsD a b) (p : Addr) (v : Value) : AsD (a.drew.setCell p v) (b.setCell p v) :=
  ⟨by have e : a.drew.heap = b.heap := h.heap; simp only [World.setCell, e], h.os, h.tape, h.output⟩
theorem AsD.upd {a b w : World} {g : Nat} (h : AsD a b) (u : Upd w (b.drewN 0) g) : Upd w a g :=
  ⟨h.os.trans u.os, h.tape.trans u.tape, h.output.trans u.output, by rw [h.heap]; exact u.size, fun k h1 h2 => by rw [h.heap]; exact u.block k h1 h2⟩
theorem AsD.mem {a b : World} {p g : Nat} {T : TypeId} {f : Nat → UInt8} (h : AsD a b) (m : IsMem (b.drewN 0) p g T f) : IsMem a p g T f := by
  obtain ⟨r, h1, h2⟩ := m
  exact ⟨r, by rw [h.heap]; exact h1, by rw [h.heap]; exact h2⟩
theorem rlay_no {p g : Nat} {f : Nat → UInt8} (a : BitVec 64) (s : ByteArray) (w : World) (hM : IsMem w p g 47 f) (hs : s.size ≤ 300) (hc : layFits a s = false) :
    Calls Try.prog 14 #[.pointer (some ⟨p, 0, none⟩), U a, .string s] w fun e w' => e = .returned (.bool false) ∧ w = w' := by
  obtain ⟨rest, hp, hg⟩ := hM
  have hh : w.cell? ⟨p, 0, none⟩ = some (.slice (some ⟨g, 0, none⟩) 32768 (32768 + rest.length)) := by simp [World.cell?, hp]
  have hc2 : ¬ (a.toNat ≤ 32768 ∧ a.toNat + s.size ≤ 32768) := of_decide_eq_false hc
  have ws : IntKind.u64.wrap (s.size : Int) = (s.size : Int) := IntWalk.u64_in _ ⟨by omega, by omega⟩
  by_cases h1 : 32768 < a.toNat
  · have d1 : decide (32768 < (a.toNat : Int)) = true := decide_eq_true (by omega)
    clear hc hc2 h1 hp hg
    go_enter Try.func14, Try.ntmps14
    go_wp2
    go_ret
    exact ⟨rfl, rfl⟩
  · have d1 : decide (32768 < (a.toNat : Int)) = false := decide_eq_false (by omega)
    have w1 : IntKind.u64.wrap (32768 - (a.toNat : Int)) = 32768 - (a.toNat : Int) := IntWalk.u64_in _ ⟨by omega, by omega⟩
    have d2 : decide (32768 - (a.toNat : Int) < (s.size : Int)) = true := decide_eq_true (by omega)
    clear hc hc2 h1 hp hg
    go_enter Try.func14, Try.ntmps14
    go_wp2
    go_ret
    exact ⟨rfl, rfl⟩
set_option maxHeartbeats 1000000 in
set_option maxRecDepth 100000 in
theorem rlay_yes {p g : Nat} {f : Nat → UInt8} (a : BitVec 64) (s : ByteArray) (w : World) (hM : IsMem w p g 47 f) (hs : s.size ≤ 300) (hc : layFits a s = true) :
    Calls Try.prog 14 #[.pointer (some ⟨p, 0, none⟩), U a, .string s] w fun e w' => e = .returned (.bool true) ∧ Upd w w' g ∧ IsMem w' p g 47 (putF f a.toNat s.data.toList) := by
  have hc2 : a.toNat ≤ 32768 ∧ a.toNat + s.size ≤ 32768 := of_decide_eq_true hc
  obtain ⟨ha, hr⟩ := hc2
  have hne := hM.ne
  obtain ⟨rest, hp, hg⟩ := hM
  obtain ⟨n, hn⟩ : ∃ n, n = s.size := ⟨_, rfl⟩
  obtain ⟨l, hl⟩ : ∃ l, l = s.data.toList := ⟨_, rfl⟩
  have hll : l.length = n := by rw [hl, hn]; rfl
  have hix : ∀ k (h : k < l.length) (W : World), (Instr.index 9 (.string s) (.int .i64 (k : Int))).run Try.prog W = .ok (.int .u8 ((l[k]).toNat : Int)) W := fun k h W =>
    idx_str s k _ (by rw [← hl]; exact List.getElem?_eq_getElem h) W
  have FIN := Lib.hid (rowW_fin (f := f) (w := w) a.toNat l hne hp hg)
  have STEP := Lib.hid (fun k hk => rowW_step (f := f) a.toNat l hg k hk (by omega))
  have CELL := Lib.hid (fun k i hi => rowW_cell (f := f) a.toNat l hg k i hi)
  have HEAD := Lib.hid (fun k => rowW_head (f := f) (rest := rest) a.toNat l hp hne k)
  have ZERO := Lib.hid (rowW_zero a.toNat l hg)
  have HL := Lib.hid hll
  have IX := Lib.hid hix
  have hh0 : w.cell? ⟨p, 0, none⟩ = some (.slice (some ⟨g, 0, none⟩) 32768 (32768 + rest.length)) := by simp [World.cell?, hp]
  have ws : IntKind.u64.wrap (n : Int) = (n : Int) := IntWalk.u64_in _ ⟨by omega, by omega⟩
  have d1 : decide (32768 < (a.toNat : Int)) = false := decide_eq_false (by omega)
  have w1 : IntKind.u64.wrap (32768 - (a.toNat : Int)) = 32768 - (a.toNat : Int) := IntWalk.u64_in _ ⟨by omega, by omega⟩
  have d2 : decide (32768 - (a.toNat : Int) < (n : Int)) = false := decide_eq_false (by omega)
  have wa : IntKind.i64.wrap (a.toNat : Int) = (a.toNat : Int) := IntWalk.i64_in _ ⟨by omega, by omega⟩
  have hn3 : (n : Int) ≤ 300 := by omega
  have hsz : s.size = n := hn.symm
  rw [← hl]
  clear hl hll hix hp hg hc hn hs
  go_enter Try.func14, Try.ntmps14
  go_wp2
  go_loopw [7] (fun i wr => ∃ k : Nat, k ≤ n ∧ i = .int .i64 k ∧ AsD wr (rowW w g f rest a.toNat l k)) (fun i _ => n - (intOf i).toNat)
  case atStart => exact ⟨0, by omega, rfl, by rw [← ZERO.out]; exact ⟨rfl, rfl, rfl, rfl⟩⟩
  case round =>
    obtain ⟨k, hk, rfl, hwr⟩ := hrel
    clear hh0
    by_cases hkn : k < n
    · have hh : wr.cell? ⟨p, 0, none⟩ = some (.slice (some ⟨g, 0, none⟩) 32768 (32768 + rest.length)) := by rw [hwr.cell]; simp [World.cell?, HEAD.out k]
      obtain ⟨old, hc1, hc2⟩ := CELL.out k (a.toNat + k) (by omega)
      rw [← hwr.cell] at hc1
      rw [← hwr.free] at hc2
      have HWR := Lib.hid hwr
      have ix := IX.out k (by rw [HL.out]; exact hkn)
      have st := Lib.hid (STEP.out k (by rw [HL.out]; exact hkn))
      clear hwr
      generalize (l[k]'(by rw [HL.out]; exact hkn)) = bt at ix st
      go_wp2
      go_region
      all_goals (try go_wp2)
      all_goals (
        go_roundw
        case rel =>
          refine ⟨k + 1, by omega, by go_num, ?_⟩
          rw [← st.out]
          exact HWR.out.set _ _
        case measure => simp [intOf]; omega)
    · obtain rfl : k = n := by omega
      have HWR := Lib.hid hwr
      clear hwr
      go_wp2
      go_ret
      refine ⟨rfl, ?_⟩
      have h := FIN.out 0
      rw [HL.out] at h
      exact ⟨HWR.out.upd h.1, HWR.out.mem h.2⟩
theorem rlay_all {p g : Nat} {f : Nat → UInt8} (a : BitVec 64) (s : ByteArray) (w : World) (hM : IsMem w p g 47 f) (hs : s.size ≤ 300) :
    Calls Try.prog 14 #[.pointer (some ⟨p, 0, none⟩), U a, .string s] w fun e w' => e = .returned (.bool (layFits a s)) ∧ Upd w w' g ∧ IsMem w' p g 47 (layF f a s) := by
  unfold layF
  by_cases hc : layFits a s = true
  · rw [if_pos hc, hc]; exact rlay_yes a s w hM hs hc
  · rw [if_neg hc]
    have hc : layFits a s = false := by simpa using hc
    rw [hc]
    exact (rlay_no a s w hM hs hc).mono fun e w' ⟨h1, h2⟩ => ⟨h1, by rw [← h2]; exact ⟨Upd.of_below (Below.refl _ _) _, hM⟩⟩
end Go.Proofs.Ytkhiegmjdflkmaa
