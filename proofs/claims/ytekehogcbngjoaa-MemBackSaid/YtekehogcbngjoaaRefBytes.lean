/- The contract of the reference's Bytes. -/
import Derived.Test.YtekehogcbngjoaaRefGet
namespace Go.Proofs.Ytekehogcbngjoaa
open Go.RowKit
set_option linter.unusedSimpArgs false
set_option linter.unusedVariables false

theorem infoB : (Try.prog.info? 5).map (fun i => (i.zero, i.size, i.bytes)) = some (some (.int .u8 0), 1, 1) := by kernel_rfl
theorem bytesL_snoc (v : BitVec 64) (k : Nat) (hk : k < 8) : bytesL v (k + 1) = bytesL v k ++ [byteU v k] := by
  unfold bytesL
  rw [List.take_succ_eq_append_getElem (by simp; omega)]
  simp
theorem bytesL_length (v : BitVec 64) (k : Nat) (hk : k ≤ 8) : (bytesL v k).length = k := by unfold bytesL; simp; omega
theorem byte_val (v : BitVec 64) (k : Nat) : (v.toNat : Int) / 2 ^ (8 * k) % 256 = ((byteU v k).toNat : Int) := by
  have e : (2 : Int) ^ (8 * k) = ((256 ^ k : Nat) : Int) := by
    rw [Int.pow_mul]; rw [Int.natCast_pow]; rfl
  rw [byteU_val, e]
theorem own_to_str {P : Program} (w : World) (B : Nat) (e : TypeId) (v : Value) (n : Nat) (l : List UInt8) (src dst : TypeId)
    (hs : P.underlying src = some (.slice e)) (he : P.underlying e = some (.int .u8)) (hd : P.underlying dst = some .string)
    (h : w.ownsRow B e 1 v n (l.map fun b => Value.int .u8 (b.toNat : Int))) : (convert src dst v).run P w = .ok (.string ⟨l.toArray⟩) w := by
  obtain ⟨hl, h⟩ := h
  simp only [List.length_map, Nat.mul_one] at hl
  rcases h with ⟨rfl, rfl⟩ | ⟨g, cap, cur, rfl, _, hg, hn, _, hsz, ht⟩
  · have : l = [] := List.length_eq_zero_iff.1 hl
    subst this
    rw [run_convert_bytes_string _ _ _ e _ _ _ hs he hd]
    rfl
  · rw [run_convert_bytes_string _ _ _ e _ _ _ hs he hd]
    have hl2 := run_loadCells_list (P := P) w ⟨g, 0, none⟩ (l.map fun b => Value.int .u8 (b.toNat : Int)) (by
      intro j u hj
      have hadd : (⟨g, 0, none⟩ : Addr).add j = ⟨g, j, none⟩ := by unfold Addr.add; split <;> simp_all
      rw [hadd]
      rw [← ht, List.getElem?_take] at hj
      split at hj
      · simp only [World.cell?, hg]; simpa using hj
      · cases hj)
    rw [List.length_map, hl] at hl2
    have h2 := run_bytesToString (P := P) w ⟨g, 0, none⟩ n cap (l.map fun b => (b.toNat : Int)) (by rw [hl2]; simp [List.map_map, Function.comp_def])
    rw [h2, byte_fold]
    congr 2
    show _ = (⟨l.toArray⟩ : ByteArray)
    congr 1
    show #[] ++ _ = _
    simp

set_option maxRecDepth 100000 in
theorem rbytes_mid (v : BitVec 64) (n : Nat) (w : World) (hn1 : 1 ≤ n) (hn8 : n ≤ 8) :
    Calls Try.prog 25 #[U v, .int .i64 n] w fun e w' => e = .returned (.string (bytesB v n)) ∧ Below w.heap.size w w' := by
  obtain ⟨i0, hi, hz0, hz1, hz2⟩ := info_parts infoB
  go_enter Try.func25, Try.ntmps25
  go_wp2
  go_loopw [5, 6] (fun b i wr => ∃ k : Nat, k ≤ n ∧ i = .int .i64 k ∧ wr.ownsRow w.heap.size 5 1 b k ((bytesL v k).map fun b => Value.int .u8 (b.toNat : Int)) ∧ Below w.heap.size w wr) (fun _ i _ => n - (intOf i).toNat)
  case atStart => exact ⟨0, by omega, rfl, ⟨rfl, Or.inl ⟨rfl, rfl⟩⟩, Below.refl _ _⟩
  case round =>
    obtain ⟨k, hk, rfl, hown, hb⟩ := hrel
    by_cases hkn : k < n
    · go_wp2_with (at_builtin; refine wpList_append_own _ rfl _ _ 64 rfl w.heap.size 5 i0 (.int .u8 0) 1 1 Try.underlying64 hi hz0 hz1 hz2 rfl (by decide) _ _ _ rfl (hown.alloc _) ⟨wr.heap.size, 0, none⟩ 1 1 [.int .u8 ((v.toNat : Int) / 2 ^ (8 * k) % 256)] rfl rfl ?c1 ?c2 ?c3 ?c4 ?c5 ?_)
      case c1 =>
        intro j u hj
        match j, hj with
        | 0, hj => simp at hj; subst hj; simp [Addr.add]
      case c2 => intro u hu; simp at hu; subst hu; rfl
      case c3 => unfold maxLen; omega
      case c4 => omega
      case c5 => have := hb.size; simp; omega
      intro v' w1 hown' hgrow _
      have hs := hb.size
      have hown2 : w1.ownsRow w.heap.size 5 1 v' (k + 1) ((bytesL v (k + 1)).map fun b => Value.int .u8 (b.toNat : Int)) := by
        rw [bytesL_snoc v k (by omega), List.map_append, List.map_cons, List.map_nil, ← byte_val]; exact hown'
      have hb2 : Below w.heap.size w w1 := (hb.alloc (by omega) _).grown hgrow (by simp; omega) (by
        intro g hg
        rcases hown.2 with ⟨e1, _⟩ | ⟨g1, _, _, e1, hle, _⟩
        · rw [e1] at hg; cases hg
        · rw [e1] at hg; cases hg; exact hle)
      clear hown' hgrow hown hb hs
      go_wp2
      go_roundw
      case rel => exact ⟨k + 1, by omega, by go_num, hown2, hb2⟩
      case measure => simp [intOf]; omega
    · obtain rfl : k = n := by omega
      have hcv := own_to_str (P := Try.prog) wr w.heap.size 5 _ _ (bytesL v _) 64 9 Try.underlying64 Try.underlying5 Try.underlying9 hown
      clear hown
      go_wp2
      go_ret
      exact ⟨rfl, hb⟩
set_option maxRecDepth 100000 in
theorem rbytes_high (v : BitVec 64) (n : Int) (w : World) (hn8 : 8 < n) :
    Calls Try.prog 25 #[U v, .int .i64 n] w fun e w' => e = .returned (.string (bytesB v 8)) ∧ Below w.heap.size w w' := by
  obtain ⟨i0, hi, hz0, hz1, hz2⟩ := info_parts infoB
  go_enter Try.func25, Try.ntmps25
  go_wp2
  go_loopw [5, 6] (fun b i wr => ∃ k : Nat, k ≤ 8 ∧ i = .int .i64 k ∧ wr.ownsRow w.heap.size 5 1 b k ((bytesL v k).map fun b => Value.int .u8 (b.toNat : Int)) ∧ Below w.heap.size w wr) (fun _ i _ => 8 - (intOf i).toNat)
  case atStart => exact ⟨0, by omega, rfl, ⟨rfl, Or.inl ⟨rfl, rfl⟩⟩, Below.refl _ _⟩
  case round =>
    obtain ⟨k, hk, rfl, hown, hb⟩ := hrel
    by_cases hkn : k < 8
    · go_wp2_with (at_builtin; refine wpList_append_own _ rfl _ _ 64 rfl w.heap.size 5 i0 (.int .u8 0) 1 1 Try.underlying64 hi hz0 hz1 hz2 rfl (by decide) _ _ _ rfl (hown.alloc _) ⟨wr.heap.size, 0, none⟩ 1 1 [.int .u8 ((v.toNat : Int) / 2 ^ (8 * k) % 256)] rfl rfl ?c1 ?c2 ?c3 ?c4 ?c5 ?_)
      case c1 =>
        intro j u hj
        match j, hj with
        | 0, hj => simp at hj; subst hj; simp [Addr.add]
      case c2 => intro u hu; simp at hu; subst hu; rfl
      case c3 => unfold maxLen; omega
      case c4 => omega
      case c5 => have := hb.size; simp; omega
      intro v' w1 hown' hgrow _
      have hs := hb.size
      have hown2 : w1.ownsRow w.heap.size 5 1 v' (k + 1) ((bytesL v (k + 1)).map fun b => Value.int .u8 (b.toNat : Int)) := by
        rw [bytesL_snoc v k (by omega), List.map_append, List.map_cons, List.map_nil, ← byte_val]; exact hown'
      have hb2 : Below w.heap.size w w1 := (hb.alloc (by omega) _).grown hgrow (by simp; omega) (by
        intro g hg
        rcases hown.2 with ⟨e1, _⟩ | ⟨g1, _, _, e1, hle, _⟩
        · rw [e1] at hg; cases hg
        · rw [e1] at hg; cases hg; exact hle)
      clear hown' hgrow hown hb hs
      go_wp2
      go_roundw
      case rel => exact ⟨k + 1, by omega, by go_num, hown2, hb2⟩
      case measure => simp [intOf]; omega
    · obtain rfl : k = 8 := by omega
      have hcv := own_to_str (P := Try.prog) wr w.heap.size 5 _ _ (bytesL v _) 64 9 Try.underlying64 Try.underlying5 Try.underlying9 hown
      clear hown
      go_wp2
      go_ret
      exact ⟨rfl, hb⟩
theorem rbytes_low (v : BitVec 64) (n : Int) (w : World) (hn : n ≤ 0) :
    Calls Try.prog 25 #[U v, .int .i64 n] w fun e w' => e = .returned (.string (bytesB v 0)) ∧ Below w.heap.size w w' := by
  have hcv : ∀ wr, (convert 64 9 (.slice none 0 0)).run Try.prog wr = .ok (.string ⟨#[]⟩) wr := fun wr =>
    own_to_str (P := Try.prog) wr 0 5 _ 0 [] 64 9 Try.underlying64 Try.underlying5 Try.underlying9 ⟨rfl, Or.inl ⟨rfl, rfl⟩⟩
  by_cases h0 : n < 0
  · go_enter Try.func25, Try.ntmps25
    go_wp2
    go_rounds 1
    go_ret
    exact ⟨rfl, Below.refl _ _⟩
  · obtain rfl : n = 0 := by omega
    go_enter Try.func25, Try.ntmps25
    go_wp2
    go_rounds 1
    go_ret
    exact ⟨rfl, Below.refl _ _⟩
theorem rbytes_any (v : BitVec 64) (n : Int) (w : World) :
    Calls Try.prog 25 #[U v, .int .i64 n] w fun e w' => e = .returned (.string (bytesB v (held 0 8 n))) ∧ Below w.heap.size w w' := by
  by_cases h1 : n ≤ 0
  · rw [show held 0 8 n = 0 by unfold held; split <;> (try split) <;> omega]; exact rbytes_low v n w h1
  · by_cases h2 : n ≤ 8
    · rw [show held 0 8 n = n.toNat by unfold held; rw [if_neg (by omega), if_neg (by omega)]]
      obtain ⟨m, rfl⟩ : ∃ m : Nat, n = (m : Int) := ⟨n.toNat, by omega⟩
      exact rbytes_mid v m w (by omega) (by omega)
    · rw [show held 0 8 n = 8 by unfold held; rw [if_neg (by omega), if_pos (by omega)]; rfl]; exact rbytes_high v n w (by omega)
end Go.Proofs.Ytekehogcbngjoaa
