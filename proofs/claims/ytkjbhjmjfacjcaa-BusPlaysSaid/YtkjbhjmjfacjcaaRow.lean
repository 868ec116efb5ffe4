/- Rows of bytes that the call owns, and strings made of them. -/
import Derived.Test.YtkjbhjmjfacjcaaBytes
namespace Go.Proofs.Ytkjbhjmjfacjcaa
open Go.RowKit
set_option linter.unusedSimpArgs false
set_option linter.unusedVariables false
set_option maxRecDepth 100000

theorem infoB : (Try.prog.info? 5).map (fun i => (i.zero, i.size, i.bytes)) = some (some (.int .u8 0), 1, 1) := by kernel_rfl
theorem bytesL_snoc (v : BitVec 64) (k : Nat) (hk : k < 8) : bytesL v (k + 1) = bytesL v k ++ [byteU v k] := by
  unfold bytesL
  rw [List.take_succ_eq_append_getElem (by simp; omega)]
  simp
theorem bytesL_length (v : BitVec 64) (k : Nat) (hk : k ≤ 8) : (bytesL v k).length = k := by unfold bytesL; simp; omega
theorem byte_val (v : BitVec 64) (k : Nat) : (v.toNat : Int) / 2 ^ (8 * k) % 256 = ((byteU v k).toNat : Int) := by
  have e : (2 : Int) ^ (8 * k) = ((256 ^ k : Nat) : Int) := by
    rw [Int.pow_mul]; rw [Int.natCast_pow]; rfl
  rw [byteU_val, e]
theorem own_to_str {P : Program} (w : World) (B : Nat) (e : TypeId) (v : Value) (n : Nat) (l : List UInt8) (src dst : TypeId)
    (hs : P.underlying src = some (.slice e)) (he : P.underlying e = some (.int .u8)) (hd : P.underlying dst = some .string)
    (h : w.ownsRow B e 1 v n (l.map fun b => Value.int .u8 (b.toNat : Int))) : (convert src dst v).run P w = .ok (.string ⟨l.toArray⟩) w := by
  obtain ⟨hl, h⟩ := h
  simp only [List.length_map, Nat.mul_one] at hl
  rcases h with ⟨rfl, rfl⟩ | ⟨g, cap, cur, rfl, _, hg, hn, _, hsz, ht⟩
  · have : l = [] := List.length_eq_zero_iff.1 hl
    subst this
    rw [run_convert_bytes_string _ _ _ e _ _ _ hs he hd]
    rfl
  · rw [run_convert_bytes_string _ _ _ e _ _ _ hs he hd]
    have hl2 := run_loadCells_list (P := P) w ⟨g, 0, none⟩ (l.map fun b => Value.int .u8 (b.toNat : Int)) (by
      intro j u hj
      have hadd : (⟨g, 0, none⟩ : Addr).add j = ⟨g, j, none⟩ := by unfold Addr.add; split <;> simp_all
      rw [hadd]
      rw [← ht, List.getElem?_take] at hj
      split at hj
      · simp only [World.cell?, hg]; simpa using hj
      · cases hj)
    rw [List.length_map, hl] at hl2
    have h2 := run_bytesToString (P := P) w ⟨g, 0, none⟩ n cap (l.map fun b => (b.toNat : Int)) (by rw [hl2]; simp [List.map_map, Function.comp_def])
    rw [h2, byte_fold]
    congr 2
    show _ = (⟨l.toArray⟩ : ByteArray)
    congr 1
    show #[] ++ _ = _
    simp

end Go.Proofs.Ytkjbhjmjfacjcaa
