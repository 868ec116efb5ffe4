/- The contract of word.Bytes. -/
import Derived.Test.YtkjbhjmjfacjcaaGet
namespace Go.Proofs.Ytkjbhjmjfacjcaa
open Go.RowKit
set_option linter.unusedSimpArgs false
set_option linter.unusedVariables false
set_option maxRecDepth 100000

def byteU (v : BitVec 64) (k : Nat) : UInt8 := UInt8.ofNat (v.toNat / 256 ^ k)
def bytesL (v : BitVec 64) (n : Nat) : List UInt8 := ((List.range 8).map (byteU v)).take n
def bytesB (v : BitVec 64) (n : Nat) : ByteArray := ⟨(bytesL v n).toArray⟩
theorem byteU_val (v : BitVec 64) (k : Nat) : ((byteU v k).toNat : Int) = (v.toNat : Int) / (256 ^ k : Nat) % 256 := by
  unfold byteU; rw [UInt8.toNat_ofNat']; omega
theorem bytes_cells (v : BitVec 64) : (#[Value.int IntKind.u8 (↑v.toNat % 256), Value.int IntKind.u8 (↑v.toNat / 256 % 256),
                Value.int IntKind.u8 (↑v.toNat / 65536 % 256), Value.int IntKind.u8 (↑v.toNat / 16777216 % 256),
                Value.int IntKind.u8 (↑v.toNat / 4294967296 % 256),
                Value.int IntKind.u8 (↑v.toNat / 1099511627776 % 256),
                Value.int IntKind.u8 (↑v.toNat / 281474976710656 % 256),
                Value.int IntKind.u8 (↑v.toNat / 72057594037927936)] : Array Value) = bytesV (bytesL v 8) := by
  have e : bytesL v 8 = [byteU v 0, byteU v 1, byteU v 2, byteU v 3, byteU v 4, byteU v 5, byteU v 6, byteU v 7] := rfl
  rw [e]
  have hv := v.isLt
  have h7 : (v.toNat : Int) / 72057594037927936 = (v.toNat : Int) / 72057594037927936 % 256 := by omega
  simp only [bytesV, List.map_cons, List.map_nil, byteU_val]
  rw [h7]
  simp
theorem conv8 (w : World) (v : BitVec 64) (n : Nat) (hn : n ≤ 8) : (convert 40 9 (.slice (some ⟨w.heap.size, 0, none⟩) n 8)).run Try.prog (w.alloc (.cells #[Value.int IntKind.u8 (↑v.toNat % 256), Value.int IntKind.u8 (↑v.toNat / 256 % 256),
                Value.int IntKind.u8 (↑v.toNat / 65536 % 256), Value.int IntKind.u8 (↑v.toNat / 16777216 % 256),
                Value.int IntKind.u8 (↑v.toNat / 4294967296 % 256),
                Value.int IntKind.u8 (↑v.toNat / 1099511627776 % 256),
                Value.int IntKind.u8 (↑v.toNat / 281474976710656 % 256),
                Value.int IntKind.u8 (↑v.toNat / 72057594037927936)] 111)) = .ok (.string (bytesB v n)) (w.alloc (.cells #[Value.int IntKind.u8 (↑v.toNat % 256), Value.int IntKind.u8 (↑v.toNat / 256 % 256),
                Value.int IntKind.u8 (↑v.toNat / 65536 % 256), Value.int IntKind.u8 (↑v.toNat / 16777216 % 256),
                Value.int IntKind.u8 (↑v.toNat / 4294967296 % 256),
                Value.int IntKind.u8 (↑v.toNat / 1099511627776 % 256),
                Value.int IntKind.u8 (↑v.toNat / 281474976710656 % 256),
                Value.int IntKind.u8 (↑v.toNat / 72057594037927936)] 111)) := by
  rw [bytes_cells, run_convert_bytes_string _ _ _ 5 _ _ _ Try.underlying40 Try.underlying5 Try.underlying9]
  rw [row_to_str _ w.heap.size 0 n 8 (bytesL v 8) 111 (0, 0) (MapKept.heap_alloc w _).1 (by simp [bytesL]; omega)]
  rfl
theorem sl8h (b hi : Nat) (h2 : hi ≤ 8) (W : World) :
    (Instr.sliceAt 111 (.pointer (some ⟨b, 0, none⟩)) none (some (.int .i64 (hi : Int))) none).run Try.prog W = .ok (.slice (some ⟨b, 0, none⟩) hi 8) W := by
  have hl : Try.prog.arrayLen 111 = 8 := by kernel_rfl
  have hz : ∀ W, (sizeOf (Try.prog.elem 111)).run Try.prog W = .ok 1 W := fun _ => by kernel_rfl
  rw [run_sliceAt_array_h W 111 ⟨b, 0, none⟩ (by kernel_rfl) .i64 hi (by omega) (by rw [hl]; omega), hz, hl]
  simp [Result.andThen, slicedAt, Addr.add]

theorem bytes_mid (v : BitVec 64) (n : Nat) (w : World) (hn : n ≤ 8) :
    Calls Try.prog 55 #[U v, .int .i64 n] w fun e w' => e = .returned (.string (bytesB v n)) ∧ Below w.heap.size w w' := by
  have hv := u_lt v
  have hcv := conv8 w v n hn
  have hsl := sl8h w.heap.size n hn
  go_enter Try.func55, Try.ntmps55
  go_wp2
  go_rounds 9
  go_ret
  exact ⟨rfl, (Below.refl _ _).alloc (Nat.le_refl _) _⟩
theorem bytes_low (v : BitVec 64) (n : Int) (w : World) (hn : n < 0) :
    Calls Try.prog 55 #[U v, .int .i64 n] w fun e w' => e = .returned (.string (bytesB v 0)) ∧ Below w.heap.size w w' := by
  have hv := u_lt v
  have hcv := conv8 w v 0 (by omega)
  have hsl : ∀ W, (Instr.sliceAt 111 (.pointer (some ⟨w.heap.size, 0, none⟩)) none (some (.int .i64 0)) none).run Try.prog W = .ok (.slice (some ⟨w.heap.size, 0, none⟩) 0 8) W := sl8h w.heap.size 0 (by omega)
  go_enter Try.func55, Try.ntmps55
  go_wp2
  go_rounds 9
  go_ret
  exact ⟨rfl, (Below.refl _ _).alloc (Nat.le_refl _) _⟩
theorem bytes_high (v : BitVec 64) (n : Int) (w : World) (hn : 8 < n) :
    Calls Try.prog 55 #[U v, .int .i64 n] w fun e w' => e = .returned (.string (bytesB v 8)) ∧ Below w.heap.size w w' := by
  have hv := u_lt v
  have hcv := conv8 w v 8 (by omega)
  have hsl : ∀ W, (Instr.sliceAt 111 (.pointer (some ⟨w.heap.size, 0, none⟩)) none (some (.int .i64 8)) none).run Try.prog W = .ok (.slice (some ⟨w.heap.size, 0, none⟩) 8 8) W := sl8h w.heap.size 8 (by omega)
  go_enter Try.func55, Try.ntmps55
  go_wp2
  go_rounds 9
  go_ret
  exact ⟨rfl, (Below.refl _ _).alloc (Nat.le_refl _) _⟩
theorem bytes_any (v : BitVec 64) (n : Int) (w : World) :
    Calls Try.prog 55 #[U v, .int .i64 n] w fun e w' => e = .returned (.string (bytesB v (held 0 8 n))) ∧ Below w.heap.size w w' := by
  by_cases h1 : n < 0
  · rw [show held 0 8 n = 0 by unfold held; rw [if_pos h1]; rfl]; exact bytes_low v n w h1
  · by_cases h2 : n ≤ 8
    · rw [show held 0 8 n = n.toNat by unfold held; rw [if_neg h1, if_neg (by omega)]]
      obtain ⟨m, rfl⟩ : ∃ m : Nat, n = (m : Int) := ⟨n.toNat, by omega⟩
      exact bytes_mid v m w (by omega)
    · rw [show held 0 8 n = 8 by unfold held; rw [if_neg h1, if_pos (by omega)]; rfl]; exact bytes_high v n w (by omega)
end Go.Proofs.Ytkjbhjmjfacjcaa
