/- Laws on blocks of bytes: what copy and a conversion do to a block whose bytes are a list; over any program; no condition but the block's own. -/
import Derived.WalkKit
import Derived.Laws.CopyRow
import Derived.Laws.BytesString
namespace Go.Proofs.Ytkjbhjmjfacjcaa
open Go.RowKit
set_option linter.unusedSimpArgs false
set_option linter.unusedVariables false
set_option maxRecDepth 100000

/-- bytes as cells. -/
def bytesV (l : List UInt8) : Array Value := (l.map fun b => Value.int .u8 (b.toNat : Int)).toArray
theorem bytesV_size (l : List UInt8) : (bytesV l).size = l.length := by simp [bytesV]
theorem bytesV_get (l : List UInt8) (i : Nat) (h : i < l.length) : (bytesV l)[i]? = some (.int .u8 (l[i].toNat : Int)) := by simp [bytesV, h]

theorem one_byte (b : UInt8) : (Value.int .u8 (b.toNat : Int)).oneCell' = true := rfl

theorem row_copy_str {P : Program} (w : World) (dT sT ty elem : TypeId) (g o dLen dCap : Nat) (s : ByteArray) (l : List UInt8) (t : TypeId)
    (hu : P.underlying dT = some (.slice elem)) (hs : (P.info? elem).map (·.size) = some 1)
    (hg : w.heap[g]? = some (.cells (bytesV l) t (0, 0))) (hfit : o + Nat.min s.size dLen ≤ l.length) :
    (Builtin.copy_ #[dT, sT] ty #[.slice (some ⟨g, o, none⟩) dLen dCap, .string s]).run P w =
      .ok (goInt (Nat.min s.size dLen)) (w.setRow g (bytesV (l.take o ++ s.data.toList.take (Nat.min s.size dLen) ++ l.drop (o + Nat.min s.size dLen)))) := by
  generalize hm : Nat.min s.size dLen = m at *
  have hml : m ≤ s.data.toList.length := by
    have : s.data.toList.length = s.size := rfl
    rw [this, ← hm]; exact Nat.min_le_left _ _
  have hlen : ((s.data.toList.take m).map fun b => Value.int .u8 (b.toNat : Int)).length = m := by simp at hml ⊢; omega
  have hst := run_storeCells_at P g o t ((s.data.toList.take m).map fun b => Value.int .u8 (b.toNat : Int)) 0 (bytesV l) w hg (by rw [hlen, bytesV_size]; omega)
    (by intro v hv; obtain ⟨b, _, rfl⟩ := List.mem_map.1 hv; rfl)
  rw [hlen] at hst
  have hcells : ((s.extract 0 m).data.map fun b => Value.int .u8 (b.toNat : Int)).toList = (s.data.toList.take m).map fun b => Value.int .u8 (b.toNat : Int) := by
    simp
  cases hq : P.info? elem with
  | none => simp [hq] at hs
  | some i =>
    have hi : i.size = 1 := by simpa [hq] using hs
    simp [Builtin.copy_, Builtin.lenOf, Builtin.firstCells, sizeOf, typeInfo, hq, run_underlying hu, hm, Result.andThen]
    rw [← List.map_take, hst]
    simp [bytesV]

theorem byte_fold : ∀ (l : List UInt8) (s : ByteArray), (l.map fun b => (b.toNat : Int)).foldl (fun r n => r.push (UInt8.ofNat n.toNat)) s = ⟨s.data ++ l.toArray⟩ := by
  intro l
  induction l with
  | nil => intro s; simp
  | cons b l ih =>
    intro s
    rw [List.map_cons, List.foldl_cons, ih]
    have e : UInt8.ofNat (b.toNat : Int).toNat = b := by simp
    rw [e]
    congr 1
    show (s.data.push b) ++ l.toArray = s.data ++ (b :: l).toArray
    simp
theorem row_to_str {P : Program} (w : World) (g o len cap : Nat) (l : List UInt8) (t : TypeId) (fr : Nat × Nat)
    (hg : w.heap[g]? = some (.cells (bytesV l) t fr)) (hfit : o + len ≤ l.length) :
    (Conv.bytesToString (.slice (some ⟨g, o, none⟩) len cap)).run P w = .ok (.string ⟨((l.drop o).take len).toArray⟩) w := by
  have hl := run_loadCells_list (P := P) w ⟨g, o, none⟩ (((l.drop o).take len).map fun b => Value.int .u8 (b.toNat : Int)) (by
    intro j v hj
    have hadd : (⟨g, o, none⟩ : Addr).add j = ⟨g, o + j, none⟩ := by unfold Addr.add; split <;> simp_all
    rw [hadd]
    rw [List.getElem?_map, Option.map_eq_some_iff] at hj
    obtain ⟨b, hb, rfl⟩ := hj
    rw [List.getElem?_take] at hb
    split at hb
    · rw [List.getElem?_drop] at hb
      simp [World.cell?, hg, bytesV, hb]
    · cases hb)
  have hlen : (((l.drop o).take len).map fun b => Value.int .u8 (b.toNat : Int)).length = len := by simp; omega
  rw [hlen] at hl
  have h2 := run_bytesToString (P := P) w ⟨g, o, none⟩ len cap (((l.drop o).take len).map fun b => (b.toNat : Int)) (by rw [hl]; simp [List.map_map, Function.comp_def])
  rw [h2]
  congr 2
  rw [byte_fold]
  congr 1
  show #[] ++ _ = _
  simp
end Go.Proofs.Ytkjbhjmjfacjcaa
