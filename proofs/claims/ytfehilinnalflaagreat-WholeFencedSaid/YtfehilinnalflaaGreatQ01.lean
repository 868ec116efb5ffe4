/- Part 1 of the texts behind the law: contracts and lemmas, each proved; no condition but what each names. -/
import Derived.Below
import Derived.ChangeSame
import Derived.Test.YtfehilinnalflaaGreatProg
import Derived.WalkKit
import Derived.Laws.CopyRow
import Derived.Laws.BytesString
import Derived.Deep.QuietTactic
import Derived.BigQuiet
import Derived.Outline
import Derived.Handy
import Derived.WalkLawsBesides
import Derived.WalkSpells
import Derived.Lib.Hide

namespace Go.Proofs.YtfehilinnalflaaGreat
open Go.RowKit Go.WideShapes Go.ChangeShapes
section
variable {H : Type} {enc : TypeId × Value → H} {P : Program}
theorem post_of_below {f : Func} {s : ChangeSpec} {apart fresh handsOn again : Bool} {W W' : World} {args : Array Value} {v : Value} {ds gs : List (DataW H)} {before pa pv : List MemPlace}
    (hW : DataW.Whole enc P f.params.toList s.vars apart W args.toList ds gs before)
    (hres : ∀ (b : Nat) (sp : Nat → Bool) (hd : Bool), DataW.TrodAll enc P W' b sp hd f.resultTypes.toList (v.resultList f.resultTypes.size) (s.fn H (ds ++ gs)).results [])
    (hargs : ∀ sp : Nat → Bool, (∀ p ∈ before, sp p.block = true) → DataW.TrodAll enc P W' 0 sp true f.params.toList args.toList (s.fn H (ds ++ gs)).args pa)
    (hvars : ∀ sp : Nat → Bool, (∀ p ∈ before, sp p.block = true) → DataW.TrodVars enc P W' sp s.vars (s.fn H (ds ++ gs)).vars pv)
    (hps : before = pa ++ pv) (hb : Below W.heap.size W W')
    (hok : ∀ (j : Nat) (t : TypeId) (r : Value), f.resultTypes[j]? = some t → (v.resultList f.resultTypes.size)[j]? = some r → Value.okWide P W' .any 0 t r) :
    s.post enc P f apart fresh handsOn again W args v W' := by
  have hlt : ∀ p ∈ before, p.block < W.heap.size := fun p hp => hW.lt p hp
  have hold : ∀ p ∈ before, (fun b => decide (b < W.heap.size)) p.block = true := fun p hp => by simpa using hlt p hp
  refine ⟨ds, gs, before, [], pa, pv, hW, hres _ _ _, hargs _ hold, hvars _ hold, World.keptBut_mono (fun p hp => ⟨hp, ?_⟩) (hb.frame (· ∈ before)), fun _ => ?_⟩
  · rw [hps, List.mem_append] at hp
    exact Or.inr hp
  · obtain ⟨_, _, _, _, _, hz, hn⟩ := hW
    refine ⟨hok, _, _, ([] ++ pa) ++ pv, ⟨[] ++ pa, pv, trodAll_append (hargs _ (fun _ _ => rfl)) (hres _ _ _), hvars _ (fun _ _ => rfl), rfl, ?_, ?_⟩, ?_⟩
    · intro b off hp
      have hin : MemPlace.cell b off ∈ before := by rw [hps]; simpa using hp
      rw [hb.frozen (hlt _ hin)]
      exact hz b off hin
    · intro ha
      have := hn ha
      rw [hps] at this
      simpa using this
    · intro p hp _
      rw [hps]
      simpa using hp
end
end Go.Proofs.YtfehilinnalflaaGreat
namespace Go.Proofs.YtfehilinnalflaaGreat
open Go.RowKit
set_option linter.unusedSimpArgs false
set_option linter.unusedVariables false
set_option maxRecDepth 100000
def bytesV (l : List UInt8) : Array Value := (l.map fun b => Value.int .u8 (b.toNat : Int)).toArray
theorem bytesV_size (l : List UInt8) : (bytesV l).size = l.length := by simp [bytesV]
theorem bytesV_get (l : List UInt8) (i : Nat) (h : i < l.length) : (bytesV l)[i]? = some (.int .u8 (l[i].toNat : Int)) := by simp [bytesV, h]
theorem row_copy_str {P : Program} (w : World) (dT sT ty elem : TypeId) (g o dLen dCap : Nat) (s : ByteArray) (l : List UInt8) (t : TypeId)
    (hu : P.underlying dT = some (.slice elem)) (hs : (P.info? elem).map (·.size) = some 1)
    (hg : w.heap[g]? = some (.cells (bytesV l) t (0, 0))) (hfit : o + Nat.min s.size dLen ≤ l.length) :
    (Builtin.copy_ #[dT, sT] ty #[.slice (some ⟨g, o, none⟩) dLen dCap, .string s]).run P w =
      .ok (goInt (Nat.min s.size dLen)) (w.setRow g (bytesV (l.take o ++ s.data.toList.take (Nat.min s.size dLen) ++ l.drop (o + Nat.min s.size dLen)))) := by
  generalize hm : Nat.min s.size dLen = m at *
  have hml : m ≤ s.data.toList.length := by
    have : s.data.toList.length = s.size := rfl
    rw [this, ← hm]; exact Nat.min_le_left _ _
  have hlen : ((s.data.toList.take m).map fun b => Value.int .u8 (b.toNat : Int)).length = m := by simp at hml ⊢; omega
  have hst := run_storeCells_at P g o t ((s.data.toList.take m).map fun b => Value.int .u8 (b.toNat : Int)) 0 (bytesV l) w hg (by rw [hlen, bytesV_size]; omega)
    (by intro v hv; obtain ⟨b, _, rfl⟩ := List.mem_map.1 hv; rfl)
  rw [hlen] at hst
  have hcells : ((s.extract 0 m).data.map fun b => Value.int .u8 (b.toNat : Int)).toList = (s.data.toList.take m).map fun b => Value.int .u8 (b.toNat : Int) := by
    simp
  cases hq : P.info? elem with
  | none => simp [hq] at hs
  | some i =>
    have hi : i.size = 1 := by simpa [hq] using hs
    simp [Builtin.copy_, Builtin.lenOf, Builtin.firstCells, sizeOf, typeInfo, hq, run_underlying hu, hm, Result.andThen]
    rw [← List.map_take, hst]
    simp [bytesV]
theorem byte_fold : ∀ (l : List UInt8) (s : ByteArray), (l.map fun b => (b.toNat : Int)).foldl (fun r n => r.push (UInt8.ofNat n.toNat)) s = ⟨s.data ++ l.toArray⟩ := by
  intro l
  induction l with
  | nil => intro s; simp
  | cons b l ih =>
    intro s
    rw [List.map_cons, List.foldl_cons, ih]
    have e : UInt8.ofNat (b.toNat : Int).toNat = b := by simp
    rw [e]
    congr 1
    show (s.data.push b) ++ l.toArray = s.data ++ (b :: l).toArray
    simp
theorem row_to_str {P : Program} (w : World) (g o len cap : Nat) (l : List UInt8) (t : TypeId) (fr : Nat × Nat)
    (hg : w.heap[g]? = some (.cells (bytesV l) t fr)) (hfit : o + len ≤ l.length) :
    (Conv.bytesToString (.slice (some ⟨g, o, none⟩) len cap)).run P w = .ok (.string ⟨((l.drop o).take len).toArray⟩) w := by
  have hl := run_loadCells_list (P := P) w ⟨g, o, none⟩ (((l.drop o).take len).map fun b => Value.int .u8 (b.toNat : Int)) (by
    intro j v hj
    have hadd : (⟨g, o, none⟩ : Addr).add j = ⟨g, o + j, none⟩ := by unfold Addr.add; split <;> simp_all
    rw [hadd]
    rw [List.getElem?_map, Option.map_eq_some_iff] at hj
    obtain ⟨b, hb, rfl⟩ := hj
    rw [List.getElem?_take] at hb
    split at hb
    · rw [List.getElem?_drop] at hb
      simp [World.cell?, hg, bytesV, hb]
    · cases hb)
  have hlen : (((l.drop o).take len).map fun b => Value.int .u8 (b.toNat : Int)).length = len := by simp; omega
  rw [hlen] at hl
  have h2 := run_bytesToString (P := P) w ⟨g, o, none⟩ len cap (((l.drop o).take len).map fun b => (b.toNat : Int)) (by rw [hl]; simp [List.map_map, Function.comp_def])
  rw [h2]
  congr 2
  rw [byte_fold]
  congr 1
  show #[] ++ _ = _
  simp
end Go.Proofs.YtfehilinnalflaaGreat
namespace Go.Proofs.YtfehilinnalflaaGreat
open Go.RowKit
abbrev U (x : BitVec 64) : Value := .int .u64 (x.toNat : Int)
theorem u_lt (x : BitVec 64) : (x.toNat : Int) < 18446744073709551616 := by have := x.isLt; omega
theorem u_and (a b : BitVec 64) : Go.bits .and .u64 (a.toNat : Int) (b.toNat : Int) = ((a &&& b).toNat : Int) := by
  rw [u64_and_nat _ _ a.isLt b.isLt]; simp
theorem u_or (a b : BitVec 64) : Go.bits .or .u64 (a.toNat : Int) (b.toNat : Int) = ((a ||| b).toNat : Int) := by
  rw [u64_or_nat _ _ a.isLt b.isLt]; simp
theorem u_andNot (a b : BitVec 64) : Go.bits .andNot .u64 (a.toNat : Int) (b.toNat : Int) = ((a &&& ~~~b).toNat : Int) := by
  rw [u64_andNot_nat _ _ a.isLt b.isLt]; simp [BitVec.toNat_not]
theorem u_wrap (x : Int) : IntKind.u64.wrap x = ((BitVec.ofInt 64 x).toNat : Int) := by
  rw [IntKind.wrap_u64, BitVec.toNat_ofInt]; simp; omega
theorem u_shr (a : BitVec 64) (n : Nat) : (a.toNat : Int) / 2 ^ n = ((a >>> n).toNat : Int) := by
  rw [BitVec.toNat_ushiftRight, Nat.shiftRight_eq_div_pow]; simp
theorem u_shr_min (a : BitVec 64) (n : Nat) : (a.toNat : Int) / 2 ^ min n 64 = ((a >>> n).toNat : Int) := by
  rcases Nat.le_total n 64 with h | h
  · rw [Nat.min_eq_left h, u_shr]
  · rw [Nat.min_eq_right h, u_shr]
    suffices h2 : a >>> 64 = a >>> n by rw [h2]
    apply BitVec.eq_of_getLsbD_eq; intro i hi
    simp only [BitVec.getLsbD_ushiftRight]
    rw [BitVec.getLsbD_of_ge _ _ (by omega), BitVec.getLsbD_of_ge _ _ (by omega)]
theorem u_shl (a : BitVec 64) (n : Nat) : IntKind.u64.wrap ((a.toNat : Int) * 2 ^ n) = ((a <<< n).toNat : Int) := by
  have e : (a.toNat : Int) * 2 ^ n = ((a.toNat * 2 ^ n : Nat) : Int) := by rw [Int.natCast_mul, Int.natCast_pow]; rfl
  rw [IntKind.wrap_u64, BitVec.toNat_shiftLeft, Nat.shiftLeft_eq, e]
  generalize a.toNat * 2 ^ n = m
  omega
theorem u_shl_min (a : BitVec 64) (n : Nat) : IntKind.u64.wrap ((a.toNat : Int) * 2 ^ min n 64) = ((a <<< n).toNat : Int) := by
  rcases Nat.le_total n 64 with h | h
  · rw [Nat.min_eq_left h, u_shl]
  · rw [Nat.min_eq_right h, u_shl]
    suffices h2 : a <<< 64 = a <<< n by rw [h2]
    apply BitVec.eq_of_getLsbD_eq; intro i hi
    rw [BitVec.getLsbD_shiftLeft, BitVec.getLsbD_shiftLeft, decide_eq_true (show i < 64 from hi), decide_eq_true (show i < n by omega)]
    rfl
theorem u_add (a b : BitVec 64) : IntKind.u64.wrap ((a.toNat : Int) + (b.toNat : Int)) = ((a + b).toNat : Int) := by
  rw [IntKind.wrap_u64, BitVec.toNat_add]; omega
theorem u_sub (a b : BitVec 64) : IntKind.u64.wrap ((a.toNat : Int) - (b.toNat : Int)) = ((a - b).toNat : Int) := by
  rw [IntKind.wrap_u64, BitVec.toNat_sub]
  have := a.isLt; have := b.isLt
  omega
theorem u_inj (a b : BitVec 64) : ((a.toNat : Int) = (b.toNat : Int)) ↔ a = b := by
  constructor
  · intro h; exact BitVec.eq_of_toNat_eq (by omega)
  · rintro rfl; rfl
theorem u_beq (a b : BitVec 64) : ((a.toNat : Int) == (b.toNat : Int)) = (a == b) := by
  rw [Bool.eq_iff_iff]; simp [u_inj]
theorem u_toInt (a : BitVec 64) : wrap64 (a.toNat : Int) = a.toInt := by
  have := a.isLt
  unfold wrap64; rw [BitVec.toInt_eq_toNat_cond]; split <;> omega
end Go.Proofs.YtfehilinnalflaaGreat
namespace Go.Proofs.YtfehilinnalflaaGreat
open Go.RowKit
def maskB (n : Nat) : BitVec 64 := BitVec.allOnes 64 >>> (64 - n)
def bitsB (v : BitVec 64) (lo n : Nat) : BitVec 64 := (v >>> lo) &&& maskB n
def setB (v : BitVec 64) (lo n : Nat) (x : BitVec 64) : BitVec 64 := (v &&& ~~~(maskB n <<< lo)) ||| ((x &&& maskB n) <<< lo)
def zextB (v : BitVec 64) (n : Nat) : BitVec 64 := v &&& maskB n
def sextB (v : BitVec 64) (n : Nat) : BitVec 64 := (v <<< (64 - n)).sshiftRight (64 - n)
def held (lo hi n : Int) : Nat := (if n < lo then lo else if hi < n then hi else n).toNat
def loOf (lo : Int) : Nat := held 0 63 lo
def nOf (lo n : Int) : Nat := held 0 (64 - (loOf lo : Int)) n
def wOf (n : Int) : Nat := held 1 64 n
theorem mask_bit (n i : Nat) : (maskB n).getLsbD i = (decide (i < 64) && decide (i < n)) := by
  unfold maskB
  rw [BitVec.getLsbD_ushiftRight, BitVec.getLsbD_allOnes]
  rw [Bool.eq_iff_iff]; simp; omega
theorem bits_bit (v : BitVec 64) (lo n i : Nat) : (bitsB v lo n).getLsbD i = (v.getLsbD (lo + i) && (decide (i < 64) && decide (i < n))) := by
  unfold bitsB
  rw [BitVec.getLsbD_and, BitVec.getLsbD_ushiftRight, mask_bit]
theorem mask_shl (n : Nat) (h : n < 64) : (1#64 <<< n) - 1#64 = maskB n := by
  apply BitVec.eq_of_toNat_eq
  have hp : (2 : Nat) ^ n < 2 ^ 64 := Nat.pow_lt_pow_right (by omega) h
  have h1 : 1 ≤ 2 ^ n := Nat.one_le_two_pow
  rw [BitVec.toNat_sub, BitVec.toNat_shiftLeft, maskB, BitVec.toNat_ushiftRight, BitVec.toNat_allOnes, Nat.shiftRight_eq_div_pow, Nat.shiftLeft_eq]
  simp only [BitVec.toNat_ofNat]
  have e : 2 ^ 64 = 2 ^ n * 2 ^ (64 - n) := by rw [← Nat.pow_add]; congr 1; omega
  have hq : (2 ^ 64 - 1) / 2 ^ (64 - n) = 2 ^ n - 1 := by
    have hpos : 0 < 2 ^ (64 - n) := Nat.two_pow_pos _
    rw [Nat.div_eq_of_lt_le]
    · rw [Nat.sub_mul, ← e]; omega
    · rw [Nat.sub_add_cancel h1, ← e]; omega
  rw [hq]
  generalize 2 ^ n = m at *
  omega
theorem mask_full (n : Nat) (h : 64 ≤ n) : maskB n = BitVec.allOnes 64 := by
  unfold maskB; rw [show 64 - n = 0 by omega]; rfl
end Go.Proofs.YtfehilinnalflaaGreat
namespace Go.Proofs.YtfehilinnalflaaGreat
open Go.RowKit
theorem ret_u {a : Int} {x : BitVec 64} (h : a = (x.toNat : Int)) : Ending.returned (.int .u64 a) = .returned (U x) := by rw [h]
theorem ret_ii {a b c d : Int} (h : a = c) (h2 : b = d) : Ending.returned (.tuple #[.int .i64 a, .int .i64 b]) = .returned (.tuple #[.int .i64 c, .int .i64 d]) := by rw [h, h2]
theorem ret_b {a b : Bool} (h : a = b) : Ending.returned (.bool a) = .returned (.bool b) := by rw [h]
theorem quiet_left {P : Program} {f : FuncId} {args : Array Value} {w : World} {n : Nat} {v : Value}
    (h : Calls P f args (w.drewN n) fun e w' => e = .returned v ∧ w.drewN n = w') : Calls P f args (w.drewN n) fun e w'' => e = .returned v ∧ ∃ m, w'' = w.drewN m :=
  h.mono fun _ _ ⟨he, hm⟩ => ⟨he, n, hm.symm⟩
theorem mask_any (n : Int) (h0 : 0 ≤ n) (w : World) :
    Calls Tryz.prog 119 #[.int .i64 n] w fun e w' => e = .returned (U (maskB n.toNat)) ∧ w = w' := by
  by_cases h : 64 ≤ n
  · go_enter Tryz.func119, Tryz.ntmps119
    go_wp2
    go_ret
    exact ⟨ret_u (by rw [mask_full _ (by omega)]; rfl), rfl⟩
  · go_enter Tryz.func119, Tryz.ntmps119
    go_wp2
    go_ret
    refine ⟨ret_u ?_, rfl⟩
    rw [← mask_shl _ (by omega), ← u_sub, BitVec.toNat_shiftLeft, Nat.shiftLeft_eq, IntKind.wrap_u64]
    have e : ((1#64).toNat * 2 ^ n.toNat : Nat) = 2 ^ n.toNat := by simp
    have e2 : IntKind.u64.wrap (2 ^ n.toNat) = ((2 ^ n.toNat % 2 ^ 64 : Nat) : Int) := by
      have e3 : (2 : Int) ^ n.toNat = ((2 ^ n.toNat : Nat) : Int) := by rw [Int.natCast_pow]; rfl
      rw [IntKind.wrap_u64, e3]; omega
    rw [e, e2]; rfl
theorem part_any (lo n : Int) (w : World) :
    Calls Tryz.prog 118 #[.int .i64 lo, .int .i64 n] w fun e w' => e = .returned (.tuple #[.int .i64 (loOf lo), .int .i64 (nOf lo n)]) ∧ w = w' := by
  by_cases h1 : lo < 0
  · by_cases h2 : n < 0
    · go_enter Tryz.func118, Tryz.ntmps118
      go_wp2
      all_goals (go_ret2; exact ⟨ret_ii (by simp only [loOf, held]; split <;> (try split) <;> omega) (by simp only [nOf, loOf, held]; (repeat' split) <;> omega), rfl⟩)
    · go_enter Tryz.func118, Tryz.ntmps118
      go_wp2
      all_goals (go_ret2; exact ⟨ret_ii (by simp only [loOf, held]; split <;> (try split) <;> omega) (by simp only [nOf, loOf, held]; (repeat' split) <;> omega), rfl⟩)
  · by_cases h2 : n < 0
    · go_enter Tryz.func118, Tryz.ntmps118
      go_wp2
      all_goals (go_ret2; exact ⟨ret_ii (by simp only [loOf, held]; split <;> (try split) <;> omega) (by simp only [nOf, loOf, held]; (repeat' split) <;> omega), rfl⟩)
    · go_enter Tryz.func118, Tryz.ntmps118
      go_wp2
      all_goals (go_ret2; exact ⟨ret_ii (by simp only [loOf, held]; split <;> (try split) <;> omega) (by simp only [nOf, loOf, held]; (repeat' split) <;> omega), rfl⟩)
theorem bits_any (v : BitVec 64) (lo n : Int) (w : World) :
    Calls Tryz.prog 78 #[U v, .int .i64 lo, .int .i64 n] w fun e w' => e = .returned (U (bitsB v (loOf lo) (nOf lo n))) ∧ ∃ k, w' = w.drewN k := by
  go_enter Tryz.func78, Tryz.ntmps78
  go_wp2_with (go_at_call 118; refine (part_any _ _ _).mono ?_; rintro e w' ⟨rfl, rfl⟩)
  go_quiet ((go_at_call 119; exact quiet_left (mask_any _ (by omega) _)))
  go_wp2
  go_ret
  refine ⟨ret_u ?_, _, rfl⟩
  rw [u_shr_min, u_and]
  rfl
theorem set_any (v : BitVec 64) (lo n : Int) (x : BitVec 64) (w : World) :
    Calls Tryz.prog 79 #[U v, .int .i64 lo, .int .i64 n, U x] w fun e w' => e = .returned (U (setB v (loOf lo) (nOf lo n) x)) ∧ ∃ k, w' = w.drewN k := by
  go_enter Tryz.func79, Tryz.ntmps79
  go_wp2_with (go_at_call 118; refine (part_any _ _ _).mono ?_; rintro e w' ⟨rfl, rfl⟩)
  go_quiet ((go_at_call 119; exact quiet_left (mask_any _ (by omega) _)))
  go_wp2
  go_ret
  refine ⟨ret_u ?_, _, rfl⟩
  simp only [u_shl_min, u_and, u_andNot, u_or]
  rfl
theorem wOf_lo {n : Int} (h : n < 1) : wOf n = 1 := by simp only [wOf, held, if_pos h]; rfl
theorem wOf_mid {n : Int} (h : 1 ≤ n) (h2 : n ≤ 64) : wOf n = n.toNat := by simp only [wOf, held]; rw [if_neg (by omega), if_neg (by omega)]
theorem wOf_hi {n : Int} (h2 : 64 < n) : wOf n = 64 := by simp only [wOf, held]; rw [if_neg (by omega), if_pos h2]; rfl
theorem zext_any (v : BitVec 64) (n : Int) (w : World) :
    Calls Tryz.prog 200 #[U v, .int .i64 n] w fun e w' => e = .returned (U (zextB v (wOf n))) ∧ w = w' := by
  by_cases h1 : n < 1
  · go_enter Tryz.func200, Tryz.ntmps200
    go_wp2_with (go_at_call 119; refine (mask_any _ (by omega) _).mono ?_; rintro e w' ⟨rfl, rfl⟩)
    go_ret
    refine ⟨ret_u ?_, rfl⟩
    rw [u_and, wOf_lo h1]; rfl
  · by_cases h2 : n ≤ 64
    · go_enter Tryz.func200, Tryz.ntmps200
      go_wp2_with (go_at_call 119; refine (mask_any _ (by omega) _).mono ?_; rintro e w' ⟨rfl, rfl⟩)
      go_ret
      refine ⟨ret_u ?_, rfl⟩
      rw [u_and, wOf_mid (by omega) (by omega)]; rfl
    · go_enter Tryz.func200, Tryz.ntmps200
      go_wp2_with (go_at_call 119; refine (mask_any _ (by omega) _).mono ?_; rintro e w' ⟨rfl, rfl⟩)
      go_ret
      refine ⟨ret_u ?_, rfl⟩
      rw [u_and, wOf_hi (by omega)]; rfl
theorem sext_val (v : BitVec 64) (m : Nat) : IntKind.u64.wrap (wrap64 (IntKind.u64.wrap ((v.toNat : Int) * 2 ^ m)) / 2 ^ m) = (((v <<< m).sshiftRight m).toNat : Int) := by
  rw [u_shl, u_toInt, u_wrap]
  have e : (v <<< m).toInt / 2 ^ m = ((v <<< m).sshiftRight m).toInt := by rw [BitVec.toInt_sshiftRight, Int.shiftRight_eq_div_pow]; rfl
  rw [e, BitVec.ofInt_toInt]
theorem sext_any (v : BitVec 64) (n : Int) (w : World) :
    Calls Tryz.prog 201 #[U v, .int .i64 n] w fun e w' => e = .returned (U (sextB v (wOf n))) ∧ w = w' := by
  by_cases h1 : n < 1
  · go_enter Tryz.func201, Tryz.ntmps201
    go_wp2
    go_ret
    refine ⟨ret_u ?_, rfl⟩
    rw [wOf_lo h1]; exact sext_val v 63
  · by_cases h2 : n ≤ 64
    · go_enter Tryz.func201, Tryz.ntmps201
      go_wp2
      go_ret
      refine ⟨ret_u ?_, rfl⟩
      rw [wOf_mid (by omega) (by omega), sext_val v]
      rw [show (64 - n).toNat = 64 - n.toNat by omega]; rfl
    · go_enter Tryz.func201, Tryz.ntmps201
      go_wp2
      go_ret
      refine ⟨ret_u ?_, rfl⟩
      rw [wOf_hi (by omega), u_toInt, u_wrap, BitVec.ofInt_toInt]
      simp [sextB]
theorem high_any (v x : BitVec 64) (w : World) :
    Calls Tryz.prog 223 #[U v, U x] w fun e w' => e = .returned (.bool (v.slt x)) ∧ w = w' := by
  go_enter Tryz.func223, Tryz.ntmps223
  go_wp2
  go_ret
  exact ⟨ret_b (by rw [u_toInt, u_toInt, BitVec.slt_eq_decide]), rfl⟩
end Go.Proofs.YtfehilinnalflaaGreat
namespace Go.Proofs.YtfehilinnalflaaGreat
open Go.RowKit
set_option linter.unusedSimpArgs false
set_option linter.unusedVariables false
set_option maxRecDepth 100000
def gbU (s : ByteArray) (at_ n : Int) (k : Nat) : UInt8 :=
  if (k : Int) < n ∧ 0 ≤ at_ + k ∧ at_ + k < s.size then s.data.toList.getD (at_ + k).toNat 0 else 0
def gb (s : ByteArray) (at_ n : Int) (k : Nat) : BitVec 64 := BitVec.ofNat 64 (gbU s at_ n k).toNat
def joinB (f : Nat → BitVec 64) : Nat → BitVec 64
  | 0 => 0
  | k + 1 => joinB f k ||| (f k <<< (8 * k))
def getB (s : ByteArray) (at_ n : Int) : BitVec 64 := joinB (gb s at_ n) 8
set_option maxRecDepth 100000 in
theorem idx8 (f : Nat → UInt8) (k : Nat) (hk : k < 8) (w : World) : (Instr.index 124 (.agg #[.int .u8 ((f 0).toNat : Int), .int .u8 ((f 1).toNat : Int), .int .u8 ((f 2).toNat : Int), .int .u8 ((f 3).toNat : Int), .int .u8 ((f 4).toNat : Int), .int .u8 ((f 5).toNat : Int), .int .u8 ((f 6).toNat : Int), .int .u8 ((f 7).toNat : Int)]) (.int .i64 (k : Int))).run Tryz.prog w = .ok (.int .u8 ((f k).toNat : Int)) w := by
  have i0 : ∀ (x0 x1 x2 x3 x4 x5 x6 x7 : Value) w, (Instr.index 124 (.agg #[x0, x1, x2, x3, x4, x5, x6, x7]) (.int .i64 0)).run Tryz.prog w = .ok x0 w := fun _ _ _ _ _ _ _ _ _ => by kernel_rfl
  have i1 : ∀ (x0 x1 x2 x3 x4 x5 x6 x7 : Value) w, (Instr.index 124 (.agg #[x0, x1, x2, x3, x4, x5, x6, x7]) (.int .i64 1)).run Tryz.prog w = .ok x1 w := fun _ _ _ _ _ _ _ _ _ => by kernel_rfl
  have i2 : ∀ (x0 x1 x2 x3 x4 x5 x6 x7 : Value) w, (Instr.index 124 (.agg #[x0, x1, x2, x3, x4, x5, x6, x7]) (.int .i64 2)).run Tryz.prog w = .ok x2 w := fun _ _ _ _ _ _ _ _ _ => by kernel_rfl
  have i3 : ∀ (x0 x1 x2 x3 x4 x5 x6 x7 : Value) w, (Instr.index 124 (.agg #[x0, x1, x2, x3, x4, x5, x6, x7]) (.int .i64 3)).run Tryz.prog w = .ok x3 w := fun _ _ _ _ _ _ _ _ _ => by kernel_rfl
  have i4 : ∀ (x0 x1 x2 x3 x4 x5 x6 x7 : Value) w, (Instr.index 124 (.agg #[x0, x1, x2, x3, x4, x5, x6, x7]) (.int .i64 4)).run Tryz.prog w = .ok x4 w := fun _ _ _ _ _ _ _ _ _ => by kernel_rfl
  have i5 : ∀ (x0 x1 x2 x3 x4 x5 x6 x7 : Value) w, (Instr.index 124 (.agg #[x0, x1, x2, x3, x4, x5, x6, x7]) (.int .i64 5)).run Tryz.prog w = .ok x5 w := fun _ _ _ _ _ _ _ _ _ => by kernel_rfl
  have i6 : ∀ (x0 x1 x2 x3 x4 x5 x6 x7 : Value) w, (Instr.index 124 (.agg #[x0, x1, x2, x3, x4, x5, x6, x7]) (.int .i64 6)).run Tryz.prog w = .ok x6 w := fun _ _ _ _ _ _ _ _ _ => by kernel_rfl
  have i7 : ∀ (x0 x1 x2 x3 x4 x5 x6 x7 : Value) w, (Instr.index 124 (.agg #[x0, x1, x2, x3, x4, x5, x6, x7]) (.int .i64 7)).run Tryz.prog w = .ok x7 w := fun _ _ _ _ _ _ _ _ _ => by kernel_rfl
  match k, hk with
  | 0, _ => exact i0 _ _ _ _ _ _ _ _ _
  | 1, _ => exact i1 _ _ _ _ _ _ _ _ _
  | 2, _ => exact i2 _ _ _ _ _ _ _ _ _
  | 3, _ => exact i3 _ _ _ _ _ _ _ _ _
  | 4, _ => exact i4 _ _ _ _ _ _ _ _ _
  | 5, _ => exact i5 _ _ _ _ _ _ _ _ _
  | 6, _ => exact i6 _ _ _ _ _ _ _ _ _
  | 7, _ => exact i7 _ _ _ _ _ _ _ _ _
theorem join_zero (k : Nat) : joinB (fun _ => 0#64) k = 0#64 := by
  induction k with
  | zero => rfl
  | succ k ih => simp [joinB, ih]
theorem join_congr {f g : Nat → BitVec 64} (k : Nat) (h : ∀ i, i < k → f i = g i) : joinB f k = joinB g k := by
  induction k with
  | zero => rfl
  | succ k ih => rw [joinB, joinB, ih (fun i hi => h i (by omega)), h k (by omega)]
theorem gb_none (s : ByteArray) (at_ n : Int) (h1 : ¬ (0 ≤ at_ ∧ at_ < s.size)) (h2 : ¬ (at_ < 0 ∧ -8 < at_)) : getB s at_ n = 0#64 := by
  unfold getB
  rw [join_congr (g := fun _ => 0#64) 8 (fun i hi => by unfold gb gbU; rw [if_neg (by omega)]; rfl), join_zero]
theorem get_none (s : ByteArray) (at_ n : Int) (w : World) (h1 : ¬ (0 ≤ at_ ∧ at_ < s.size)) (h2 : ¬ (at_ < 0 ∧ -8 < at_)) (hs : s.size ≤ 9223372036854775807) :
    Calls Tryz.prog 217 #[.string s, .int .i64 at_, .int .i64 n] w fun e w' => e = .returned (U (getB s at_ n)) ∧ Below w.heap.size w w' := by
  rw [gb_none s at_ n h1 h2]
  have ix : ∀ k : Nat, k < 8 → ∀ w, (Instr.index 124 (.agg #[.int .u8 0, .int .u8 0, .int .u8 0, .int .u8 0, .int .u8 0, .int .u8 0, .int .u8 0, .int .u8 0]) (.int .i64 (k : Int))).run Tryz.prog w = .ok (.int .u8 0) w :=
    fun k hk w => idx8 (fun _ => 0) k hk w
  have IX := Lib.hid ix
  clear ix
  by_cases h3 : at_ < 0
  · go_enter Tryz.func217, Tryz.ntmps217
    go_wp2
    go_loop [8, 44] (fun v i => ∃ k : Nat, k ≤ 8 ∧ i = .int .i64 k ∧ v = .int .u64 0) (fun _ i => 8 - (intOf i).toNat)
    case atStart => exact ⟨0, by omega, rfl, rfl⟩
    case round =>
      obtain ⟨k, hk, rfl, rfl⟩ := hrel
      by_cases hk8 : k < 8
      · have iy := fun w => IX.out k hk8 w
        go_wp2
        go_round
        case rel => exact ⟨k + 1, by omega, by go_num, rfl⟩
        case measure => simp [intOf]; omega
      · go_wp2
        go_ret
        exact ⟨rfl, (Below.refl _ _).alloc (Nat.le_refl _) _⟩
  · have h4 : (s.size : Int) ≤ at_ := by omega
    go_enter Tryz.func217, Tryz.ntmps217
    go_wp2
    go_loop [8, 44] (fun v i => ∃ k : Nat, k ≤ 8 ∧ i = .int .i64 k ∧ v = .int .u64 0) (fun _ i => 8 - (intOf i).toNat)
    case atStart => exact ⟨0, by omega, rfl, rfl⟩
    case round =>
      obtain ⟨k, hk, rfl, rfl⟩ := hrel
      by_cases hk8 : k < 8
      · have iy := fun w => IX.out k hk8 w
        go_wp2
        go_round
        case rel => exact ⟨k + 1, by omega, by go_num, rfl⟩
        case measure => simp [intOf]; omega
      · go_wp2
        go_ret
        exact ⟨rfl, (Below.refl _ _).alloc (Nat.le_refl _) _⟩
theorem list8 {α : Type} (l : List α) (f : Nat → α) (hl : l.length = 8) (h : ∀ k, k < 8 → l[k]? = some (f k)) : l = [f 0, f 1, f 2, f 3, f 4, f 5, f 6, f 7] := by
  apply List.ext_getElem?
  intro k
  by_cases hk : k < 8
  · rw [h k hk]
    match k, hk with
    | 0, _ => rfl
    | 1, _ => rfl
    | 2, _ => rfl
    | 3, _ => rfl
    | 4, _ => rfl
    | 5, _ => rfl
    | 6, _ => rfl
    | 7, _ => rfl
  · rw [List.getElem?_eq_none (by omega), List.getElem?_eq_none (by simp; omega)]
set_option maxRecDepth 100000 in
theorem row8_copy (w W : World) (src : ByteArray) (o d c : Nat) (f : Nat → UInt8) (T : TypeId) (h : o + min src.size d ≤ 8)
    (hf : ∀ k, k < 8 → f k = if o ≤ k ∧ k < o + min src.size d then src.data.toList.getD (k - o) 0 else 0)
    (hW : W.heap = w.heap.push (.cells #[.int .u8 0, .int .u8 0, .int .u8 0, .int .u8 0, .int .u8 0, .int .u8 0, .int .u8 0, .int .u8 0] T)) :
    (Builtin.copy_ #[84, 9] 3 #[.slice (some ⟨w.heap.size, o, none⟩) d c, .string src]).run Tryz.prog W = .ok (goInt ((min src.size d : Nat) : Int)) { W with heap := w.heap.push (.cells #[.int .u8 ((f 0).toNat : Int), .int .u8 ((f 1).toNat : Int), .int .u8 ((f 2).toNat : Int), .int .u8 ((f 3).toNat : Int), .int .u8 ((f 4).toNat : Int), .int .u8 ((f 5).toNat : Int), .int .u8 ((f 6).toNat : Int), .int .u8 ((f 7).toNat : Int)] T) } := by
  have hg : W.heap[w.heap.size]? = some (.cells (bytesV [0, 0, 0, 0, 0, 0, 0, 0]) T (0, 0)) := by rw [hW]; simp [bytesV]
  have key := row_copy_str (P := Tryz.prog) W 84 9 3 5 w.heap.size o d c src [0, 0, 0, 0, 0, 0, 0, 0] T Tryz.underlying84 (by kernel_rfl) hg (by simpa using h)
  have hmin : Nat.min src.size d = min src.size d := rfl
  rw [hmin] at key
  rw [key]
  have hsz : src.data.toList.length = src.size := rfl
  have hl : [0, 0, 0, 0, 0, 0, 0, 0].take o ++ src.data.toList.take (min src.size d) ++ [0, 0, 0, 0, 0, 0, 0, 0].drop (o + min src.size d) = [f 0, f 1, f 2, f 3, f 4, f 5, f 6, f 7] := by
    apply list8
    · simp only [List.length_append, List.length_take, List.length_drop, List.length_cons, List.length_nil, hsz]; omega
    · intro k hk
      rw [hf k hk]
      have hz : ∀ j, j < 8 → ([0, 0, 0, 0, 0, 0, 0, 0] : List UInt8)[j]? = some 0 := by
        intro j hj
        match j, hj with
        | 0, _ => rfl
        | 1, _ => rfl
        | 2, _ => rfl
        | 3, _ => rfl
        | 4, _ => rfl
        | 5, _ => rfl
        | 6, _ => rfl
        | 7, _ => rfl
      have l1 : (([0, 0, 0, 0, 0, 0, 0, 0] : List UInt8).take o).length = o := by simp only [List.length_take, List.length_cons, List.length_nil]; omega
      have l2 : (src.data.toList.take (min src.size d)).length = min src.size d := by rw [List.length_take, hsz]; omega
      by_cases c1 : k < o
      · rw [if_neg (by omega), List.append_assoc, List.getElem?_append_left (by omega), List.getElem?_take, if_pos c1, hz k hk]
      · by_cases c2 : k < o + min src.size d
        · rw [if_pos ⟨by omega, c2⟩, List.getElem?_append_left (by rw [List.length_append]; omega), List.getElem?_append_right (by omega), l1, List.getElem?_take, if_pos (by omega)]
          rw [List.getD_eq_getElem?_getD, List.getElem?_eq_getElem (by rw [hsz]; omega)]; rfl
        · rw [if_neg (by omega), List.getElem?_append_right (by rw [List.length_append]; omega), List.length_append, l1, l2, List.getElem?_drop, hz _ (by omega)]
  rw [hl]
  congr 1
  unfold World.setRow
  rw [hW]
  congr 1
  apply Array.ext_getElem?
  intro j
  rw [Array.getElem?_modify, Array.getElem?_push, Array.getElem?_push]
  by_cases hj : j = w.heap.size
  · subst hj; simp [bytesV]
  · rw [if_neg (fun e => hj e.symm), if_neg hj, if_neg hj]
set_option maxRecDepth 100000 in
theorem row8_copy_drew (w : World) (src : ByteArray) (o d c : Nat) (f : Nat → UInt8) (T : TypeId) (h : o + min src.size d ≤ 8)
    (hf : ∀ k, k < 8 → f k = if o ≤ k ∧ k < o + min src.size d then src.data.toList.getD (k - o) 0 else 0) :
    (Builtin.copy_ #[84, 9] 3 #[.slice (some ⟨w.heap.size, o, none⟩) d c, .string src]).run Tryz.prog (w.alloc (.cells #[.int .u8 0, .int .u8 0, .int .u8 0, .int .u8 0, .int .u8 0, .int .u8 0, .int .u8 0, .int .u8 0] T)).drew = .ok (goInt ((min src.size d : Nat) : Int)) (w.alloc (.cells #[.int .u8 ((f 0).toNat : Int), .int .u8 ((f 1).toNat : Int), .int .u8 ((f 2).toNat : Int), .int .u8 ((f 3).toNat : Int), .int .u8 ((f 4).toNat : Int), .int .u8 ((f 5).toNat : Int), .int .u8 ((f 6).toNat : Int), .int .u8 ((f 7).toNat : Int)] T)).drew :=
  row8_copy w (w.alloc (.cells #[.int .u8 0, .int .u8 0, .int .u8 0, .int .u8 0, .int .u8 0, .int .u8 0, .int .u8 0, .int .u8 0] T)).drew src o d c f T h hf rfl
set_option maxRecDepth 100000 in
theorem row8_copy_plain (w : World) (src : ByteArray) (o d c : Nat) (f : Nat → UInt8) (T : TypeId) (h : o + min src.size d ≤ 8)
    (hf : ∀ k, k < 8 → f k = if o ≤ k ∧ k < o + min src.size d then src.data.toList.getD (k - o) 0 else 0) :
    (Builtin.copy_ #[84, 9] 3 #[.slice (some ⟨w.heap.size, o, none⟩) d c, .string src]).run Tryz.prog (w.alloc (.cells #[.int .u8 0, .int .u8 0, .int .u8 0, .int .u8 0, .int .u8 0, .int .u8 0, .int .u8 0, .int .u8 0] T)) = .ok (goInt ((min src.size d : Nat) : Int)) (w.alloc (.cells #[.int .u8 ((f 0).toNat : Int), .int .u8 ((f 1).toNat : Int), .int .u8 ((f 2).toNat : Int), .int .u8 ((f 3).toNat : Int), .int .u8 ((f 4).toNat : Int), .int .u8 ((f 5).toNat : Int), .int .u8 ((f 6).toNat : Int), .int .u8 ((f 7).toNat : Int)] T)) :=
  row8_copy w (w.alloc (.cells #[.int .u8 0, .int .u8 0, .int .u8 0, .int .u8 0, .int .u8 0, .int .u8 0, .int .u8 0, .int .u8 0] T)) src o d c f T h hf rfl
set_option maxRecDepth 100000 in
theorem sl8 (b lo hi : Nat) (h0 : 1 ≤ lo) (h1 : lo ≤ hi) (h2 : hi ≤ 8) (h3 : lo < 8) (W : World) :
    (Instr.sliceAt 124 (.pointer (some ⟨b, 0, none⟩)) (some (.int .i64 (lo : Int))) (some (.int .i64 (hi : Int))) none).run Tryz.prog W = .ok (.slice (some ⟨b, lo, none⟩) (hi - lo) (8 - lo)) W := by
  have hl : Tryz.prog.arrayLen 124 = 8 := by kernel_rfl
  have hz : ∀ W, (sizeOf (Tryz.prog.elem 124)).run Tryz.prog W = .ok 1 W := fun _ => by kernel_rfl
  rw [run_sliceAt_array_lh W 124 ⟨b, 0, none⟩ (by kernel_rfl) .i64 .i64 lo hi (by omega) (by omega) (by rw [hl]; omega), hz, hl]
  simp only [Result.andThen, slicedAt, Int.toNat_natCast]
  rw [if_neg (by omega)]
  simp [Addr.add, show ¬ lo = 0 by omega]
theorem join_step {f : Nat → BitVec 64} {k : Nat} {b : UInt8} (h : BitVec.ofNat 64 b.toNat = f k) :
    Value.int .u64 (bits .or .u64 ((joinB f k).toNat : Int) (IntKind.u64.wrap ((b.toNat : Int) * 2 ^ (8 * k)))) = U (joinB f (k + 1)) := by
  have e : (b.toNat : Int) = ((f k).toNat : Int) := by rw [← h, BitVec.toNat_ofNat]; have := b.toNat_lt; omega
  rw [e, u_shl, u_or]; rfl
set_option maxRecDepth 100000 in
theorem get_in_mid (s : ByteArray) (at_ n : Int) (w : World) (h1 : 0 ≤ at_) (h2 : at_ < s.size) (hn0 : 0 ≤ n) (hn8 : n ≤ 8) (hs : s.size ≤ 9223372036854775807) :
    Calls Tryz.prog 217 #[.string s, .int .i64 at_, .int .i64 n] w fun e w' => e = .returned (U (getB s at_ n)) ∧ Below w.heap.size w w' := by
  obtain ⟨f, hf⟩ : ∃ f : Nat → UInt8, f = gbU s at_ n := ⟨_, rfl⟩
  have hsx : (s.extract at_.toNat s.size).size = s.size - at_.toNat := by simp
  have hcp := row8_copy_drew w (s.extract at_.toNat s.size) 0 (n.toNat) 8 f 124 (by rw [hsx]; omega) (by
    intro k hk
    rw [hf, hsx]; unfold gbU
    by_cases c : (k : Int) < n ∧ 0 ≤ at_ + k ∧ at_ + k < s.size
    · rw [if_pos c, if_pos (by omega)]
      simp only [ByteArray.data_extract, Array.toList_extract, List.extract_eq_take_drop, List.getD_eq_getElem?_getD, List.getElem?_take, List.getElem?_drop]
      rw [if_pos (by omega), show at_.toNat + (k - 0) = (at_ + k).toNat by omega]
    · rw [if_neg c, if_neg (by omega)])
  have hf2 : ∀ k, BitVec.ofNat 64 (f k).toNat = gb s at_ n k := fun k => by rw [hf]; rfl
  have hf3 : ∀ k, ((f k).toNat : Int) < 256 := fun k => by have := (f k).toNat_lt; omega
  have IX := Lib.hid (idx8 f)
  have H2 := Lib.hid hf2
  have H3 := Lib.hid hf3
  clear hf hf2 hf3
  go_enter Tryz.func217, Tryz.ntmps217
  go_wp2
  go_region
  go_wp2
  go_loop [8, 44] (fun v i => ∃ k : Nat, k ≤ 8 ∧ i = .int .i64 k ∧ v = U (joinB (gb s at_ n) k)) (fun _ i => 8 - (intOf i).toNat)
  case atStart => exact ⟨0, by omega, rfl, rfl⟩
  case round =>
    obtain ⟨k, hk, rfl, rfl⟩ := hrel
    by_cases hk8 : k < 8
    · have iy := fun w => IX.out k hk8 w
      have iz := H3.out k
      go_wp2
      go_round
      case rel => exact ⟨k + 1, by omega, by go_num, join_step (H2.out k)⟩
      case measure => simp [intOf]; omega
    · obtain rfl : k = 8 := by omega
      go_wp2
      go_ret
      exact ⟨rfl, ((Below.refl _ _).alloc (Nat.le_refl _) _).drew⟩
set_option maxRecDepth 100000 in
theorem get_in_low (s : ByteArray) (at_ n : Int) (w : World) (h1 : 0 ≤ at_) (h2 : at_ < s.size) (hn0 : n < 0) (hs : s.size ≤ 9223372036854775807) :
    Calls Tryz.prog 217 #[.string s, .int .i64 at_, .int .i64 n] w fun e w' => e = .returned (U (getB s at_ n)) ∧ Below w.heap.size w w' := by
  obtain ⟨f, hf⟩ : ∃ f : Nat → UInt8, f = gbU s at_ n := ⟨_, rfl⟩
  have hsx : (s.extract at_.toNat s.size).size = s.size - at_.toNat := by simp
  have hcp := row8_copy_drew w (s.extract at_.toNat s.size) 0 (0) 8 f 124 (by rw [hsx]; omega) (by
    intro k hk
    rw [hf, hsx]; unfold gbU
    by_cases c : (k : Int) < n ∧ 0 ≤ at_ + k ∧ at_ + k < s.size
    · rw [if_pos c, if_pos (by omega)]
      simp only [ByteArray.data_extract, Array.toList_extract, List.extract_eq_take_drop, List.getD_eq_getElem?_getD, List.getElem?_take, List.getElem?_drop]
      rw [if_pos (by omega), show at_.toNat + (k - 0) = (at_ + k).toNat by omega]
    · rw [if_neg c, if_neg (by omega)])
  have hf2 : ∀ k, BitVec.ofNat 64 (f k).toNat = gb s at_ n k := fun k => by rw [hf]; rfl
  have hf3 : ∀ k, ((f k).toNat : Int) < 256 := fun k => by have := (f k).toNat_lt; omega
  have IX := Lib.hid (idx8 f)
  have H2 := Lib.hid hf2
  have H3 := Lib.hid hf3
  clear hf hf2 hf3
  go_enter Tryz.func217, Tryz.ntmps217
  go_wp2
  go_region
  go_wp2
  go_loop [8, 44] (fun v i => ∃ k : Nat, k ≤ 8 ∧ i = .int .i64 k ∧ v = U (joinB (gb s at_ n) k)) (fun _ i => 8 - (intOf i).toNat)
  case atStart => exact ⟨0, by omega, rfl, rfl⟩
  case round =>
    obtain ⟨k, hk, rfl, rfl⟩ := hrel
    by_cases hk8 : k < 8
    · have iy := fun w => IX.out k hk8 w
      have iz := H3.out k
      go_wp2
      go_round
      case rel => exact ⟨k + 1, by omega, by go_num, join_step (H2.out k)⟩
      case measure => simp [intOf]; omega
    · obtain rfl : k = 8 := by omega
      go_wp2
      go_ret
      exact ⟨rfl, ((Below.refl _ _).alloc (Nat.le_refl _) _).drew⟩
set_option maxRecDepth 100000 in
theorem get_in_high (s : ByteArray) (at_ n : Int) (w : World) (h1 : 0 ≤ at_) (h2 : at_ < s.size) (hn8 : 8 < n) (hs : s.size ≤ 9223372036854775807) :
    Calls Tryz.prog 217 #[.string s, .int .i64 at_, .int .i64 n] w fun e w' => e = .returned (U (getB s at_ n)) ∧ Below w.heap.size w w' := by
  obtain ⟨f, hf⟩ : ∃ f : Nat → UInt8, f = gbU s at_ n := ⟨_, rfl⟩
  have hsx : (s.extract at_.toNat s.size).size = s.size - at_.toNat := by simp
  have hcp := row8_copy_drew w (s.extract at_.toNat s.size) 0 (8) 8 f 124 (by rw [hsx]; omega) (by
    intro k hk
    rw [hf, hsx]; unfold gbU
    by_cases c : (k : Int) < n ∧ 0 ≤ at_ + k ∧ at_ + k < s.size
    · rw [if_pos c, if_pos (by omega)]
      simp only [ByteArray.data_extract, Array.toList_extract, List.extract_eq_take_drop, List.getD_eq_getElem?_getD, List.getElem?_take, List.getElem?_drop]
      rw [if_pos (by omega), show at_.toNat + (k - 0) = (at_ + k).toNat by omega]
    · rw [if_neg c, if_neg (by omega)])
  have hf2 : ∀ k, BitVec.ofNat 64 (f k).toNat = gb s at_ n k := fun k => by rw [hf]; rfl
  have hf3 : ∀ k, ((f k).toNat : Int) < 256 := fun k => by have := (f k).toNat_lt; omega
  have IX := Lib.hid (idx8 f)
  have H2 := Lib.hid hf2
  have H3 := Lib.hid hf3
  clear hf hf2 hf3
  go_enter Tryz.func217, Tryz.ntmps217
  go_wp2
  go_region
  go_wp2
  go_loop [8, 44] (fun v i => ∃ k : Nat, k ≤ 8 ∧ i = .int .i64 k ∧ v = U (joinB (gb s at_ n) k)) (fun _ i => 8 - (intOf i).toNat)
  case atStart => exact ⟨0, by omega, rfl, rfl⟩
  case round =>
    obtain ⟨k, hk, rfl, rfl⟩ := hrel
    by_cases hk8 : k < 8
    · have iy := fun w => IX.out k hk8 w
      have iz := H3.out k
      go_wp2
      go_round
      case rel => exact ⟨k + 1, by omega, by go_num, join_step (H2.out k)⟩
      case measure => simp [intOf]; omega
    · obtain rfl : k = 8 := by omega
      go_wp2
      go_ret
      exact ⟨rfl, ((Below.refl _ _).alloc (Nat.le_refl _) _).drew⟩
set_option maxRecDepth 100000 in
theorem get_neg_mid (s : ByteArray) (a m : Nat) (w : World) (h1 : 1 ≤ a) (h2 : a < 8) (hn0 : a ≤ m) (hn8 : m ≤ 8) (hs : s.size ≤ 9223372036854775807) :
    Calls Tryz.prog 217 #[.string s, .int .i64 (-(a : Int)), .int .i64 (m : Int)] w fun e w' => e = .returned (U (getB s (-(a : Int)) (m : Int))) ∧ Below w.heap.size w w' := by
  obtain ⟨f, hf⟩ : ∃ f : Nat → UInt8, f = gbU s (-(a : Int)) (m : Int) := ⟨_, rfl⟩
  have hcp := row8_copy_plain w s a (m - a) (8 - a) f 124 (by omega) (by
    intro k hk
    rw [hf]; unfold gbU
    by_cases c : (k : Int) < (m : Int) ∧ 0 ≤ -(a : Int) + k ∧ -(a : Int) + k < s.size
    · rw [if_pos c, if_pos (by omega), show k - a = (-(a : Int) + k).toNat by omega]
    · rw [if_neg c, if_neg (by omega)])
  have hsl := sl8 w.heap.size a m (by omega) (by omega) (by omega) (by omega)
  have hf2 : ∀ k, BitVec.ofNat 64 (f k).toNat = gb s (-(a : Int)) (m : Int) k := fun k => by rw [hf]; rfl
  have hf3 : ∀ k, ((f k).toNat : Int) < 256 := fun k => by have := (f k).toNat_lt; omega
  have IX := Lib.hid (idx8 f)
  have H2 := Lib.hid hf2
  have H3 := Lib.hid hf3
  clear hf hf2 hf3
  go_enter Tryz.func217, Tryz.ntmps217
  go_wp2
  go_loop [8, 44] (fun v i => ∃ k : Nat, k ≤ 8 ∧ i = .int .i64 k ∧ v = U (joinB (gb s (-(a : Int)) (m : Int)) k)) (fun _ i => 8 - (intOf i).toNat)
  case atStart => exact ⟨0, by omega, rfl, rfl⟩
  case round =>
    obtain ⟨k, hk, rfl, rfl⟩ := hrel
    by_cases hk8 : k < 8
    · have iy := fun w => IX.out k hk8 w
      have iz := H3.out k
      go_wp2
      go_round
      case rel => exact ⟨k + 1, by omega, by go_num, join_step (H2.out k)⟩
      case measure => simp [intOf]; omega
    · obtain rfl : k = 8 := by omega
      go_wp2
      go_ret
      exact ⟨rfl, (Below.refl _ _).alloc (Nat.le_refl _) _⟩
set_option maxRecDepth 100000 in
theorem get_neg_low (s : ByteArray) (a : Nat) (n : Int) (w : World) (h1 : 1 ≤ a) (h2 : a < 8) (hn0 : n < a) (hs : s.size ≤ 9223372036854775807) :
    Calls Tryz.prog 217 #[.string s, .int .i64 (-(a : Int)), .int .i64 n] w fun e w' => e = .returned (U (getB s (-(a : Int)) n)) ∧ Below w.heap.size w w' := by
  obtain ⟨f, hf⟩ : ∃ f : Nat → UInt8, f = gbU s (-(a : Int)) n := ⟨_, rfl⟩
  have hcp := row8_copy_plain w s a (0) (8 - a) f 124 (by omega) (by
    intro k hk
    rw [hf]; unfold gbU
    by_cases c : (k : Int) < n ∧ 0 ≤ -(a : Int) + k ∧ -(a : Int) + k < s.size
    · rw [if_pos c, if_pos (by omega), show k - a = (-(a : Int) + k).toNat by omega]
    · rw [if_neg c, if_neg (by omega)])
  have hsl := sl8 w.heap.size a a (by omega) (by omega) (by omega) (by omega)
  have hf2 : ∀ k, BitVec.ofNat 64 (f k).toNat = gb s (-(a : Int)) n k := fun k => by rw [hf]; rfl
  have hf3 : ∀ k, ((f k).toNat : Int) < 256 := fun k => by have := (f k).toNat_lt; omega
  have IX := Lib.hid (idx8 f)
  have H2 := Lib.hid hf2
  have H3 := Lib.hid hf3
  clear hf hf2 hf3
  go_enter Tryz.func217, Tryz.ntmps217
  go_wp2
  go_loop [8, 44] (fun v i => ∃ k : Nat, k ≤ 8 ∧ i = .int .i64 k ∧ v = U (joinB (gb s (-(a : Int)) n) k)) (fun _ i => 8 - (intOf i).toNat)
  case atStart => exact ⟨0, by omega, rfl, rfl⟩
  case round =>
    obtain ⟨k, hk, rfl, rfl⟩ := hrel
    by_cases hk8 : k < 8
    · have iy := fun w => IX.out k hk8 w
      have iz := H3.out k
      go_wp2
      go_round
      case rel => exact ⟨k + 1, by omega, by go_num, join_step (H2.out k)⟩
      case measure => simp [intOf]; omega
    · obtain rfl : k = 8 := by omega
      go_wp2
      go_ret
      exact ⟨rfl, (Below.refl _ _).alloc (Nat.le_refl _) _⟩
set_option maxRecDepth 100000 in
theorem get_neg_high (s : ByteArray) (a : Nat) (n : Int) (w : World) (h1 : 1 ≤ a) (h2 : a < 8) (hn8 : 8 < n) (hs : s.size ≤ 9223372036854775807) :
    Calls Tryz.prog 217 #[.string s, .int .i64 (-(a : Int)), .int .i64 n] w fun e w' => e = .returned (U (getB s (-(a : Int)) n)) ∧ Below w.heap.size w w' := by
  obtain ⟨f, hf⟩ : ∃ f : Nat → UInt8, f = gbU s (-(a : Int)) n := ⟨_, rfl⟩
  have hcp := row8_copy_plain w s a (8 - a) (8 - a) f 124 (by omega) (by
    intro k hk
    rw [hf]; unfold gbU
    by_cases c : (k : Int) < n ∧ 0 ≤ -(a : Int) + k ∧ -(a : Int) + k < s.size
    · rw [if_pos c, if_pos (by omega), show k - a = (-(a : Int) + k).toNat by omega]
    · rw [if_neg c, if_neg (by omega)])
  have hsl : ∀ W, (Instr.sliceAt 124 (.pointer (some ⟨w.heap.size, 0, none⟩)) (some (.int .i64 (a : Int))) (some (.int .i64 8)) none).run Tryz.prog W = .ok (.slice (some ⟨w.heap.size, a, none⟩) (8 - a) (8 - a)) W :=
    sl8 w.heap.size a 8 (by omega) (by omega) (by omega) (by omega)
  have hf2 : ∀ k, BitVec.ofNat 64 (f k).toNat = gb s (-(a : Int)) n k := fun k => by rw [hf]; rfl
  have hf3 : ∀ k, ((f k).toNat : Int) < 256 := fun k => by have := (f k).toNat_lt; omega
  have IX := Lib.hid (idx8 f)
  have H2 := Lib.hid hf2
  have H3 := Lib.hid hf3
  clear hf hf2 hf3
  go_enter Tryz.func217, Tryz.ntmps217
  go_wp2
  go_loop [8, 44] (fun v i => ∃ k : Nat, k ≤ 8 ∧ i = .int .i64 k ∧ v = U (joinB (gb s (-(a : Int)) n) k)) (fun _ i => 8 - (intOf i).toNat)
  case atStart => exact ⟨0, by omega, rfl, rfl⟩
  case round =>
    obtain ⟨k, hk, rfl, rfl⟩ := hrel
    by_cases hk8 : k < 8
    · have iy := fun w => IX.out k hk8 w
      have iz := H3.out k
      go_wp2
      go_round
      case rel => exact ⟨k + 1, by omega, by go_num, join_step (H2.out k)⟩
      case measure => simp [intOf]; omega
    · obtain rfl : k = 8 := by omega
      go_wp2
      go_ret
      exact ⟨rfl, (Below.refl _ _).alloc (Nat.le_refl _) _⟩
theorem get_any (s : ByteArray) (at_ n : Int) (w : World) (hs : s.size ≤ 9223372036854775807) :
    Calls Tryz.prog 217 #[.string s, .int .i64 at_, .int .i64 n] w fun e w' => e = .returned (U (getB s at_ n)) ∧ Below w.heap.size w w' := by
  by_cases h1 : 0 ≤ at_ ∧ at_ < s.size
  · by_cases h2 : n < 0
    · exact get_in_low s at_ n w h1.1 h1.2 h2 hs
    · by_cases h3 : n ≤ 8
      · exact get_in_mid s at_ n w h1.1 h1.2 (by omega) h3 hs
      · exact get_in_high s at_ n w h1.1 h1.2 (by omega) hs
  · by_cases h2 : at_ < 0 ∧ -8 < at_
    · obtain ⟨a, ha⟩ : ∃ a : Nat, at_ = -(a : Int) := ⟨(-at_).toNat, by omega⟩
      subst ha
      by_cases h3 : n < a
      · exact get_neg_low s a n w (by omega) (by omega) h3 hs
      · by_cases h4 : n ≤ 8
        · obtain ⟨m, rfl⟩ : ∃ m : Nat, n = (m : Int) := ⟨n.toNat, by omega⟩
          exact get_neg_mid s a m w (by omega) (by omega) (by omega) (by omega) hs
        · exact get_neg_high s a n w (by omega) (by omega) (by omega) hs
    · exact get_none s at_ n w h1 h2 hs
end Go.Proofs.YtfehilinnalflaaGreat
namespace Go.Proofs.YtfehilinnalflaaGreat
open Go.RowKit
set_option linter.unusedSimpArgs false
set_option linter.unusedVariables false
set_option maxRecDepth 100000
def byteU (v : BitVec 64) (k : Nat) : UInt8 := UInt8.ofNat (v.toNat / 256 ^ k)
def bytesL (v : BitVec 64) (n : Nat) : List UInt8 := ((List.range 8).map (byteU v)).take n
def bytesB (v : BitVec 64) (n : Nat) : ByteArray := ⟨(bytesL v n).toArray⟩
theorem byteU_val (v : BitVec 64) (k : Nat) : ((byteU v k).toNat : Int) = (v.toNat : Int) / (256 ^ k : Nat) % 256 := by
  unfold byteU; rw [UInt8.toNat_ofNat']; omega
theorem bytes_cells (v : BitVec 64) : (#[Value.int IntKind.u8 (↑v.toNat % 256), Value.int IntKind.u8 (↑v.toNat / 256 % 256),
                Value.int IntKind.u8 (↑v.toNat / 65536 % 256), Value.int IntKind.u8 (↑v.toNat / 16777216 % 256),
                Value.int IntKind.u8 (↑v.toNat / 4294967296 % 256),
                Value.int IntKind.u8 (↑v.toNat / 1099511627776 % 256),
                Value.int IntKind.u8 (↑v.toNat / 281474976710656 % 256),
                Value.int IntKind.u8 (↑v.toNat / 72057594037927936)] : Array Value) = bytesV (bytesL v 8) := by
  have e : bytesL v 8 = [byteU v 0, byteU v 1, byteU v 2, byteU v 3, byteU v 4, byteU v 5, byteU v 6, byteU v 7] := rfl
  rw [e]
  have hv := v.isLt
  have h7 : (v.toNat : Int) / 72057594037927936 = (v.toNat : Int) / 72057594037927936 % 256 := by omega
  simp only [bytesV, List.map_cons, List.map_nil, byteU_val]
  rw [h7]
  simp
theorem conv8 (w : World) (v : BitVec 64) (n : Nat) (hn : n ≤ 8) : (convert 84 9 (.slice (some ⟨w.heap.size, 0, none⟩) n 8)).run Tryz.prog (w.alloc (.cells #[Value.int IntKind.u8 (↑v.toNat % 256), Value.int IntKind.u8 (↑v.toNat / 256 % 256),
                Value.int IntKind.u8 (↑v.toNat / 65536 % 256), Value.int IntKind.u8 (↑v.toNat / 16777216 % 256),
                Value.int IntKind.u8 (↑v.toNat / 4294967296 % 256),
                Value.int IntKind.u8 (↑v.toNat / 1099511627776 % 256),
                Value.int IntKind.u8 (↑v.toNat / 281474976710656 % 256),
                Value.int IntKind.u8 (↑v.toNat / 72057594037927936)] 124)) = .ok (.string (bytesB v n)) (w.alloc (.cells #[Value.int IntKind.u8 (↑v.toNat % 256), Value.int IntKind.u8 (↑v.toNat / 256 % 256),
                Value.int IntKind.u8 (↑v.toNat / 65536 % 256), Value.int IntKind.u8 (↑v.toNat / 16777216 % 256),
                Value.int IntKind.u8 (↑v.toNat / 4294967296 % 256),
                Value.int IntKind.u8 (↑v.toNat / 1099511627776 % 256),
                Value.int IntKind.u8 (↑v.toNat / 281474976710656 % 256),
                Value.int IntKind.u8 (↑v.toNat / 72057594037927936)] 124)) := by
  rw [bytes_cells, run_convert_bytes_string _ _ _ 5 _ _ _ Tryz.underlying84 Tryz.underlying5 Tryz.underlying9]
  rw [row_to_str _ w.heap.size 0 n 8 (bytesL v 8) 124 (0, 0) (MapKept.heap_alloc w _).1 (by simp [bytesL]; omega)]
  rfl
theorem sl8h (b hi : Nat) (h2 : hi ≤ 8) (W : World) :
    (Instr.sliceAt 124 (.pointer (some ⟨b, 0, none⟩)) none (some (.int .i64 (hi : Int))) none).run Tryz.prog W = .ok (.slice (some ⟨b, 0, none⟩) hi 8) W := by
  have hl : Tryz.prog.arrayLen 124 = 8 := by kernel_rfl
  have hz : ∀ W, (sizeOf (Tryz.prog.elem 124)).run Tryz.prog W = .ok 1 W := fun _ => by kernel_rfl
  rw [run_sliceAt_array_h W 124 ⟨b, 0, none⟩ (by kernel_rfl) .i64 hi (by omega) (by rw [hl]; omega), hz, hl]
  simp [Result.andThen, slicedAt, Addr.add]
theorem bytes_mid (v : BitVec 64) (n : Nat) (w : World) (hn : n ≤ 8) :
    Calls Tryz.prog 26 #[U v, .int .i64 n] w fun e w' => e = .returned (.string (bytesB v n)) ∧ Below w.heap.size w w' := by
  have hv := u_lt v
  have hcv := conv8 w v n hn
  have hsl := sl8h w.heap.size n hn
  go_enter Tryz.func26, Tryz.ntmps26
  go_wp2
  go_rounds 9
  go_ret
  exact ⟨rfl, (Below.refl _ _).alloc (Nat.le_refl _) _⟩
theorem bytes_low (v : BitVec 64) (n : Int) (w : World) (hn : n < 0) :
    Calls Tryz.prog 26 #[U v, .int .i64 n] w fun e w' => e = .returned (.string (bytesB v 0)) ∧ Below w.heap.size w w' := by
  have hv := u_lt v
  have hcv := conv8 w v 0 (by omega)
  have hsl : ∀ W, (Instr.sliceAt 124 (.pointer (some ⟨w.heap.size, 0, none⟩)) none (some (.int .i64 0)) none).run Tryz.prog W = .ok (.slice (some ⟨w.heap.size, 0, none⟩) 0 8) W := sl8h w.heap.size 0 (by omega)
  go_enter Tryz.func26, Tryz.ntmps26
  go_wp2
  go_rounds 9
  go_ret
  exact ⟨rfl, (Below.refl _ _).alloc (Nat.le_refl _) _⟩
theorem bytes_high (v : BitVec 64) (n : Int) (w : World) (hn : 8 < n) :
    Calls Tryz.prog 26 #[U v, .int .i64 n] w fun e w' => e = .returned (.string (bytesB v 8)) ∧ Below w.heap.size w w' := by
  have hv := u_lt v
  have hcv := conv8 w v 8 (by omega)
  have hsl : ∀ W, (Instr.sliceAt 124 (.pointer (some ⟨w.heap.size, 0, none⟩)) none (some (.int .i64 8)) none).run Tryz.prog W = .ok (.slice (some ⟨w.heap.size, 0, none⟩) 8 8) W := sl8h w.heap.size 8 (by omega)
  go_enter Tryz.func26, Tryz.ntmps26
  go_wp2
  go_rounds 9
  go_ret
  exact ⟨rfl, (Below.refl _ _).alloc (Nat.le_refl _) _⟩
theorem bytes_any (v : BitVec 64) (n : Int) (w : World) :
    Calls Tryz.prog 26 #[U v, .int .i64 n] w fun e w' => e = .returned (.string (bytesB v (held 0 8 n))) ∧ Below w.heap.size w w' := by
  by_cases h1 : n < 0
  · rw [show held 0 8 n = 0 by unfold held; rw [if_pos h1]; rfl]; exact bytes_low v n w h1
  · by_cases h2 : n ≤ 8
    · rw [show held 0 8 n = n.toNat by unfold held; rw [if_neg h1, if_neg (by omega)]]
      obtain ⟨m, rfl⟩ : ∃ m : Nat, n = (m : Int) := ⟨n.toNat, by omega⟩
      exact bytes_mid v m w (by omega)
    · rw [show held 0 8 n = 8 by unfold held; rw [if_neg h1, if_pos (by omega)]; rfl]; exact bytes_high v n w (by omega)
end Go.Proofs.YtfehilinnalflaaGreat
namespace Go.Proofs.YtfehilinnalflaaGreat
open Go.RowKit
set_option linter.unusedSimpArgs false
set_option linter.unusedVariables false
set_option maxRecDepth 100000
theorem infoB : (Tryz.prog.info? 5).map (fun i => (i.zero, i.size, i.bytes)) = some (some (.int .u8 0), 1, 1) := by kernel_rfl
theorem bytesL_length (v : BitVec 64) (k : Nat) (hk : k ≤ 8) : (bytesL v k).length = k := by unfold bytesL; simp; omega
theorem byte_val (v : BitVec 64) (k : Nat) : (v.toNat : Int) / 2 ^ (8 * k) % 256 = ((byteU v k).toNat : Int) := by
  have e : (2 : Int) ^ (8 * k) = ((256 ^ k : Nat) : Int) := by
    rw [Int.pow_mul]; rw [Int.natCast_pow]; rfl
  rw [byteU_val, e]
end Go.Proofs.YtfehilinnalflaaGreat
namespace Go.Proofs.YtfehilinnalflaaGreat
open Go.RowKit
set_option linter.unusedSimpArgs false
set_option linter.unusedVariables false
set_option maxRecDepth 100000
def Gives (P : Program) (f : FuncId) (args : Array Value) (v : Value) : Prop := ∀ w : World, Calls P f args w fun e w' => e = .returned v ∧ Below w.heap.size w w'
theorem Gives.of_same {P : Program} {f : FuncId} {args : Array Value} {v : Value} (h : ∀ w, Calls P f args w fun e w' => e = .returned v ∧ w = w') : Gives P f args v :=
  fun w => (h w).mono fun e w' ⟨he, hw⟩ => ⟨he, by rw [hw]; exact Below.refl _ _⟩
theorem Gives.of_drew {P : Program} {f : FuncId} {args : Array Value} {v : Value} (h : ∀ w, Calls P f args w fun e w' => e = .returned v ∧ ∃ k, w' = w.drewN k) : Gives P f args v :=
  fun w => (h w).mono fun e w' ⟨he, k, hw⟩ => ⟨he, by rw [hw]; exact ⟨rfl, rfl, rfl, Nat.le_refl _, fun _ _ => rfl⟩⟩
theorem Gives.on {P : Program} {f : FuncId} {args : Array Value} {v : Value} {W w : World} (h : Gives P f args v) (HB : Below W.heap.size W w) :
    Calls P f args w fun e w' => e = .returned v ∧ Below W.heap.size W w' :=
  (h w).mono fun e w' ⟨he, hb⟩ => ⟨he, HB.trans (hb.mono HB.size)⟩
theorem Gives.to {P : Program} {f : FuncId} {args : Array Value} {v u : Value} (h : Gives P f args v) (e : v = u) : Gives P f args u := e ▸ h
theorem sext_b (v : BitVec 64) (n : Int) : Gives Tryz.prog 201 #[U v, .int .i64 n] (U (sextB v (wOf n))) := .of_same (sext_any v n)
theorem zext_b (v : BitVec 64) (n : Int) : Gives Tryz.prog 200 #[U v, .int .i64 n] (U (zextB v (wOf n))) := .of_same (zext_any v n)
theorem bits_b (v : BitVec 64) (lo n : Int) : Gives Tryz.prog 78 #[U v, .int .i64 lo, .int .i64 n] (U (bitsB v (loOf lo) (nOf lo n))) := .of_drew (bits_any v lo n)
theorem set_b (v : BitVec 64) (lo n : Int) (x : BitVec 64) : Gives Tryz.prog 79 #[U v, .int .i64 lo, .int .i64 n, U x] (U (setB v (loOf lo) (nOf lo n) x)) := .of_drew (set_any v lo n x)
theorem bytes_b (v : BitVec 64) (n : Int) : Gives Tryz.prog 26 #[U v, .int .i64 n] (.string (bytesB v (held 0 8 n))) := bytes_any v n
theorem high_b (v x : BitVec 64) : Gives Tryz.prog 223 #[U v, U x] (.bool (v.slt x)) := .of_same (high_any v x)
end Go.Proofs.YtfehilinnalflaaGreat
namespace Go.Proofs.YtfehilinnalflaaGreat
open Go.RowKit
set_option linter.unusedSimpArgs false
set_option linter.unusedVariables false
set_option maxRecDepth 100000
theorem u8_open {a : Int} (h : (Lit.int .u8 a).wf = true) : ∃ x : Nat, a = (x : Int) ∧ x < 256 := by
  have h2 := h
  simp [Lit.wf, IntKind.min, IntKind.max, IntKind.signed, IntKind.bits] at h2
  exact ⟨a.toNat, by omega, by omega⟩
theorem max_run {P : Program} (ats : Array TypeId) (ty : TypeId) (k : IntKind) (a b c : Int) (h : (if a < b then b else a) = c) (W : World) : (Builtin.max_ ats ty #[.int k a, .int k b]).run P W = .ok (.int k c) W := by
  have e : Builtin.max_ ats ty #[.int k a, .int k b] = pure (.int k c) := by rw [← h]; simp [Builtin.max_, Builtin.max2]
  rw [e]; rfl
theorem U_of (x : Nat) (h : x < 18446744073709551616) : U (BitVec.ofNat 64 x) = .int .u64 (x : Int) := by
  unfold U; rw [BitVec.toNat_ofNat, Nat.mod_eq_of_lt h]
theorem ofNat_toNat (x : Nat) (h : x < 18446744073709551616) : (BitVec.ofNat 64 x).toNat = x := by rw [BitVec.toNat_ofNat, Nat.mod_eq_of_lt h]
theorem Gives.run {P : Program} {f : FuncId} {args : Array Value} {v : Value} (h : Gives P f args v) (w : World) : Calls P f args w fun e w' => e = .returned v ∧ Below w.heap.size w w' := h w
end Go.Proofs.YtfehilinnalflaaGreat
namespace Go.Proofs.YtfehilinnalflaaGreat
open Go.RowKit Go.BigFrame
set_option linter.unusedSimpArgs false
set_option linter.unusedVariables false
set_option maxRecDepth 100000
structure Beyond (w : World) where
  to : World
  ok : Below w.heap.size w to
instance (w : World) : Inhabited (Beyond w) := ⟨⟨w, Below.refl _ _⟩⟩
theorem Gives.at_ {P : Program} {f : FuncId} {args : Array Value} {v : Value} {W : World} (h : Gives P f args v) (s : Beyond W) :
    Calls P f args s.to fun e w'' => e = .returned v ∧ ∃ s' : Beyond W, w'' = s'.to :=
  (h.on s.ok).mono fun e w'' ⟨he, hb⟩ => ⟨he, ⟨w'', hb⟩, rfl⟩
theorem wp_region_below {P : Program} {id : Nat} {Q : Exit → Act → World → Prop} {a : Act} {W w : World} {l : List Oper} (hm : P.follows .mixedOrders = true) (hB : Region.lexB .any l.toArray = true)
    (HB : Below W.heap.size W w)
    (h : wpQuiet P l.toArray (fun w' => ∃ s : Beyond W, w' = s.to) (fun a' => ∀ w', Below W.heap.size W w' → Q .normal a' w') l a) : (Code.region id l.toArray true).wp P Q a w :=
  wp_region_quiet (C := fun w' => ∃ s : Beyond W, w' = s.to) hm hB ⟨⟨_, HB.drew⟩, rfl⟩ (by
    have e : ∀ (Q1 Q2 : Act → Prop) (l2 : List Oper) (a : Act), (∀ a, Q1 a → Q2 a) → wpQuiet P l.toArray (fun w' => ∃ s : Beyond W, w' = s.to) Q1 l2 a → wpQuiet P l.toArray (fun w' => ∃ s : Beyond W, w' = s.to) Q2 l2 a := by
      intro Q1 Q2 l2
      induction l2 with
      | nil => intro a hq h; exact hq a h
      | cons o rest ih =>
        intro a hq h
        by_cases c : Region.wanted o (yielded l.toArray a.tmps) = true
        · simp only [wpQuiet, if_pos c] at h ⊢; exact Oper.quiet_mono (fun a ha => ih a hq ha) h
        · simp only [wpQuiet, if_neg c] at h ⊢; exact ih _ hq h
    exact e (fun a' => ∀ w', Below W.heap.size W w' → Q .normal a' w') _ _ _ (fun a' ha w' ⟨s, hs⟩ => by subst hs; exact ha _ s.ok) (by simpa using h))
theorem bytes_len (v : BitVec 64) (m : Nat) (hm : m ≤ 8) : (bytesB v m).size = m := by
  show (bytesL v m).toArray.size = m
  rw [List.size_toArray, bytesL_length v m hm]
end Go.Proofs.YtfehilinnalflaaGreat
