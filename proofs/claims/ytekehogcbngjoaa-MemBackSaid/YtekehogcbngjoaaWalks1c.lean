/- The walk of WordParts. -/
import Derived.Test.YtekehogcbngjoaaWalks1b
import Derived.BigQuiet
namespace Go.Proofs.Ytekehogcbngjoaa
open Go.RowKit Go.BigFrame
set_option linter.unusedSimpArgs false
set_option linter.unusedVariables false

/-- A world behind w: at most new blocks. -/
structure Beyond (w : World) where
  to : World
  ok : Below w.heap.size w to
instance (w : World) : Inhabited (Beyond w) := ⟨⟨w, Below.refl _ _⟩⟩
theorem Gives.at_ {P : Program} {f : FuncId} {args : Array Value} {v : Value} {W : World} (h : Gives P f args v) (s : Beyond W) :
    Calls P f args s.to fun e w'' => e = .returned v ∧ ∃ s' : Beyond W, w'' = s'.to :=
  (h.on s.ok).mono fun e w'' ⟨he, hb⟩ => ⟨he, ⟨w'', hb⟩, rfl⟩
/-- A region that draws its order, whose calls make at most new blocks: one walk serves every order. -/
theorem wp_region_below {P : Program} {id : Nat} {Q : Exit → Act → World → Prop} {a : Act} {W w : World} {l : List Oper} (hm : P.follows .mixedOrders = true) (hB : Region.lexB .any l.toArray = true)
    (HB : Below W.heap.size W w)
    (h : wpQuiet P l.toArray (fun w' => ∃ s : Beyond W, w' = s.to) (fun a' => ∀ w', Below W.heap.size W w' → Q .normal a' w') l a) : (Code.region id l.toArray true).wp P Q a w :=
  wp_region_quiet (C := fun w' => ∃ s : Beyond W, w' = s.to) hm hB ⟨⟨_, HB.drew⟩, rfl⟩ (by
    have e : ∀ (Q1 Q2 : Act → Prop) (l2 : List Oper) (a : Act), (∀ a, Q1 a → Q2 a) → wpQuiet P l.toArray (fun w' => ∃ s : Beyond W, w' = s.to) Q1 l2 a → wpQuiet P l.toArray (fun w' => ∃ s : Beyond W, w' = s.to) Q2 l2 a := by
      intro Q1 Q2 l2
      induction l2 with
      | nil => intro a hq h; exact hq a h
      | cons o rest ih =>
        intro a hq h
        by_cases c : Region.wanted o (yielded l.toArray a.tmps) = true
        · simp only [wpQuiet, if_pos c] at h ⊢; exact Oper.quiet_mono (fun a ha => ih a hq ha) h
        · simp only [wpQuiet, if_neg c] at h ⊢; exact ih _ hq h
    exact e (fun a' => ∀ w', Below W.heap.size W w' → Q .normal a' w') _ _ _ (fun a' ha w' ⟨s, hs⟩ => by subst hs; exact ha _ s.ok) (by simpa using h))

theorem part_join (v : BitVec 64) (k : Nat) (hk : k < 64) : bitsB v 0 k ||| (bitsB v k (64 - k) <<< k) = v := by
  apply BitVec.eq_of_getLsbD_eq; intro i hi
  rw [BitVec.getLsbD_or, BitVec.getLsbD_shiftLeft, bits_bit, bits_bit]
  by_cases c : i < k
  · simp [c, hi]
  · simp [c, hi, show k + (i - k) = i by omega, show i - k < 64 - k by omega, show i - k < 64 by omega]
theorem part_set (v : BitVec 64) (k : Nat) (hk : k < 64) : setB (setB 0#64 0 k (bitsB v 0 k)) k (64 - k) (bitsB v k (64 - k)) = v := by
  apply BitVec.eq_of_getLsbD_eq; intro i hi
  rw [set_bit _ _ _ _ _ hi]
  by_cases c : k ≤ i
  · rw [if_pos (by omega), bits_bit, show k + (i - k) = i by omega]; simp [show i - k < 64 - k by omega, show i - k < 64 by omega]
  · rw [if_neg (by omega), set_bit _ _ _ _ _ hi, if_pos (by omega), bits_bit]; simp [hi, show i < k by omega]
theorem part_get (v : BitVec 64) (m : Nat) (hm : m ≤ 8) : getB (bytesB v 8) 0 m = bitsB v 0 (8 * m) := by
  apply BitVec.eq_of_getLsbD_eq; intro i hi
  have := get_bytes v 8 (by omega) 0 m i hi
  rw [show ((0 : Nat) : Int) = 0 from rfl] at this
  rw [this, bits_bit]; simp [hi]
theorem part_rest (v : BitVec 64) (m : Nat) (hm : m < 8) : getB (bytesB v 8) m 8 = bitsB v (8 * m) (64 - 8 * m) := by
  apply BitVec.eq_of_getLsbD_eq; intro i hi
  have := get_bytes v 8 (by omega) m 8 i hi
  rw [show ((8 : Nat) : Int) = 8 from rfl] at this
  rw [this, bits_bit]
  by_cases c : 8 * m + i < 64
  · simp [hi, c, show i < 64 - 8 * m by omega]
  · simp [hi, c, show ¬ i < 64 - 8 * m by omega]
theorem part_last (v : BitVec 64) : getB (bytesB v 8) 8 8 = 0#64 := by
  apply BitVec.eq_of_getLsbD_eq; intro i hi
  have := get_bytes v 8 (by omega) 8 8 i hi
  rw [show ((8 : Nat) : Int) = 8 from rfl] at this
  rw [this]; simp
theorem bytes_take (v : BitVec 64) (m : Nat) (hm : m ≤ 8) : (bytesB v 8).extract 0 m = bytesB v m := by
  have e : ∀ (a b : ByteArray), a.data.toList = b.data.toList → a = b := by
    intro a b h; cases a; cases b; simp at h; simp [h]
  apply e
  rw [ByteArray.data_extract, Array.toList_extract, List.extract_eq_take_drop]
  simp only [bytesB]
  unfold bytesL
  rw [Nat.sub_zero, List.drop_zero, List.take_take, Nat.min_eq_left hm]
theorem bytes_len (v : BitVec 64) (m : Nat) (hm : m ≤ 8) : (bytesB v m).size = m := by
  show (bytesL v m).toArray.size = m
  rw [List.size_toArray, bytesL_length v m hm]

set_option maxHeartbeats 1000000 in
set_option maxRecDepth 100000 in
theorem walkWordParts (a0 a1 a2 : Int) (w0 : (Lit.int .u64 a0).wf = true) (w1 : (Lit.int .u8 a1).wf = true) (w2 : (Lit.int .u8 a2).wf = true) (w : World) :
    Calls Try.prog 6 #[.int .u64 a0, .int .u8 a1, .int .u8 a2] w fun e w' => e = .returned (.bool true) ∧ Below w.heap.size w w' := by
  obtain ⟨v, rfl⟩ := u64_open w0
  obtain ⟨c, rfl, hc⟩ := u8_open w1
  obtain ⟨n, rfl, hn⟩ := u8_open w2
  clear w0 w1 w2
  have HB := Below.refl w.heap.size w
  obtain ⟨k, hk⟩ : ∃ k : Nat, k = c % 64 := ⟨_, rfl⟩
  obtain ⟨m, hm⟩ : ∃ m : Nat, m = n % 9 := ⟨_, rfl⟩
  have e1 : ((c : Int) % 64) = (k : Int) := by omega
  have e2 : ((n : Int) % 9) = (m : Int) := by omega
  have hk2 : (k : Int) ≤ 63 := by omega
  have hm2 : (m : Int) ≤ 8 := by omega
  clear hk hm hc hn
  have f0 : loOf 0 = 0 := by decide
  have f1 : nOf 0 (k : Int) = k := by rw [nOf_in (by omega) (by omega) (by omega) (by omega)]; omega
  have f2 : loOf (k : Int) = k := by rw [loOf_in (by omega) (by omega)]; omega
  have f3 : nOf (k : Int) (64 - (k : Int)) = 64 - k := by rw [nOf_in (by omega) (by omega) (by omega) (by omega)]; omega
  have f4 : held 0 8 8 = 8 := by decide
  have f5 : held 0 8 (m : Int) = m := by unfold held; rw [if_neg (by omega), if_neg (by omega)]; omega
  have q1 := part_join v k (by omega)
  have q1b : bits .or .u64 ((bitsB v 0 k).toNat : Int) (IntKind.u64.wrap (((bitsB v k (64 - k)).toNat : Int) * 2 ^ k)) = (v.toNat : Int) := by rw [u_shl, u_or, q1]
  have q2 := part_set v k (by omega)
  have q3 := bytes_take v m (by omega)
  have q4 := part_get v m (by omega)
  have hsz := bytes_len v 8 (by omega)
  have s0 : Gives Try.prog 20 #[.int .u64 0, .int .i64 0, .int .i64 (k : Int), U (bitsB v 0 k)] (U (setB 0#64 (loOf 0) (nOf 0 (k : Int)) (bitsB v 0 k))) := set_b 0#64 0 k (bitsB v 0 k)
  by_cases h8 : m < 8
  · have f6 : nOf 0 (8 * (m : Int)) = 8 * m := by
      unfold nOf; rw [f0]; unfold held; rw [if_neg (by omega), if_neg (by omega)]; omega
    have q5 := part_rest v m h8
    have f7 : loOf (8 * (m : Int)) = 8 * m := by rw [loOf_in (by omega) (by omega)]; omega
    have f8 : nOf (8 * (m : Int)) 64 = 64 - 8 * m := by unfold nOf; rw [f7]; unfold held; (repeat' split) <;> omega
    have hm7 : (m : Int) ≤ 7 := by omega
    have hone : (1 : Int) ≤ 8 - (m : Int) := by omega
    clear q1 hm2 h8
    go_enter Try.func6, Try.ntmps6
    go_wp2_with (first
    | (go_at_call 13; refine (known_b.on HB).mono ?_; clear HB; rintro e w' ⟨rfl, HB⟩)
    | (go_at_call 18; refine ((bits_b _ _ _).on HB).mono ?_; clear HB; rintro e w' ⟨rfl, HB⟩)
    | (go_at_call 20; refine ((set_b _ _ _ _).on HB).mono ?_; clear HB; rintro e w' ⟨rfl, HB⟩)
    | (go_at_call 22; refine ((get_b _ _ _ (bytes_size _ _)).on HB).mono ?_; clear HB; rintro e w' ⟨rfl, HB⟩)
    | (go_at_call 24; refine ((bytes_b _ _).on HB).mono ?_; clear HB; rintro e w' ⟨rfl, HB⟩))
    refine wp_region_below (by kernel_rfl) (by kernel_rfl) HB ?_
    repeat (go_big_quiet_step ((first
    | (go_at_call 20; with_reducible exact (s0.at_ _))
    | (go_at_call 13; with_reducible exact (known_b.at_ _))
    | (go_at_call 18; with_reducible exact ((bits_b _ _ _).at_ _))
    | (go_at_call 20; with_reducible exact ((set_b _ _ _ _).at_ _))
    | (go_at_call 22; with_reducible exact ((get_b _ _ _ (bytes_size _ _)).at_ _))
    | (go_at_call 24; with_reducible exact ((bytes_b _ _).at_ _)))))
    refine wpQuiet_nil ?_
    intro w1 hb1
    clear HB
    go_wp2
    go_ret
    exact ⟨rfl, hb1⟩
  · obtain rfl : m = 8 := by omega
    have e2b : ((n : Int) % 9) = 8 := e2
    have f5b : held 0 8 8 = 8 := by decide
    have f6 : nOf 0 64 = 64 := by decide
    have q3b := q3
    have q4b : getB (bytesB v 8) 0 8 = bitsB v 0 64 := q4
    have q5 := part_last v
    clear e2 f5 q3 q4 q1 hm2 h8
    go_enter Try.func6, Try.ntmps6
    go_wp2_with (first
    | (go_at_call 13; refine (known_b.on HB).mono ?_; clear HB; rintro e w' ⟨rfl, HB⟩)
    | (go_at_call 18; refine ((bits_b _ _ _).on HB).mono ?_; clear HB; rintro e w' ⟨rfl, HB⟩)
    | (go_at_call 20; refine ((set_b _ _ _ _).on HB).mono ?_; clear HB; rintro e w' ⟨rfl, HB⟩)
    | (go_at_call 22; refine ((get_b _ _ _ (bytes_size _ _)).on HB).mono ?_; clear HB; rintro e w' ⟨rfl, HB⟩)
    | (go_at_call 24; refine ((bytes_b _ _).on HB).mono ?_; clear HB; rintro e w' ⟨rfl, HB⟩))
    refine wp_region_below (by kernel_rfl) (by kernel_rfl) HB ?_
    repeat (go_big_quiet_step ((first
    | (go_at_call 20; with_reducible exact (s0.at_ _))
    | (go_at_call 13; with_reducible exact (known_b.at_ _))
    | (go_at_call 18; with_reducible exact ((bits_b _ _ _).at_ _))
    | (go_at_call 20; with_reducible exact ((set_b _ _ _ _).at_ _))
    | (go_at_call 22; with_reducible exact ((get_b _ _ _ (bytes_size _ _)).at_ _))
    | (go_at_call 24; with_reducible exact ((bytes_b _ _).at_ _)))))
    refine wpQuiet_nil ?_
    intro w1 hb1
    clear HB
    go_wp2
    go_ret
    exact ⟨rfl, hb1⟩
end Go.Proofs.Ytekehogcbngjoaa
