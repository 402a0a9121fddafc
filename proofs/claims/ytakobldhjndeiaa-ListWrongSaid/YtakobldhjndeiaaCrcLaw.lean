/-
  Plain laws of bytes with their sum behind: what is right, and what changes of neighbours do.
-/
import Derived.Test.YtakobldhjndeiaaCrcPut
namespace Go.Proofs.Ytakobldhjndeiaa

theorem be_word (a b c d : UInt8) : Crc.be (Crc.wordTop (Crc.bitsOf [a, b, c, d])) = [a, b, c, d] := by
  have hl : (Crc.bitsOf [a, b, c, d]).length = 32 := by simp [Crc.bitsOf, Crc.byteBits]
  have hb : ∀ i, i < 32 → (Crc.wordTop (Crc.bitsOf [a, b, c, d])).getLsbD i = (Crc.bitsOf [a, b, c, d]).getD (31 - i) false := by
    intro i hi
    have := Crc.wordTop_bit (Crc.bitsOf [a, b, c, d]) (31 - i) (by omega) (by omega)
    rw [show 31 - (31 - i) = i by omega] at this
    exact this
  have hx : ∀ (x : UInt8) (k : Nat), (∀ i, i < 8 → (Crc.wordTop (Crc.bitsOf [a, b, c, d])).getLsbD (k + i) = x.toBitVec.getLsbD i) → (⟨(Crc.wordTop (Crc.bitsOf [a, b, c, d]) >>> k).setWidth 8⟩ : UInt8) = x := by
    intro x k h
    apply UInt8.toBitVec_inj.1
    apply BitVec.eq_of_getLsbD_eq
    intro i hi
    rw [BitVec.getLsbD_setWidth, BitVec.getLsbD_ushiftRight, h i hi]
    simp [hi]
  have h0 : (Crc.wordTop (Crc.bitsOf [a, b, c, d])) = (Crc.wordTop (Crc.bitsOf [a, b, c, d])) >>> 0 := by simp
  unfold Crc.be
  rw [hx a 24, hx b 16, hx c 8]
  · have := hx d 0
    rw [← h0] at this
    rw [this]
    intro i hi
    rw [hb _ (by omega)]
    rcases (show i = 0 ∨ i = 1 ∨ i = 2 ∨ i = 3 ∨ i = 4 ∨ i = 5 ∨ i = 6 ∨ i = 7 by omega) with rfl | rfl | rfl | rfl | rfl | rfl | rfl | rfl <;> simp [Crc.bitsOf, Crc.byteBits]
  all_goals
    intro i hi
    rw [hb _ (by omega)]
    rcases (show i = 0 ∨ i = 1 ∨ i = 2 ∨ i = 3 ∨ i = 4 ∨ i = 5 ∨ i = 6 ∨ i = 7 by omega) with rfl | rfl | rfl | rfl | rfl | rfl | rfl | rfl <;> simp [Crc.bitsOf, Crc.byteBits]

/-- Bytes are right as soon as the register, over them all, holds the residue. -/
theorem rightB_iff (l : List UInt8) (h4 : 4 ≤ l.length) : rightB l = true ↔ Crc.regBits (~~~ 0#32) (Crc.bitsOf l) = Crc.residue := by
  obtain ⟨d, t, hd, ht, hl⟩ : ∃ d t, d = l.take (l.length - 4) ∧ t = l.drop (l.length - 4) ∧ l = d ++ t := ⟨_, _, rfl, rfl, (List.take_append_drop _ _).symm⟩
  have htl : t.length = 4 := by rw [ht, List.length_drop]; omega
  unfold rightB
  rw [← hd, ← ht]
  simp only [h4, decide_true, Bool.true_and, beq_iff_eq]
  match t, htl with
  | [a, b, c, e], _ =>
    rw [hl, ← be_word a b c e, ← Crc.right_iff]
    constructor
    · intro h; have := congrArg (fun x => Crc.wordTop (Crc.bitsOf x)) h; simp only [Crc.word_be] at this; exact this.symm
    · intro h; rw [h]

theorem right_put (bs : List UInt8) : rightB (bs ++ Crc.be (Crc.sum bs)) = true := by
  rw [rightB_iff _ (by simp [be_length]), ← Crc.right_iff]

/-- Bits changed within 32 neighbours make it wrong. -/
theorem right_burst (x y : List UInt8) (hx : rightB x = true) (h4 : 4 ≤ x.length) (hl : y.length = x.length) (i j : Nat) (m : List Bool) (hm : m.length ≤ 32) (hij : i + m.length + j = 8 * x.length)
    (hy : Crc.bitsOf y = List.zipWith xor (Crc.bitsOf x) (List.replicate i false ++ m ++ List.replicate j false)) : rightB y = true ↔ m = List.replicate m.length false := by
  rw [rightB_iff y (by omega), hy]
  have h := Crc.regBits_xor (Crc.bitsOf x) (List.replicate i false ++ m ++ List.replicate j false) (~~~ 0#32) 0#32 (by rw [Crc.bitsOf_length]; simp; omega)
  rw [BitVec.xor_zero] at h
  rw [h, (rightB_iff x h4).1 hx, ← Crc.burst i j m hm]
  constructor
  · intro h
    have : Crc.residue ^^^ (Crc.residue ^^^ Crc.regBits 0#32 (List.replicate i false ++ m ++ List.replicate j false)) = Crc.residue ^^^ Crc.residue := by rw [h]
    rw [← BitVec.xor_assoc, BitVec.xor_self, BitVec.zero_xor] at this
    exact this
  · intro h; rw [h, BitVec.xor_zero]

theorem bitsOf_append (a b : List UInt8) : Crc.bitsOf (a ++ b) = Crc.bitsOf a ++ Crc.bitsOf b := by simp [Crc.bitsOf]

theorem bitsOf_cons (c : UInt8) (l : List UInt8) : Crc.bitsOf (c :: l) = Crc.byteBits c ++ Crc.bitsOf l := by simp [Crc.bitsOf]

theorem zip_false (l : List Bool) (n : Nat) (h : l.length = n) : List.zipWith xor l (List.replicate n false) = l := by
  subst h
  induction l with
  | nil => rfl
  | cons a l ih => simp [List.replicate_succ, ih]

theorem byte_zero (c : UInt8) : Crc.byteBits c = List.replicate 8 false ↔ c = 0 := by
  have : ∀ c : BitVec 8, Crc.byteBits ⟨c⟩ = List.replicate 8 false ↔ c = 0#8 := by decide +kernel
  rw [show c = ⟨c.toBitVec⟩ from rfl, this c.toBitVec]
  constructor
  · intro h; rw [h]; rfl
  · intro h; exact congrArg UInt8.toBitVec h

/-- One byte changed. -/
theorem right_one (x : List UInt8) (hx : rightB x = true) (h4 : 4 ≤ x.length) (p : Nat) (hp : p < x.length) (c : UInt8) : rightB (x.set p (x[p] ^^^ c)) = (c == 0) := by
  have hs : x.set p (x[p] ^^^ c) = x.take p ++ (x[p] ^^^ c) :: x.drop (p + 1) := by rw [List.set_eq_take_append_cons_drop, if_pos hp]
  have hxx : x = x.take p ++ x[p] :: x.drop (p + 1) := by rw [List.getElem_cons_drop, List.take_append_drop]
  have hb : Crc.bitsOf (x.set p (x[p] ^^^ c)) = List.zipWith xor (Crc.bitsOf x) (List.replicate (8 * p) false ++ Crc.byteBits c ++ List.replicate (8 * (x.length - (p + 1))) false) := by
    have e1 : Crc.bitsOf x = Crc.bitsOf (x.take p) ++ Crc.byteBits x[p] ++ Crc.bitsOf (x.drop (p + 1)) := by
      exact (congrArg Crc.bitsOf hxx).trans (by rw [bitsOf_append, bitsOf_cons, List.append_assoc])
    have e2 : Crc.bitsOf (x.set p (x[p] ^^^ c)) = Crc.bitsOf (x.take p) ++ Crc.byteBits (x[p] ^^^ c) ++ Crc.bitsOf (x.drop (p + 1)) := by
      rw [hs]; simp [Crc.bitsOf]
    rw [e1, e2, Crc.byteBits_xor]
    have l1 : (Crc.bitsOf (x.take p)).length = 8 * p := by rw [Crc.bitsOf_length, List.length_take, Nat.min_eq_left (by omega)]
    have l2 : (Crc.bitsOf (x.drop (p + 1))).length = 8 * (x.length - (p + 1)) := by rw [Crc.bitsOf_length, List.length_drop]
    rw [List.zipWith_append (by simp [l1, Crc.byteBits]), List.zipWith_append (by simp [l1]), zip_false _ _ l1, zip_false _ _ l2]
  have h := right_burst x _ hx h4 (List.length_set ..) (8 * p) (8 * (x.length - (p + 1))) (Crc.byteBits c) (by show 8 ≤ 32; omega) (by show 8 * p + 8 + _ = _; omega) hb
  rw [show (Crc.byteBits c).length = 8 from rfl, byte_zero] at h
  rw [Bool.eq_iff_iff, h]
  simp

theorem right_short (x : List UInt8) (h : x.length < 4) : rightB x = false := by simp [rightB, show ¬ 4 ≤ x.length by omega]
end Go.Proofs.Ytakobldhjndeiaa
