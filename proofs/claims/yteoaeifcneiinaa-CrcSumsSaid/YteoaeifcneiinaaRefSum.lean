/-
  The reference's sum as a plain law: bits, from which the polynomial is taken away, leave what the register holds.
-/
import Derived.Test.YteoaeifcneiinaaCrc
namespace Go.Proofs.Yteoaeifcneiinaa.Crc

def b2 (b : Bool) : UInt8 := if b then 1 else 0
def terms : List Nat := [0, 6, 9, 10, 16, 20, 21, 22, 24, 25, 27, 28, 30, 31, 32]

/-- The bits of a message, 32 noughts behind. -/
def msg (bs : List UInt8) : List Bool := bitsOf bs ++ List.replicate 32 false
theorem msg_length (bs : List UInt8) : (msg bs).length = 8 * bs.length + 32 := by simp [msg, bitsOf_length]

/-- The register behind the first bits. -/
def regAt (m : List Bool) (i : Nat) : B32 := regBits (~~~ 0#32) (m.take i)
theorem regAt_succ (m : List Bool) (i : Nat) (h : i < m.length) : regAt m (i + 1) = bitStep (regAt m i) m[i] := by
  unfold regAt
  rw [List.take_succ_eq_append_getElem h, regBits_append]
  rfl
theorem regAt_zero (m : List Bool) : regAt m 0 = ~~~ 0#32 := by simp [regAt, regBits]
theorem regAt_msg (bs : List UInt8) : regAt (msg bs) (8 * bs.length) = reg (~~~ 0#32) bs := by
  rw [reg_bits, regAt, msg, List.take_left' (by rw [bitsOf_length])]

/-- What the bits l are behind i steps. -/
def Inv (m l : List Bool) (i : Nat) : Prop :=
  l.length = m.length ∧ (∀ t, t < 32 → l.getD (i + t) false = (m.getD (i + t) false ^^ (regAt m i).getLsbD (31 - t))) ∧ ∀ j, i + 32 ≤ j → l.getD j false = m.getD j false

/-- The polynomial's bits. -/
theorem poly_bit : ∀ t : Fin 32, poly.getLsbD (31 - t) = decide (t.val + 1 ∈ terms) := by decide

theorem inv_start (m l : List Bool) (hl : l.length = m.length) (hm : 32 ≤ m.length) (h : ∀ j, j < m.length → l.getD j false = (m.getD j false ^^ decide (j < 32))) : Inv m l 0 := by
  refine ⟨hl, fun t ht => ?_, fun j hj => ?_⟩
  · rw [regAt_zero, Nat.zero_add, h t (by omega), BitVec.getLsbD_not, BitVec.getLsbD_zero]
    simp only [ht, show 31 - t < 32 by omega, decide_true, Bool.not_false, Bool.and_true]
  · by_cases e : j < m.length
    · rw [h j e]; simp [show ¬ j < 32 by omega]
    · simp [List.getD, show l.length ≤ j by omega, show m.length ≤ j by omega]

/-- The bit that a step looks at. -/
theorem inv_head {m l : List Bool} {i : Nat} (h : Inv m l i) (hi : i < m.length) : l.getD i false = (regAt m i ^^^ topBit m[i]).msb := by
  have := h.2.1 0 (by omega)
  rw [Nat.add_zero] at this
  rw [this, BitVec.msb_xor, BitVec.msb_eq_getLsbD_last, BitVec.msb_eq_getLsbD_last, topBit_top]
  simp only [List.getD, List.getElem?_eq_getElem hi, Option.getD_some]
  rw [Bool.xor_comm]

theorem low_shift (r : B32) (t : Nat) (ht : t < 32) : (r <<< 1).getLsbD (31 - t) = if t = 31 then false else r.getLsbD (31 - (t + 1)) := by
  rw [BitVec.getLsbD_shiftLeft]
  by_cases e : t = 31
  · subst e; simp
  · rw [if_neg e]
    simp [show 31 - t < 32 by omega, show ¬ 31 - t < 1 by omega, show 31 - t - 1 = 31 - (t + 1) by omega]

theorem top_shift (r : B32) (b : Bool) : (r ^^^ topBit b) <<< 1 = r <<< 1 := by
  rw [BitVec.shiftLeft_xor_distrib]
  have : topBit b <<< 1 = 0#32 := by cases b <;> decide
  rw [this, BitVec.xor_zero]

/-- One step: where the bit is set the polynomial's bits are turned. -/
theorem inv_step {m l l' : List Bool} {i : Nat} (h : Inv m l i) (hi : i + 32 < m.length) (hl' : l'.length = m.length)
    (h' : ∀ j, j < m.length → l'.getD j false = (l.getD j false ^^ (l.getD i false && decide (∃ t ∈ terms, j = i + t)))) : Inv m l' (i + 1) := by
  have hb := inv_head h (by omega)
  obtain ⟨b, hbb⟩ : ∃ b, b = l.getD i false := ⟨_, rfl⟩
  rw [← hbb] at hb h'
  refine ⟨hl', fun t ht => ?_, fun j hj => ?_⟩
  · rw [h' (i + 1 + t) (by omega), regAt_succ m i (by omega)]
    have hreg : (bitStep (regAt m i) m[i]).getLsbD (31 - t) = ((regAt m i <<< 1).getLsbD (31 - t) ^^ (b && poly.getLsbD (31 - t))) := by
      unfold bitStep step
      rw [← hb, top_shift]
      cases b
      · simp
      · rw [if_pos rfl, BitVec.getLsbD_xor]; simp
    rw [hreg, low_shift _ t ht]
    have hp := poly_bit ⟨t, ht⟩
    simp only at hp
    rw [hp]
    have hd : decide (∃ u ∈ terms, i + 1 + t = i + u) = decide (t + 1 ∈ terms) := by
      rw [decide_eq_decide]
      constructor
      · rintro ⟨u, hu, e⟩; rw [show t + 1 = u by omega]; exact hu
      · intro hu; exact ⟨t + 1, hu, by omega⟩
    rw [hd]
    have hcell : l.getD (i + 1 + t) false = (m.getD (i + 1 + t) false ^^ if t = 31 then false else (regAt m i).getLsbD (31 - (t + 1))) := by
      by_cases e : t = 31
      · rw [if_pos e, h.2.2 _ (by omega), Bool.xor_false]
      · rw [if_neg e]
        have := h.2.1 (t + 1) (by omega)
        rw [show i + (t + 1) = i + 1 + t by omega] at this
        exact this
    rw [hcell, Bool.xor_assoc]
  · by_cases e : j < m.length
    · rw [h' j e, h.2.2 j (by omega)]
      have : decide (∃ t ∈ terms, j = i + t) = false := by
        rw [decide_eq_false_iff_not]
        rintro ⟨t, ht, e2⟩
        have : ∀ t ∈ terms, t ≤ 32 := by decide
        have := this t ht
        omega
      rw [this, Bool.and_false, Bool.xor_false]
    · simp [List.getD, show l'.length ≤ j by omega, show m.length ≤ j by omega]

/-- At the end the bits left are the register's. -/
theorem inv_end {bs : List UInt8} {l : List Bool} (h : Inv (msg bs) l (8 * bs.length)) (t : Nat) (ht : t < 32) : l.getD (8 * bs.length + t) false = !(sum bs).getLsbD (31 - t) := by
  rw [h.2.1 t ht, regAt_msg]
  have : (msg bs).getD (8 * bs.length + t) false = false := by
    unfold msg
    rw [List.getD_eq_getElem?_getD, List.getElem?_append_right (by rw [bitsOf_length]; omega), bitsOf_length, List.getElem?_replicate]
    rw [if_pos (by omega)]; rfl
  rw [this, sum, BitVec.getLsbD_not]
  simp [show 31 - t < 32 by omega]

theorem halves (S k : Nat) : S / 2 ^ k = S / 2 ^ (k + 1) * 2 + S / 2 ^ k % 2 := by
  rw [Nat.pow_succ, ← Nat.div_div_eq_div_mul]
  omega

/-- The number that the bits left, turned, make. -/
theorem word_step (s : B32) (t : Nat) (ht : t < 32) : s.toNat / 2 ^ (32 - (t + 1)) = s.toNat / 2 ^ (32 - t) * 2 + (s.getLsbD (31 - t)).toNat := by
  rw [show 32 - t = (32 - (t + 1)) + 1 by omega]
  rw [halves s.toNat (32 - (t + 1))]
  congr 1
  · have := Nat.testBit_eq_decide_div_mod_eq (x := s.toNat) (i := 31 - t)
    rw [show 32 - (t + 1) = 31 - t by omega]
    show _ = (s.toNat.testBit (31 - t)).toNat
    rw [this]
    rcases Nat.mod_two_eq_zero_or_one (s.toNat / 2 ^ (31 - t)) with e | e <;> simp [e]

end Go.Proofs.Yteoaeifcneiinaa.Crc
