/-
  Bits of bytes, one by one; bytes bent from any place on.
-/
import Derived.Test.YtakobldhjndeiaaCrcLaw
namespace Go.Proofs.Ytakobldhjndeiaa
open Go.RowKit

def bitAt (Y : List UInt8) (i : Nat) : Bool := (Crc.bitsOf Y).getD i false
theorem bitAt_eq : ∀ (Y : List UInt8) (i : Nat), i < 8 * Y.length → bitAt Y i = (Y.getD (i / 8) 0).toBitVec.getLsbD (7 - i % 8)
  | [], i, h => by simp at h
  | c :: Y, i, h => by
    unfold bitAt
    rw [bitsOf_cons]
    by_cases hi : i < 8
    · rw [List.getD_eq_getElem?_getD, List.getElem?_append_left (by simpa [Crc.byteBits] using hi), Nat.div_eq_of_lt hi, Nat.mod_eq_of_lt hi]
      rcases (show i = 0 ∨ i = 1 ∨ i = 2 ∨ i = 3 ∨ i = 4 ∨ i = 5 ∨ i = 6 ∨ i = 7 by omega) with rfl | rfl | rfl | rfl | rfl | rfl | rfl | rfl <;> rfl
    · have ih := bitAt_eq Y (i - 8) (by simp at h; omega)
      rw [List.getD_eq_getElem?_getD, List.getElem?_append_right (by simp [Crc.byteBits]; omega)]
      rw [show (Crc.byteBits c).length = 8 from rfl, ← List.getD_eq_getElem?_getD]
      rw [show i / 8 = (i - 8) / 8 + 1 by omega, show i % 8 = (i - 8) % 8 by omega]
      exact ih
def maskByte (r : Nat) : UInt8 := ⟨0x80#8 >>> r⟩
theorem maskByte_bit : ∀ (r s : Fin 8), (maskByte r).toBitVec.getLsbD (7 - s) = decide (s = r) := by decide
theorem maskByte_num : ∀ r : Fin 8, ((128 : Int) / 2 ^ r.val) = ((maskByte r).toNat : Int) := by decide

theorem bitAt_turn (Y : List UInt8) (n : Nat) (hn : n < 8 * Y.length) (i : Nat) (hi : i < 8 * Y.length) :
    bitAt (Y.set (n / 8) (Y.getD (n / 8) 0 ^^^ maskByte (n % 8))) i = (bitAt Y i ^^ decide (i = n)) := by
  rw [bitAt_eq _ i (by simpa using hi), bitAt_eq Y i hi]
  have hq : n / 8 < Y.length := by omega
  by_cases e : i / 8 = n / 8
  · rw [e]
    have h1 : (Y.set (n / 8) (Y.getD (n / 8) 0 ^^^ maskByte (n % 8))).getD (n / 8) 0 = Y.getD (n / 8) 0 ^^^ maskByte (n % 8) := by simp [List.getD, hq]
    rw [h1, UInt8.toBitVec_xor, BitVec.getLsbD_xor]
    congr 1
    have := maskByte_bit ⟨n % 8, Nat.mod_lt _ (by decide)⟩ ⟨i % 8, Nat.mod_lt _ (by decide)⟩
    simp only at this
    rw [this]
    simp only [Fin.mk.injEq, decide_eq_decide]
    omega
  · have h1 : (Y.set (n / 8) (Y.getD (n / 8) 0 ^^^ maskByte (n % 8))).getD (i / 8) 0 = Y.getD (i / 8) 0 := by simp [List.getD, Ne.symm e]
    rw [h1]
    have : decide (i = n) = false := by rw [decide_eq_false_iff_not]; intro h; subst h; exact e rfl
    rw [this, Bool.xor_false]

/-- The mask's bits, the highest first. -/
def maskBit (m : Crc.B32) (j : Nat) : Bool := m.getLsbD (31 - j)
theorem maskBit_test (m : Crc.B32) (k : Nat) (hk : k < 32) : ((m <<< k) >>> 31 == 1#32) = maskBit m k := by
  unfold maskBit
  rw [Bool.eq_iff_iff, beq_iff_eq]
  constructor
  · intro h
    have := congrArg (fun x : Crc.B32 => x.getLsbD 0) h
    simp only [BitVec.getLsbD_ushiftRight, BitVec.getLsbD_shiftLeft] at this
    simpa [show ¬ 31 < k by omega] using this
  · intro h
    apply BitVec.eq_of_getLsbD_eq
    intro i hi
    rw [BitVec.getLsbD_ushiftRight, BitVec.getLsbD_shiftLeft]
    by_cases e : i = 0
    · subst e; simp [show ¬ 31 < k by omega, h]
    · have : (1#32).getLsbD i = false := by
        have : ∀ j : Fin 32, j.val ≠ 0 → (1#32).getLsbD j = false := by decide
        exact this ⟨i, hi⟩ e
      rw [this]; simp [show ¬ 31 + i < 32 by omega]

theorem maskBit_num (m : Crc.B32) (k : Nat) (hk : k < 32) : ((m.toNat : Int) * 2 ^ k % 4294967296 / 2147483648 == 1) = maskBit m k := by
  rw [← maskBit_test m k hk]
  have h : ((m <<< k) >>> 31).toNat = m.toNat * 2 ^ k % 4294967296 / 2147483648 := by
    rw [BitVec.toNat_ushiftRight, BitVec.toNat_shiftLeft, Nat.shiftLeft_eq, Nat.shiftRight_eq_div_pow]
  have h2 : (m.toNat : Int) * (2 : Int) ^ k % (4294967296 : Int) / (2147483648 : Int) = (((m <<< k) >>> 31).toNat : Int) := by rw [h, Int.natCast_ediv, Int.natCast_emod, Int.natCast_mul, Int.natCast_pow]; rfl
  rw [h2, Bool.eq_iff_iff, beq_iff_eq, beq_iff_eq]
  constructor
  · intro e
    apply BitVec.eq_of_toNat_eq
    have e' : ((m <<< k) >>> 31).toNat = 1 := by omega
    rw [e']; rfl
  · intro e; rw [e]; rfl

/-- Behind k of the mask's bits, from whatever place on. -/
def BentI (X Y : List UInt8) (f : Int) (m : Crc.B32) (k : Nat) : Prop := Y.length = X.length ∧ ∀ i : Nat, i < 8 * X.length → bitAt Y i = (bitAt X i ^^ (decide (f ≤ (i : Int) ∧ (i : Int) < f + k) && maskBit m ((i : Int) - f).toNat))
theorem benti_zero (X : List UInt8) (f : Int) (m : Crc.B32) : BentI X X f m 0 := ⟨rfl, fun i _ => by simp [show ¬ (f ≤ (i : Int) ∧ (i : Int) < f) by omega]⟩
theorem benti_on {X Y : List UInt8} {f : Int} {m : Crc.B32} {k p : Nat} (h : BentI X Y f m k) (hp : f + k = (p : Int)) (hf : p < 8 * X.length) (hb : maskBit m k = true) : BentI X (Y.set (p / 8) (Y.getD (p / 8) 0 ^^^ maskByte (p % 8))) f m (k + 1) := by
  refine ⟨by simpa using h.1, fun i hi => ?_⟩
  rw [bitAt_turn Y p (by rw [h.1]; exact hf) i (by rw [h.1]; exact hi), h.2 i hi, Bool.xor_assoc]
  congr 1
  by_cases e : i = p
  · subst e
    have h1 : decide (f ≤ (i : Int) ∧ (i : Int) < f + k) = false := by rw [decide_eq_false_iff_not]; omega
    have h2 : decide (f ≤ (i : Int) ∧ (i : Int) < f + ((k + 1 : Nat) : Int)) = true := by rw [decide_eq_true_eq]; omega
    rw [h1, h2, show ((i : Int) - f).toNat = k by omega, hb]; simp
  · have e1 : decide (f ≤ (i : Int) ∧ (i : Int) < f + ((k + 1 : Nat) : Int)) = decide (f ≤ (i : Int) ∧ (i : Int) < f + k) := by rw [decide_eq_decide]; omega
    rw [e1, decide_eq_false e, Bool.xor_false]
theorem benti_off {X Y : List UInt8} {f : Int} {m : Crc.B32} {k : Nat} (h : BentI X Y f m k) (hb : maskBit m k = false ∨ ¬ (0 ≤ f + k ∧ f + k < 8 * (X.length : Int))) : BentI X Y f m (k + 1) := by
  refine ⟨h.1, fun i hi => ?_⟩
  rw [h.2 i hi]
  congr 1
  by_cases e : (i : Int) = f + k
  · rcases hb with hb | hb
    · rw [show ((i : Int) - f).toNat = k by omega, hb]; simp
    · exact absurd ⟨by omega, by omega⟩ hb
  · have e1 : decide (f ≤ (i : Int) ∧ (i : Int) < f + ((k + 1 : Nat) : Int)) = decide (f ≤ (i : Int) ∧ (i : Int) < f + k) := by rw [decide_eq_decide]; omega
    rw [e1]
theorem bits_same {X Y : List UInt8} (hl : Y.length = X.length) (h : ∀ i, i < 8 * X.length → bitAt Y i = bitAt X i) : Y = X := by
  apply List.ext_getElem hl
  intro q h1 h2
  have hb : ∀ r, r < 8 → (Y[q]).toBitVec.getLsbD (7 - r) = (X[q]).toBitVec.getLsbD (7 - r) := by
    intro r hr
    have := h (8 * q + r) (by omega)
    rw [bitAt_eq Y _ (by omega), bitAt_eq X _ (by omega), show (8 * q + r) / 8 = q by omega, show (8 * q + r) % 8 = r by omega] at this
    simpa [List.getD, h1, h2] using this
  have : (Y[q]).toBitVec = (X[q]).toBitVec := by
    apply BitVec.eq_of_getLsbD_eq
    intro i hi
    have := hb (7 - i) (by omega)
    rwa [show 7 - (7 - i) = i by omega] at this
  calc Y[q] = ⟨(Y[q]).toBitVec⟩ := rfl
    _ = ⟨(X[q]).toBitVec⟩ := by rw [this]
    _ = X[q] := rfl
/-- Bent bytes that are right are not bent. -/
theorem benti_right {X Y : List UInt8} {f : Int} {m : Crc.B32} (h : BentI X Y f m 32) (hX : rightB X = true) (h4 : 4 ≤ X.length) (hY : rightB Y = true) : Y = X := by
  obtain ⟨p, hp⟩ : ∃ p : Nat, p = (min (max f 0) (8 * (X.length : Int))).toNat := ⟨_, rfl⟩
  obtain ⟨e, he⟩ : ∃ e : Nat, e = max p (min (f + 32) (8 * (X.length : Int))).toNat := ⟨_, rfl⟩
  obtain ⟨ml, hml⟩ : ∃ ml, ml = (List.range (e - p)).map (fun j => maskBit m (((p + j : Nat) : Int) - f).toNat) := ⟨_, rfl⟩
  have hmll : ml.length = e - p := by rw [hml]; simp
  have hb : Crc.bitsOf Y = List.zipWith xor (Crc.bitsOf X) (List.replicate p false ++ ml ++ List.replicate (8 * X.length - e) false) := by
    apply List.ext_getElem
    · simp [Crc.bitsOf_length, h.1, hmll]; omega
    · intro i h1 h2
      have hi : i < 8 * X.length := by rw [Crc.bitsOf_length, h.1] at h1; exact h1
      have e1 := h.2 i hi
      unfold bitAt at e1
      rw [List.getD_eq_getElem?_getD, List.getElem?_eq_getElem h1, List.getD_eq_getElem?_getD, List.getElem?_eq_getElem (by rw [Crc.bitsOf_length]; exact hi)] at e1
      simp only [Option.getD_some] at e1
      rw [e1, List.getElem_zipWith]
      congr 1
      by_cases c1 : i < p
      · rw [List.getElem_append_left (by simp [hmll]; omega), List.getElem_append_left (by simpa using c1)]
        have : decide (f ≤ (i : Int) ∧ (i : Int) < f + ((32 : Nat) : Int)) = false := by rw [decide_eq_false_iff_not]; omega
        rw [this]; simp
      · by_cases c2 : i < e
        · rw [List.getElem_append_left (by simp [hmll]; omega), List.getElem_append_right (by simp; omega)]
          have : decide (f ≤ (i : Int) ∧ (i : Int) < f + ((32 : Nat) : Int)) = true := by rw [decide_eq_true_eq]; omega
          rw [this, Bool.true_and]
          subst hml
          simp only [List.getElem_map, List.getElem_range, List.length_replicate]
          rw [show p + (i - p) = i by omega]
        · rw [List.getElem_append_right (by simp [hmll]; omega)]
          have : decide (f ≤ (i : Int) ∧ (i : Int) < f + ((32 : Nat) : Int)) = false := by rw [decide_eq_false_iff_not]; omega
          rw [this]; simp
  have hr := (right_burst X Y hX h4 h.1 p (8 * X.length - e) ml (by omega) (by omega) hb).1 hY
  refine bits_same h.1 (fun i hi => ?_)
  unfold bitAt
  rw [hb, hr, List.append_assoc, List.replicate_append_replicate, List.replicate_append_replicate, zip_false _ _ (by rw [Crc.bitsOf_length]; omega)]
end Go.Proofs.Ytakobldhjndeiaa
