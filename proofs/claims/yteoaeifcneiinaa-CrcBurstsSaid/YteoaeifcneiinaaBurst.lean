/-
  Bits of bytes, one by one; the walk of 'CrcBursts'.
-/
import Derived.Test.YteoaeifcneiinaaCrcLaw
import Derived.OpenShut
import Derived.BigRegion
namespace Go.Proofs.Yteoaeifcneiinaa
open Go.RowKit

def bitAt (Y : List UInt8) (i : Nat) : Bool := (Crc.bitsOf Y).getD i false
theorem bitAt_eq : ∀ (Y : List UInt8) (i : Nat), i < 8 * Y.length → bitAt Y i = (Y.getD (i / 8) 0).toBitVec.getLsbD (7 - i % 8)
  | [], i, h => by simp at h
  | c :: Y, i, h => by
    unfold bitAt
    rw [bitsOf_cons]
    by_cases hi : i < 8
    · rw [List.getD_eq_getElem?_getD, List.getElem?_append_left (by simpa [Crc.byteBits] using hi), Nat.div_eq_of_lt hi, Nat.mod_eq_of_lt hi]
      rcases (show i = 0 ∨ i = 1 ∨ i = 2 ∨ i = 3 ∨ i = 4 ∨ i = 5 ∨ i = 6 ∨ i = 7 by omega) with rfl | rfl | rfl | rfl | rfl | rfl | rfl | rfl <;> rfl
    · have ih := bitAt_eq Y (i - 8) (by simp at h; omega)
      rw [List.getD_eq_getElem?_getD, List.getElem?_append_right (by simp [Crc.byteBits]; omega)]
      rw [show (Crc.byteBits c).length = 8 from rfl, ← List.getD_eq_getElem?_getD]
      rw [show i / 8 = (i - 8) / 8 + 1 by omega, show i % 8 = (i - 8) % 8 by omega]
      exact ih
def maskByte (r : Nat) : UInt8 := ⟨0x80#8 >>> r⟩
theorem maskByte_bit : ∀ (r s : Fin 8), (maskByte r).toBitVec.getLsbD (7 - s) = decide (s = r) := by decide
theorem maskByte_num : ∀ r : Fin 8, ((128 : Int) / 2 ^ r.val) = ((maskByte r).toNat : Int) := by decide

theorem bitAt_turn (Y : List UInt8) (n : Nat) (hn : n < 8 * Y.length) (i : Nat) (hi : i < 8 * Y.length) :
    bitAt (Y.set (n / 8) (Y.getD (n / 8) 0 ^^^ maskByte (n % 8))) i = (bitAt Y i ^^ decide (i = n)) := by
  rw [bitAt_eq _ i (by simpa using hi), bitAt_eq Y i hi]
  have hq : n / 8 < Y.length := by omega
  by_cases e : i / 8 = n / 8
  · rw [e]
    have h1 : (Y.set (n / 8) (Y.getD (n / 8) 0 ^^^ maskByte (n % 8))).getD (n / 8) 0 = Y.getD (n / 8) 0 ^^^ maskByte (n % 8) := by simp [List.getD, hq]
    rw [h1, UInt8.toBitVec_xor, BitVec.getLsbD_xor]
    congr 1
    have := maskByte_bit ⟨n % 8, Nat.mod_lt _ (by decide)⟩ ⟨i % 8, Nat.mod_lt _ (by decide)⟩
    simp only at this
    rw [this]
    simp only [Fin.mk.injEq, decide_eq_decide]
    omega
  · have h1 : (Y.set (n / 8) (Y.getD (n / 8) 0 ^^^ maskByte (n % 8))).getD (i / 8) 0 = Y.getD (i / 8) 0 := by simp [List.getD, Ne.symm e]
    rw [h1]
    have : decide (i = n) = false := by rw [decide_eq_false_iff_not]; intro h; subst h; exact e rfl
    rw [this, Bool.xor_false]

/-- The mask's bits, the highest first. -/
def maskBit (m : Crc.B32) (j : Nat) : Bool := m.getLsbD (31 - j)
theorem maskBit_test (m : Crc.B32) (k : Nat) (hk : k < 32) : ((m <<< k) >>> 31 == 1#32) = maskBit m k := by
  unfold maskBit
  rw [Bool.eq_iff_iff, beq_iff_eq]
  constructor
  · intro h
    have := congrArg (fun x : Crc.B32 => x.getLsbD 0) h
    simp only [BitVec.getLsbD_ushiftRight, BitVec.getLsbD_shiftLeft] at this
    simpa [show ¬ 31 < k by omega] using this
  · intro h
    apply BitVec.eq_of_getLsbD_eq
    intro i hi
    rw [BitVec.getLsbD_ushiftRight, BitVec.getLsbD_shiftLeft]
    by_cases e : i = 0
    · subst e; simp [show ¬ 31 < k by omega, h]
    · have : (1#32).getLsbD i = false := by
        have : ∀ j : Fin 32, j.val ≠ 0 → (1#32).getLsbD j = false := by decide
        exact this ⟨i, hi⟩ e
      rw [this]; simp [show ¬ 31 + i < 32 by omega]

theorem maskBit_num (m : Crc.B32) (k : Nat) (hk : k < 32) : ((m.toNat : Int) * 2 ^ k % 4294967296 / 2147483648 == 1) = maskBit m k := by
  rw [← maskBit_test m k hk]
  have h : ((m <<< k) >>> 31).toNat = m.toNat * 2 ^ k % 4294967296 / 2147483648 := by
    rw [BitVec.toNat_ushiftRight, BitVec.toNat_shiftLeft, Nat.shiftLeft_eq, Nat.shiftRight_eq_div_pow]
  have h2 : (m.toNat : Int) * (2 : Int) ^ k % (4294967296 : Int) / (2147483648 : Int) = (((m <<< k) >>> 31).toNat : Int) := by rw [h, Int.natCast_ediv, Int.natCast_emod, Int.natCast_mul, Int.natCast_pow]; rfl
  rw [h2, Bool.eq_iff_iff, beq_iff_eq, beq_iff_eq]
  constructor
  · intro e
    apply BitVec.eq_of_toNat_eq
    have e' : ((m <<< k) >>> 31).toNat = 1 := by omega
    rw [e']; rfl
  · intro e; rw [e]; rfl

/-- Behind k of the mask's bits. -/
def Bent (X Y : List UInt8) (f : Nat) (m : Crc.B32) (k : Nat) : Prop := Y.length = X.length ∧ ∀ i, i < 8 * X.length → bitAt Y i = (bitAt X i ^^ (decide (f ≤ i ∧ i < f + k) && maskBit m (i - f)))
theorem bent_zero (X : List UInt8) (f : Nat) (m : Crc.B32) : Bent X X f m 0 := ⟨rfl, fun i _ => by simp [show ¬ (f ≤ i ∧ i < f) by omega]⟩
theorem bent_on {X Y : List UInt8} {f : Nat} {m : Crc.B32} {k : Nat} (h : Bent X Y f m k) (hf : f + k < 8 * X.length) (hb : maskBit m k = true) : Bent X (Y.set ((f + k) / 8) (Y.getD ((f + k) / 8) 0 ^^^ maskByte ((f + k) % 8))) f m (k + 1) := by
  refine ⟨by simpa using h.1, fun i hi => ?_⟩
  rw [bitAt_turn Y (f + k) (by rw [h.1]; exact hf) i (by rw [h.1]; exact hi), h.2 i hi, Bool.xor_assoc]
  congr 1
  by_cases e : i = f + k
  · subst e
    simp [show f + k - f = k by omega, hb]
  · have e1 : decide (f ≤ i ∧ i < f + (k + 1)) = decide (f ≤ i ∧ i < f + k) := by rw [decide_eq_decide]; omega
    rw [e1, decide_eq_false e, Bool.xor_false]
theorem bent_off {X Y : List UInt8} {f : Nat} {m : Crc.B32} {k : Nat} (h : Bent X Y f m k) (hb : maskBit m k = false) : Bent X Y f m (k + 1) := by
  refine ⟨h.1, fun i hi => ?_⟩
  rw [h.2 i hi]
  congr 1
  by_cases e : i = f + k
  · subst e
    simp [show f + k - f = k by omega, hb]
  · have e1 : decide (f ≤ i ∧ i < f + (k + 1)) = decide (f ≤ i ∧ i < f + k) := by rw [decide_eq_decide]; omega
    rw [e1]
theorem bent_end {X Y : List UInt8} {f : Nat} {m : Crc.B32} (h : Bent X Y f m 32) (hf : f + 32 ≤ 8 * X.length) (hX : rightB X = true) (h4 : 4 ≤ X.length) : rightB Y = (m == 0#32) := by
  have hb : Crc.bitsOf Y = List.zipWith xor (Crc.bitsOf X) (List.replicate f false ++ (List.range 32).map (maskBit m) ++ List.replicate (8 * X.length - f - 32) false) := by
    apply List.ext_getElem
    · simp [Crc.bitsOf_length, h.1]; omega
    · intro i h1 h2
      have hi : i < 8 * X.length := by rw [Crc.bitsOf_length, h.1] at h1; exact h1
      have e1 := h.2 i hi
      unfold bitAt at e1
      rw [List.getD_eq_getElem?_getD, List.getElem?_eq_getElem h1, List.getD_eq_getElem?_getD, List.getElem?_eq_getElem (by rw [Crc.bitsOf_length]; exact hi)] at e1
      simp only [Option.getD_some] at e1
      rw [e1, List.getElem_zipWith]
      congr 1
      by_cases c1 : i < f
      · rw [List.getElem_append_left (by simp; omega), List.getElem_append_left (by simpa using c1)]
        simp [show ¬ f ≤ i by omega]
      · by_cases c2 : i < f + 32
        · rw [List.getElem_append_left (by simp; omega), List.getElem_append_right (by simp; omega)]
          simp [show f ≤ i by omega, c2]
        · rw [List.getElem_append_right (by simp; omega)]
          simp [c2]
  have := right_burst X Y hX h4 h.1 f (8 * X.length - f - 32) ((List.range 32).map (maskBit m)) (by simp) (by simp; omega) hb
  rw [Bool.eq_iff_iff, this, beq_iff_eq]
  constructor
  · intro e
    apply BitVec.eq_of_getLsbD_eq
    intro i hi
    have := congrArg (fun l => l.getD (31 - i) false) e
    simp only [List.length_map, List.length_range] at this
    rw [List.getD_eq_getElem?_getD, List.getD_eq_getElem?_getD, List.getElem?_map, List.getElem?_range (by omega), List.getElem?_replicate, if_pos (by omega)] at this
    simp only [Option.map_some, Option.getD_some, maskBit] at this
    rw [show 31 - (31 - i) = i by omega] at this
    rw [this, BitVec.getLsbD_zero]
  · intro e
    subst e
    apply List.ext_getElem
    · simp
    · intro i h1 h2
      rw [List.getElem_replicate, List.getElem_map]
      exact BitVec.getLsbD_zero

set_option maxRecDepth 10000 in
set_option maxHeartbeats 1000000 in
theorem bursts_walk {a : Option Addr} {n cap : Nat} {bs : List UInt8} {w : World} (HB : Bytes w a n cap bs) (at_ : Int) (wat : (Lit.int .u16 at_).wf = true) (mk : Int) (wmk : (Lit.int .u32 mk).wf = true) :
    Calls Try.prog 6 #[.slice a n cap, .int .u16 at_, .int .u32 mk] w fun e w' => e = .returned (.bool true) ∧ Below w.heap.size w w' := by
  have hbig := HB.big
  have hle := Sl.le HB
  have hlen := HB.len
  subst hlen
  by_cases h200 : bs.length > 200
  · have hd : decide ((bs.length : Int) > 200) = true := by simp; omega
    go_enter Try.func6, Try.ntmps6
    go_wp2_with (go_at_call 7; refine (awake_calls _).mono ?_; rintro e w1 ⟨rfl, hb1⟩)
    go_ret
    exact ⟨rfl, hb1⟩
  have hd : decide ((bs.length : Int) > 200) = false := by simp; omega
  have ha := bounds_u16 wat
  have hy := bounds_u32 wmk
  obtain ⟨X, hX⟩ : ∃ X, X = bs ++ Crc.be (Crc.sum bs) := ⟨_, rfl⟩
  have hXl : X.length = bs.length + 4 := by rw [hX, List.length_append, be_length]
  have HR1 : Hid (rightB X = true) := by show _ = _; rw [hX]; exact right_put bs
  obtain ⟨m, hm⟩ : ∃ m : Crc.B32, mk = (m.toNat : Int) := ⟨BitVec.ofNat 32 mk.toNat, by rw [BitVec.toNat_ofNat]; omega⟩
  subst hm
  have hX1 : bs.length + 4 ≤ X.length := by omega
  have hX2 : X.length ≤ bs.length + 4 := by omega
  obtain ⟨f, hf, hfX⟩ : ∃ f : Nat, at_ % (8 * (X.length : Int) - 31) = f ∧ f + 32 ≤ 8 * X.length := ⟨(at_ % (8 * (X.length : Int) - 31)).toNat, by have := Int.emod_nonneg at_ (show (8 * (X.length : Int) - 31) ≠ 0 by omega); omega, by have := Int.emod_lt_of_pos at_ (show 0 < (8 * (X.length : Int) - 31) by omega); omega⟩
  have HX : Hid _ := hX
  clear hX hXl
  go_enter Try.func6, Try.ntmps6
  go_wp2_with (first
      | (go_at_call 7; refine (awake_calls _).mono ?_; rintro e w1 ⟨rfl, hb1⟩)
      | (go_at_call 11; refine (put_calls (HB.keep hb1) (by omega)).mono ?_; rintro e w3 ⟨v, rfl, ho3, hb3⟩; rw [← HX.out] at ho3; obtain ⟨g4, c4, rfl, hg41, hg42⟩ := ho3.some (by intro e; rw [e] at hX1; simp at hX1)))
  have hcap : X.length ≤ c4 ∧ c4 ≤ 9223372036854775807 := by
    obtain ⟨a5, c5, hc5, BY⟩ := ho3.bytes
    simp only [Value.slice.injEq] at hc5
    obtain ⟨_, _, rfl⟩ := hc5
    exact ⟨Sl.le BY, BY.big⟩
  obtain ⟨hc41, hc42⟩ := hcap
  have hbb := hb1.trans (hb3.mono hb1.size)
  have hg4 : w.heap.size ≤ g4 := Nat.le_trans hb1.size hg41
  have HO : Hid _ := ho3
  clear ho3 hb1 hb3
  simp only [hf]
  go_loopw [9, 24] (fun _ i wr => ∃ k : Nat, ∃ Y : List UInt8, k ≤ 32 ∧ i = .int .i64 k ∧ Hid (OwnB wr w1.heap.size (.slice (some ⟨g4, 0, none⟩) X.length c4) Y) ∧ Hid (Bent X Y f m k) ∧ Below w.heap.size w wr) (fun _ i _ => 32 - (intOf i).toNat)
  case atStart => exact ⟨0, X, by omega, rfl, HO, bent_zero X f m, hbb⟩
  case round =>
    clear HO hbb
    obtain ⟨k, Y, hk, rfl, ho, hbe, hb⟩ := hrel
    by_cases hk32 : k < 32
    · have e1 := maskBit_num m k hk32
      by_cases hbit : maskBit m k = true
      · rw [hbit] at e1
        have HBIT : Hid _ := hbit
        clear hbit
        have hYl : Y.length = X.length := hbe.out.1
        have hq : (f + k) / 8 < Y.length := by omega
        obtain ⟨x, hx⟩ : ∃ x, x = Y.getD ((f + k) / 8) 0 := ⟨_, rfl⟩
        have g1 := ho.out.at ((f + k) / 8) hq
        rw [show Y[(f + k) / 8] = x by rw [hx]; simp [List.getD, hq]] at g1
        have g2 := ho.out.free ((f + k) / 8)
        obtain ⟨d, hd2⟩ : ∃ d, d = x ^^^ maskByte ((f + k) % 8) := ⟨_, rfl⟩
        have e3 : ((128 : Int) / 2 ^ ((f + k) % 8)) = ((maskByte ((f + k) % 8)).toNat : Int) := maskByte_num ⟨(f + k) % 8, Nat.mod_lt _ (by decide)⟩
        have e4 : bits .xor .u8 (x.toNat : Int) ((maskByte ((f + k) % 8)).toNat : Int) = (d.toNat : Int) := by rw [hd2]; exact xor_u8 x.toBitVec (maskByte ((f + k) % 8)).toBitVec
        have HXX : Hid _ := hx
        have HD : Hid _ := hd2
        have hYl1 : Hid _ := hYl
        clear hx hd2 hYl hq
        go_wp2
        go_region
        go_wp2
        go_roundw
        case rel =>
          refine ⟨k + 1, Y.set ((f + k) / 8) d, by omega, by go_num, ho.out.store _ d, ?_, (hb.setCell (by exact hg4) _).drew⟩
          show Bent _ _ _ _ _
          rw [HD.out, HXX.out]
          exact bent_on hbe.out (by omega) HBIT.out
        case measure => simp [intOf]; omega
      · rw [show maskBit m k = false by simpa using hbit] at e1
        have HBIT : Hid (maskBit m k = false) := by show _ = _; simpa using hbit
        clear hbit
        go_wp2
        go_roundw
        case rel => exact ⟨k + 1, Y, by omega, by go_num, ho, bent_off hbe.out HBIT.out, hb⟩
        case measure => simp [intOf]; omega
    · obtain rfl : k = 32 := by omega
      obtain ⟨a5, c5, hc5, BY⟩ := ho.out.bytes
      have hYl : Y.length = X.length := hbe.out.1
      rw [hYl] at hc5 BY
      simp only [Value.slice.injEq, true_and] at hc5
      obtain ⟨rfl, rfl⟩ := hc5
      have hcz : ((m.toNat : Int) == 0) = (m == 0#32) := by
        rw [Bool.eq_iff_iff, beq_iff_eq, beq_iff_eq]
        exact ⟨fun h => BitVec.eq_of_toNat_eq (by simpa using h), fun h => by rw [h]; rfl⟩
      have HR : Hid (rightB Y = (m == 0#32)) := bent_end hbe.out hfX HR1 (by omega)
      clear hYl
      go_wp2_with (go_at_call 10; refine (right_calls BY).mono ?_; rintro e w6 ⟨rfl, rfl⟩; rw [HR.out])
      go_ret
      exact ⟨rfl, hb⟩
end Go.Proofs.Yteoaeifcneiinaa
