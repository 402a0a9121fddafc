/-
  Numbers: what Go's bit operations come to on bit vectors, and small facts on wraps.
-/
import Derived.Laws.BitsLemmas
import Derived.RowKit
namespace Go.Proofs.Ytakobldhjndeiaa
open Go.RowKit

theorem xor_u32 (a b : BitVec 32) : bits .xor .u32 (a.toNat : Int) (b.toNat : Int) = ((a ^^^ b).toNat : Int) := by
  have h : ∀ x : BitVec 32, IntKind.u32.wrap (x.toNat : Int) = x.toNat := fun x => by rw [IntKind.wrap_u32]; have := x.isLt; omega
  unfold bits
  simp only [BitVec.ofInt_natCast]
  show IntKind.u32.wrap (((BitVec.ofNat 32 a.toNat ^^^ BitVec.ofNat 32 b.toNat).toNat : Nat) : Int) = _
  rw [BitVec.ofNat_toNat, BitVec.ofNat_toNat, BitVec.setWidth_eq, BitVec.setWidth_eq, h]

theorem xor_u8 (a b : BitVec 8) : bits .xor .u8 (a.toNat : Int) (b.toNat : Int) = ((a ^^^ b).toNat : Int) := by
  have h : ∀ x : BitVec 8, IntKind.u8.wrap (x.toNat : Int) = x.toNat := fun x => by rw [IntKind.wrap_u8]; have := x.isLt; omega
  unfold bits
  simp only [BitVec.ofInt_natCast]
  show IntKind.u8.wrap (((BitVec.ofNat 8 a.toNat ^^^ BitVec.ofNat 8 b.toNat).toNat : Nat) : Int) = _
  rw [BitVec.ofNat_toNat, BitVec.ofNat_toNat, BitVec.setWidth_eq, BitVec.setWidth_eq, h]

theorem bnot_u32 (m : BitVec 32) : bits .xor .u32 IntKind.u32.max (m.toNat : Int) = ((~~~ m).toNat : Int) := by
  rw [show IntKind.u32.max = (((BitVec.allOnes 32).toNat : Nat) : Int) from rfl, xor_u32, BitVec.allOnes_xor]
theorem signed_u32 : IntKind.u32.signed = false := rfl

theorem shl1_u32 (m : BitVec 32) : (m.toNat : Int) * (2 : Int) % (4294967296 : Int) = ((m <<< 1).toNat : Int) := by
  rw [BitVec.toNat_shiftLeft, Nat.shiftLeft_eq]; omega
theorem msb_u32 (m : BitVec 32) : ((m.toNat : Int) / (2147483648 : Int) == (1 : Int)) = m.msb := by
  have h := m.isLt
  rw [BitVec.msb_eq_decide]
  rw [Bool.eq_iff_iff]; simp; omega
theorem shl24_u32 (c : UInt8) : (c.toNat : Int) * (16777216 : Int) = (((c.toBitVec.setWidth 32) <<< 24 : BitVec 32).toNat : Int) := by
  have h := c.toNat_lt
  rw [BitVec.toNat_shiftLeft, Nat.shiftLeft_eq, BitVec.toNat_setWidth]
  have : c.toBitVec.toNat = c.toNat := rfl
  omega
theorem not_u32 (m : BitVec 32) : (4294967295 : Int) - (m.toNat : Int) = ((~~~ m).toNat : Int) := by
  rw [BitVec.toNat_not]; have := m.isLt; omega

theorem run_min4 {P : Program} (w : World) (ts : Array TypeId) (t : TypeId) (k : IntKind) (x y z u : Int) (n : Int) (hn : n = min (min (min x y) z) u) :
    (Builtin.min_ ts t #[.int k x, .int k y, .int k z, .int k u]).run P w = .ok (.int k n) w := by
  subst hn
  have h : ∀ a b : Int, (if b < a then b else a) = min a b := fun a b => by split <;> omega
  simp [Builtin.min_, Builtin.min2, h]
end Go.Proofs.Ytakobldhjndeiaa
