/-
  The law's 'same'.
-/
import Derived.Test.YtnknhedhoibepaaIsaTake
import Derived.Test.YtnknhedhoibepaaStructEq
namespace Go.Proofs.Ytnknhedhoibepaa
open Go.RowKit Isa
set_option linter.unusedVariables false

theorem eq_ins (d : Nat) (a1 a2 a3 a4 a5 b1 b2 b3 b4 b5 : Int) (w : World) :
    (Op.equalIn (d + 2) 30 (.agg #[.int .u8 a1, .int .u8 a2, .int .u8 a3, .int .u8 a4, .int .i16 a5]) (.agg #[.int .u8 b1, .int .u8 b2, .int .u8 b3, .int .u8 b4, .int .i16 b5])).run Try.prog w = .ok (decide (a1 = b1 ∧ a2 = b2 ∧ a3 = b3 ∧ a4 = b4 ∧ a5 = b5)) w := by
  rw [run_equalIn_fields (l := [("Op", 27, 0), ("Dst", 5, 1), ("A", 5, 2), ("B", 5, 3), ("Imm", 28, 4)]) (by kernel_rfl) (by kernel_rfl) (by kernel_rfl) w]
  rw [eqT_int (k := .u8) (by decide) Try.underlying27 rfl rfl, eqT_int (k := .u8) (by decide) Try.underlying5 rfl rfl, eqT_int (k := .u8) (by decide) Try.underlying5 rfl rfl, eqT_int (k := .u8) (by decide) Try.underlying5 rfl rfl, eqT_int (k := .i16) (by decide) Try.underlying28 rfl rfl, eqT_nil]
  by_cases h1 : a1 = b1 <;> by_cases h2 : a2 = b2 <;> by_cases h3 : a3 = b3 <;> by_cases h4 : a4 = b4 <;> by_cases h5 : a5 = b5 <;> simp [h1, h2, h3, h4, h5]
theorem neq_ins (a1 a2 a3 a4 a5 b1 b2 b3 b4 b5 : Int) (w : World) :
    (binOp .neq 30 (.agg #[.int .u8 a1, .int .u8 a2, .int .u8 a3, .int .u8 a4, .int .i16 a5]) (.agg #[.int .u8 b1, .int .u8 b2, .int .u8 b3, .int .u8 b4, .int .i16 b5])).run Try.prog w = .ok (.bool (!decide (a1 = b1 ∧ a2 = b2 ∧ a3 = b3 ∧ a4 = b4 ∧ a5 = b5))) w := by
  rw [run_neq_struct, eq_ins 9998]; rfl

set_option maxRecDepth 10000 in
set_option maxHeartbeats 1000000 in
theorem same_calls {w : World} {a : Option Addr} {cap : Nat} {a' : Option Addr} {cap' : Nat} {l : List Ins} (h : Prog w a l.length cap l) (h' : Prog w a' l.length cap' l) (h6 : l.length ≤ 1000000) :
    Calls Try.prog 17 #[.slice a l.length cap, .slice a' l.length cap'] w fun e w' => e = .returned (.bool true) ∧ ∃ q, w' = w.drewN q := by
  go_enter Try.func17, Try.ntmps17
  go_wp2
  go_loopw [13] (fun k wr => ∃ j : Nat, j ≤ l.length ∧ k = .int .i64 j ∧ ∃ q, wr = w.drewN q) (fun k _ => l.length - (intOf k).toNat)
  case atStart => exact ⟨0, Nat.zero_le _, rfl, 0, rfl⟩
  case round =>
    obtain ⟨j, hj, rfl, q, rfl⟩ := hrel
    by_cases hlt : j < l.length
    · obtain ⟨b, off, x, rfl, HX, hg, c0, c1, c2, c3, c4⟩ := h.get j hlt
      obtain ⟨b', off', y, rfl, HY, _, k0, k1, k2, k3, k4⟩ := h'.get j hlt
      have : y = x := by have := HY.out; rw [HX.out] at this; cases this; rfl
      subst this
      obtain ⟨op, dst, xa, xb, imm⟩ := y
      simp only at c0 c1 c2 c3 c4 k0 k1 k2 k3 k4
      have hlt2 : (j : Int) < (l.length : Int) := by omega
      have hne : ∀ w : World, (binOp .neq 30 (.agg #[.int .u8 op, .int .u8 dst, .int .u8 xa, .int .u8 xb, .int .i16 imm]) (.agg #[.int .u8 op, .int .u8 dst, .int .u8 xa, .int .u8 xb, .int .i16 imm])).run Try.prog w = .ok (.bool false) w := fun w => by rw [neq_ins]; simp
      go_wp2
      have n4 : (0 : Int) ≤ (j : Int) := by omega
      go_quiet (fail)
      go_wp2
      go_roundw
      case rel => exact ⟨j + 1, by omega, by go_num, _, rfl⟩
      case measure => simp [intOf]; omega
    · have hlt2 : ¬ (j : Int) < (l.length : Int) := by omega
      go_wp2
      go_ret
      exact ⟨rfl, q, rfl⟩
end Go.Proofs.Ytnknhedhoibepaa
