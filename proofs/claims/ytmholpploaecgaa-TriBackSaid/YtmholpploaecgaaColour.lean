/-
  vm.Colour; edge's Area, Turned.
-/
import Derived.Test.YtmholpploaecgaaFix
import Derived.Handy
namespace Go.Proofs.Ytmholpploaecgaa
open Go.RowKit
set_option linter.unusedVariables false

def col (n : Int) : Int := min (max n 0) 65536
theorem run_max2 {P : Program} (w : World) (ts : Array TypeId) (t : TypeId) (k : IntKind) (x y : Int) : (Builtin.max_ ts t #[.int k x, .int k y]).run P w = .ok (.int k (max x y)) w := by
  have h : ∀ a b : Int, (if b > a then b else a) = max a b := fun a b => by split <;> omega
  simp [Builtin.max_, Builtin.max2, h]
theorem run_min2 {P : Program} (w : World) (ts : Array TypeId) (t : TypeId) (k : IntKind) (x y : Int) : (Builtin.min_ ts t #[.int k x, .int k y]).run P w = .ok (.int k (min x y)) w := by
  have h : ∀ a b : Int, (if b < a then b else a) = min a b := fun a b => by split <;> omega
  simp [Builtin.min_, Builtin.min2, h]

set_option maxRecDepth 10000 in
set_option maxHeartbeats 1000000 in
theorem colour_calls (c0 c1 c2 c3 : Int) (w : World) :
    Calls Try.prog 26 #[.agg #[.int .i64 c0, .int .i64 c1, .int .i64 c2, .int .i64 c3]] w fun e w' => e = .returned (.agg #[.int .i64 (col c0), .int .i64 (col c1), .int .i64 (col c2), .int .i64 (col c3)]) ∧ Below w.heap.size w w' := by
  have hmx := @run_max2 Try.prog
  have hmn := @run_min2 Try.prog
  have idx0 : ∀ w, (Instr.index 38 (.agg #[.int .i64 c0, .int .i64 c1, .int .i64 c2, .int .i64 c3]) (.int .i64 0)).run Try.prog w = .ok (.int .i64 c0) w := fun _ => by kernel_rfl
  have idx1 : ∀ w, (Instr.index 38 (.agg #[.int .i64 c0, .int .i64 c1, .int .i64 c2, .int .i64 c3]) (.int .i64 1)).run Try.prog w = .ok (.int .i64 c1) w := fun _ => by kernel_rfl
  have idx2 : ∀ w, (Instr.index 38 (.agg #[.int .i64 c0, .int .i64 c1, .int .i64 c2, .int .i64 c3]) (.int .i64 2)).run Try.prog w = .ok (.int .i64 c2) w := fun _ => by kernel_rfl
  have idx3 : ∀ w, (Instr.index 38 (.agg #[.int .i64 c0, .int .i64 c1, .int .i64 c2, .int .i64 c3]) (.int .i64 3)).run Try.prog w = .ok (.int .i64 c3) w := fun _ => by kernel_rfl
  go_enter Try.func26, Try.ntmps26
  go_wp2
  go_rounds 5
  exact bodyPost_ret (v := .agg #[.int .i64 (col c0), .int .i64 (col c1), .int .i64 (col c2), .int .i64 (col c3)]) (by simp [results, Try.results26, go_sem]; exact ⟨rfl, rfl, rfl, rfl⟩) rfl ⟨rfl, ((Below.refl _ _).alloc (Nat.le_refl _) _).alloc (by simp) _⟩

set_option maxRecDepth 10000 in
set_option maxHeartbeats 1000000 in
theorem area_calls {a b c d e f : Int} (h1 : Close a) (h2 : Close b) (h3 : Close c) (h4 : Close d) (h5 : Close e) (h6 : Close f) (w : World) :
    Calls Try.prog 27 #[.agg #[.int .i64 a, .int .i64 b, .int .i64 c, .int .i64 d, .int .i64 e, .int .i64 f]] w fun x w' => x = .returned (.int .i64 (side a b c d e f)) ∧ Below w.heap.size w w' := by
  have HC := hid1 (side_calls h1 h2 h3 h4 h5 h6)
  clear h1 h2 h3 h4 h5 h6
  go_enter Try.func27, Try.ntmps27
  go_wp2_with (go_at_call 35; refine (HC.out _).mono ?_; rintro x w1 ⟨rfl, hb1⟩)
  go_ret
  exact ⟨rfl, ((Below.refl _ _).alloc (Nat.le_refl _) _).trans (hb1.mono (by simp))⟩
set_option maxRecDepth 10000 in
theorem turned_calls (a b c d e f : Int) (w : World) :
    Calls Try.prog 9 #[.agg #[.int .i64 a, .int .i64 b, .int .i64 c, .int .i64 d, .int .i64 e, .int .i64 f]] w fun x w' => x = .returned (.agg #[.int .i64 a, .int .i64 b, .int .i64 e, .int .i64 f, .int .i64 c, .int .i64 d]) ∧ Below w.heap.size w w' := by
  go_enter Try.func9, Try.ntmps9
  go_wp2
  exact bodyPost_ret (v := .agg #[.int .i64 a, .int .i64 b, .int .i64 e, .int .i64 f, .int .i64 c, .int .i64 d]) (by simp [results, Try.results9, go_sem]) rfl ⟨rfl, ((Below.refl _ _).alloc (Nat.le_refl _) _).alloc (by simp) _⟩
end Go.Proofs.Ytmholpploaecgaa
