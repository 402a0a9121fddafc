/-
  Records: Check.
-/
import Derived.Test.YtmholpploaecgaaTriChk
import Derived.Test.YtmholpploaecgaaTriEq
import Derived.Test.YtmholpploaecgaaMid
namespace Go.Proofs.Ytmholpploaecgaa
open Go.RowKit
set_option linter.unusedVariables false

def zero24 (x : Nat → Int) : Prop := same24 x (fun _ => 0)
instance (x : Nat → Int) : Decidable (zero24 x) := inferInstanceAs (Decidable (same24 _ _))
def chkRec (a : Int) (s : Bool) (x : Nat → Int) : Int := if a < 0 ∨ 32 ≤ a then 2 else if s = true then chkTri x else if zero24 x then 0 else 4
set_option maxRecDepth 10000 in
set_option maxHeartbeats 1000000 in
theorem recchk_range (a : Int) (s : Bool) (x : Nat → Int) (hr : a < 0 ∨ 32 ≤ a) (w : World) :
    Calls Try.prog 11 #[.agg #[.int .i64 a, .bool s, .int .i64 (x 0), .int .i64 (x 1), .int .i64 (x 2), .int .i64 (x 3), .int .i64 (x 4), .int .i64 (x 5), .int .i64 (x 6), .int .i64 (x 7), .int .i64 (x 8), .int .i64 (x 9), .int .i64 (x 10), .int .i64 (x 11), .int .i64 (x 12), .int .i64 (x 13), .int .i64 (x 14), .int .i64 (x 15), .int .i64 (x 16), .int .i64 (x 17), .int .i64 (x 18), .int .i64 (x 19), .int .i64 (x 20), .int .i64 (x 21), .int .i64 (x 22), .int .i64 (x 23)]] w fun e w' => e = .returned (.int .i64 (chkRec a s x)) ∧ Below w.heap.size w w' := by
  have HC := hid1 (show chkRec a s x = 2 by unfold chkRec; rw [if_pos hr])
  obtain ⟨b1, b2, e1, e2, hw⟩ : ∃ b1 b2 : Bool, decide (a < 0) = b1 ∧ decide (a ≥ 32) = b2 ∧ (b1 = true ∨ (b1 = false ∧ b2 = true)) := ⟨_, _, rfl, rfl, by simp only [decide_eq_true_eq, decide_eq_false_iff_not]; omega⟩
  clear hr
  rcases hw with rfl | ⟨rfl, rfl⟩
  all_goals
    as_aux_lemma =>
      go_enter Try.func11, Try.ntmps11
      go_wp2
      go_ret
      rw [HC.out]
      exact ⟨rfl, (Below.refl _ _).alloc (Nat.le_refl _) _⟩
set_option maxRecDepth 10000 in
set_option maxHeartbeats 1000000 in
theorem recchk_some (a : Int) (x : Nat → Int) (hr : ¬ (a < 0 ∨ 32 ≤ a)) (w : World) :
    Calls Try.prog 11 #[.agg #[.int .i64 a, .bool true, .int .i64 (x 0), .int .i64 (x 1), .int .i64 (x 2), .int .i64 (x 3), .int .i64 (x 4), .int .i64 (x 5), .int .i64 (x 6), .int .i64 (x 7), .int .i64 (x 8), .int .i64 (x 9), .int .i64 (x 10), .int .i64 (x 11), .int .i64 (x 12), .int .i64 (x 13), .int .i64 (x 14), .int .i64 (x 15), .int .i64 (x 16), .int .i64 (x 17), .int .i64 (x 18), .int .i64 (x 19), .int .i64 (x 20), .int .i64 (x 21), .int .i64 (x 22), .int .i64 (x 23)]] w fun e w' => e = .returned (.int .i64 (chkRec a true x)) ∧ Below w.heap.size w w' := by
  have e1 : decide (a < 0) = false := by simp; omega
  have e2 : decide (a ≥ 32) = false := by simp; omega
  have HC := hid1 (show chkRec a true x = chkTri x by unfold chkRec; rw [if_neg hr, if_pos rfl])
  have hl := range_in (heap_new w (.cells #[.int .i64 a, .bool true, .int .i64 (x 0), .int .i64 (x 1), .int .i64 (x 2), .int .i64 (x 3), .int .i64 (x 4), .int .i64 (x 5), .int .i64 (x 6), .int .i64 (x 7), .int .i64 (x 8), .int .i64 (x 9), .int .i64 (x 10), .int .i64 (x 11), .int .i64 (x 12), .int .i64 (x 13), .int .i64 (x 14), .int .i64 (x 15), .int .i64 (x 16), .int .i64 (x 17), .int .i64 (x 18), .int .i64 (x 19), .int .i64 (x 20), .int .i64 (x 21), .int .i64 (x 22), .int .i64 (x 23)] 44)) 2 ([.int .i64 (x 0), .int .i64 (x 1), .int .i64 (x 2), .int .i64 (x 3), .int .i64 (x 4), .int .i64 (x 5), .int .i64 (x 6), .int .i64 (x 7), .int .i64 (x 8), .int .i64 (x 9), .int .i64 (x 10), .int .i64 (x 11), .int .i64 (x 12), .int .i64 (x 13), .int .i64 (x 14), .int .i64 (x 15), .int .i64 (x 16), .int .i64 (x 17), .int .i64 (x 18), .int .i64 (x 19), .int .i64 (x 20), .int .i64 (x 21), .int .i64 (x 22), .int .i64 (x 23)] : List Value) (fun j => .inl (by rw [Nat.add_comm]; rfl))
  have hi : (Try.prog.info? 41).map (·.size) = some (List.length ([.int .i64 (x 0), .int .i64 (x 1), .int .i64 (x 2), .int .i64 (x 3), .int .i64 (x 4), .int .i64 (x 5), .int .i64 (x 6), .int .i64 (x 7), .int .i64 (x 8), .int .i64 (x 9), .int .i64 (x 10), .int .i64 (x 11), .int .i64 (x 12), .int .i64 (x 13), .int .i64 (x 14), .int .i64 (x 15), .int .i64 (x 16), .int .i64 (x 17), .int .i64 (x 18), .int .i64 (x 19), .int .i64 (x 20), .int .i64 (x 21), .int .i64 (x 22), .int .i64 (x 23)] : List Value)) := Try.infoSTri
  clear hr
  go_enter Try.func11, Try.ntmps11
  go_wp2_with (first | (with_reducible refine wpList_load_mid rfl 41 (.tmp 13) rfl w.heap.size 2 rfl [.int .i64 (x 0), .int .i64 (x 1), .int .i64 (x 2), .int .i64 (x 3), .int .i64 (x 4), .int .i64 (x 5), .int .i64 (x 6), .int .i64 (x 7), .int .i64 (x 8), .int .i64 (x 9), .int .i64 (x 10), .int .i64 (x 11), .int .i64 (x 12), .int .i64 (x 13), .int .i64 (x 14), .int .i64 (x 15), .int .i64 (x 16), .int .i64 (x 17), .int .i64 (x 18), .int .i64 (x 19), .int .i64 (x 20), .int .i64 (x 21), .int .i64 (x 22), .int .i64 (x 23)] _ hl Try.underlying41 rfl hi ?_) | (go_at_call 13; refine (trichk_calls x _).mono ?_; rintro e w1 ⟨rfl, hb1⟩))
  go_ret
  rw [HC.out]
  exact ⟨rfl, ((Below.refl _ _).alloc (Nat.le_refl _) _).trans (hb1.mono (by simp))⟩
set_option maxRecDepth 10000 in
set_option maxHeartbeats 1000000 in
theorem recchk_zero (a : Int) (x : Nat → Int) (hr : ¬ (a < 0 ∨ 32 ≤ a)) (hz : zero24 x) (w : World) :
    Calls Try.prog 11 #[.agg #[.int .i64 a, .bool false, .int .i64 (x 0), .int .i64 (x 1), .int .i64 (x 2), .int .i64 (x 3), .int .i64 (x 4), .int .i64 (x 5), .int .i64 (x 6), .int .i64 (x 7), .int .i64 (x 8), .int .i64 (x 9), .int .i64 (x 10), .int .i64 (x 11), .int .i64 (x 12), .int .i64 (x 13), .int .i64 (x 14), .int .i64 (x 15), .int .i64 (x 16), .int .i64 (x 17), .int .i64 (x 18), .int .i64 (x 19), .int .i64 (x 20), .int .i64 (x 21), .int .i64 (x 22), .int .i64 (x 23)]] w fun e w' => e = .returned (.int .i64 (chkRec a false x)) ∧ Below w.heap.size w w' := by
  have e1 : decide (a < 0) = false := by simp; omega
  have e2 : decide (a ≥ 32) = false := by simp; omega
  have hne : ∀ w, (binOp .neq 41 (.agg #[.int .i64 (x 0), .int .i64 (x 1), .int .i64 (x 2), .int .i64 (x 3), .int .i64 (x 4), .int .i64 (x 5), .int .i64 (x 6), .int .i64 (x 7), .int .i64 (x 8), .int .i64 (x 9), .int .i64 (x 10), .int .i64 (x 11), .int .i64 (x 12), .int .i64 (x 13), .int .i64 (x 14), .int .i64 (x 15), .int .i64 (x 16), .int .i64 (x 17), .int .i64 (x 18), .int .i64 (x 19), .int .i64 (x 20), .int .i64 (x 21), .int .i64 (x 22), .int .i64 (x 23)]) (.agg #[.int .i64 0, .int .i64 0, .int .i64 0, .int .i64 0, .int .i64 0, .int .i64 0, .int .i64 0, .int .i64 0, .int .i64 0, .int .i64 0, .int .i64 0, .int .i64 0, .int .i64 0, .int .i64 0, .int .i64 0, .int .i64 0, .int .i64 0, .int .i64 0, .int .i64 0, .int .i64 0, .int .i64 0, .int .i64 0, .int .i64 0, .int .i64 0])).run Try.prog w = .ok (.bool (!decide (zero24 x))) w := fun w => neq_stri x (fun _ => 0) w
  have HC := hid1 (show chkRec a false x = 0 by unfold chkRec; rw [if_neg hr, if_neg (by decide), if_pos hz])
  rw [decide_eq_true hz] at hne
  have hl := range_in (heap_new w (.cells #[.int .i64 a, .bool false, .int .i64 (x 0), .int .i64 (x 1), .int .i64 (x 2), .int .i64 (x 3), .int .i64 (x 4), .int .i64 (x 5), .int .i64 (x 6), .int .i64 (x 7), .int .i64 (x 8), .int .i64 (x 9), .int .i64 (x 10), .int .i64 (x 11), .int .i64 (x 12), .int .i64 (x 13), .int .i64 (x 14), .int .i64 (x 15), .int .i64 (x 16), .int .i64 (x 17), .int .i64 (x 18), .int .i64 (x 19), .int .i64 (x 20), .int .i64 (x 21), .int .i64 (x 22), .int .i64 (x 23)] 44)) 2 ([.int .i64 (x 0), .int .i64 (x 1), .int .i64 (x 2), .int .i64 (x 3), .int .i64 (x 4), .int .i64 (x 5), .int .i64 (x 6), .int .i64 (x 7), .int .i64 (x 8), .int .i64 (x 9), .int .i64 (x 10), .int .i64 (x 11), .int .i64 (x 12), .int .i64 (x 13), .int .i64 (x 14), .int .i64 (x 15), .int .i64 (x 16), .int .i64 (x 17), .int .i64 (x 18), .int .i64 (x 19), .int .i64 (x 20), .int .i64 (x 21), .int .i64 (x 22), .int .i64 (x 23)] : List Value) (fun j => .inl (by rw [Nat.add_comm]; rfl))
  have hi : (Try.prog.info? 41).map (·.size) = some (List.length ([.int .i64 (x 0), .int .i64 (x 1), .int .i64 (x 2), .int .i64 (x 3), .int .i64 (x 4), .int .i64 (x 5), .int .i64 (x 6), .int .i64 (x 7), .int .i64 (x 8), .int .i64 (x 9), .int .i64 (x 10), .int .i64 (x 11), .int .i64 (x 12), .int .i64 (x 13), .int .i64 (x 14), .int .i64 (x 15), .int .i64 (x 16), .int .i64 (x 17), .int .i64 (x 18), .int .i64 (x 19), .int .i64 (x 20), .int .i64 (x 21), .int .i64 (x 22), .int .i64 (x 23)] : List Value)) := Try.infoSTri
  clear hr hz
  go_enter Try.func11, Try.ntmps11
  go_wp2_with (with_reducible refine wpList_load_mid rfl 41 (.tmp 16) rfl w.heap.size 2 rfl [.int .i64 (x 0), .int .i64 (x 1), .int .i64 (x 2), .int .i64 (x 3), .int .i64 (x 4), .int .i64 (x 5), .int .i64 (x 6), .int .i64 (x 7), .int .i64 (x 8), .int .i64 (x 9), .int .i64 (x 10), .int .i64 (x 11), .int .i64 (x 12), .int .i64 (x 13), .int .i64 (x 14), .int .i64 (x 15), .int .i64 (x 16), .int .i64 (x 17), .int .i64 (x 18), .int .i64 (x 19), .int .i64 (x 20), .int .i64 (x 21), .int .i64 (x 22), .int .i64 (x 23)] _ hl Try.underlying41 rfl hi ?_)
  go_ret
  rw [HC.out]
  exact ⟨rfl, (Below.refl _ _).alloc (Nat.le_refl _) _⟩
set_option maxRecDepth 10000 in
set_option maxHeartbeats 1000000 in
theorem recchk_else (a : Int) (x : Nat → Int) (hr : ¬ (a < 0 ∨ 32 ≤ a)) (hz : ¬ zero24 x) (w : World) :
    Calls Try.prog 11 #[.agg #[.int .i64 a, .bool false, .int .i64 (x 0), .int .i64 (x 1), .int .i64 (x 2), .int .i64 (x 3), .int .i64 (x 4), .int .i64 (x 5), .int .i64 (x 6), .int .i64 (x 7), .int .i64 (x 8), .int .i64 (x 9), .int .i64 (x 10), .int .i64 (x 11), .int .i64 (x 12), .int .i64 (x 13), .int .i64 (x 14), .int .i64 (x 15), .int .i64 (x 16), .int .i64 (x 17), .int .i64 (x 18), .int .i64 (x 19), .int .i64 (x 20), .int .i64 (x 21), .int .i64 (x 22), .int .i64 (x 23)]] w fun e w' => e = .returned (.int .i64 (chkRec a false x)) ∧ Below w.heap.size w w' := by
  have e1 : decide (a < 0) = false := by simp; omega
  have e2 : decide (a ≥ 32) = false := by simp; omega
  have hne : ∀ w, (binOp .neq 41 (.agg #[.int .i64 (x 0), .int .i64 (x 1), .int .i64 (x 2), .int .i64 (x 3), .int .i64 (x 4), .int .i64 (x 5), .int .i64 (x 6), .int .i64 (x 7), .int .i64 (x 8), .int .i64 (x 9), .int .i64 (x 10), .int .i64 (x 11), .int .i64 (x 12), .int .i64 (x 13), .int .i64 (x 14), .int .i64 (x 15), .int .i64 (x 16), .int .i64 (x 17), .int .i64 (x 18), .int .i64 (x 19), .int .i64 (x 20), .int .i64 (x 21), .int .i64 (x 22), .int .i64 (x 23)]) (.agg #[.int .i64 0, .int .i64 0, .int .i64 0, .int .i64 0, .int .i64 0, .int .i64 0, .int .i64 0, .int .i64 0, .int .i64 0, .int .i64 0, .int .i64 0, .int .i64 0, .int .i64 0, .int .i64 0, .int .i64 0, .int .i64 0, .int .i64 0, .int .i64 0, .int .i64 0, .int .i64 0, .int .i64 0, .int .i64 0, .int .i64 0, .int .i64 0])).run Try.prog w = .ok (.bool (!decide (zero24 x))) w := fun w => neq_stri x (fun _ => 0) w
  have HC := hid1 (show chkRec a false x = 4 by unfold chkRec; rw [if_neg hr, if_neg (by decide), if_neg hz])
  rw [decide_eq_false hz] at hne
  have hl := range_in (heap_new w (.cells #[.int .i64 a, .bool false, .int .i64 (x 0), .int .i64 (x 1), .int .i64 (x 2), .int .i64 (x 3), .int .i64 (x 4), .int .i64 (x 5), .int .i64 (x 6), .int .i64 (x 7), .int .i64 (x 8), .int .i64 (x 9), .int .i64 (x 10), .int .i64 (x 11), .int .i64 (x 12), .int .i64 (x 13), .int .i64 (x 14), .int .i64 (x 15), .int .i64 (x 16), .int .i64 (x 17), .int .i64 (x 18), .int .i64 (x 19), .int .i64 (x 20), .int .i64 (x 21), .int .i64 (x 22), .int .i64 (x 23)] 44)) 2 ([.int .i64 (x 0), .int .i64 (x 1), .int .i64 (x 2), .int .i64 (x 3), .int .i64 (x 4), .int .i64 (x 5), .int .i64 (x 6), .int .i64 (x 7), .int .i64 (x 8), .int .i64 (x 9), .int .i64 (x 10), .int .i64 (x 11), .int .i64 (x 12), .int .i64 (x 13), .int .i64 (x 14), .int .i64 (x 15), .int .i64 (x 16), .int .i64 (x 17), .int .i64 (x 18), .int .i64 (x 19), .int .i64 (x 20), .int .i64 (x 21), .int .i64 (x 22), .int .i64 (x 23)] : List Value) (fun j => .inl (by rw [Nat.add_comm]; rfl))
  have hi : (Try.prog.info? 41).map (·.size) = some (List.length ([.int .i64 (x 0), .int .i64 (x 1), .int .i64 (x 2), .int .i64 (x 3), .int .i64 (x 4), .int .i64 (x 5), .int .i64 (x 6), .int .i64 (x 7), .int .i64 (x 8), .int .i64 (x 9), .int .i64 (x 10), .int .i64 (x 11), .int .i64 (x 12), .int .i64 (x 13), .int .i64 (x 14), .int .i64 (x 15), .int .i64 (x 16), .int .i64 (x 17), .int .i64 (x 18), .int .i64 (x 19), .int .i64 (x 20), .int .i64 (x 21), .int .i64 (x 22), .int .i64 (x 23)] : List Value)) := Try.infoSTri
  clear hr hz
  go_enter Try.func11, Try.ntmps11
  go_wp2_with (with_reducible refine wpList_load_mid rfl 41 (.tmp 16) rfl w.heap.size 2 rfl [.int .i64 (x 0), .int .i64 (x 1), .int .i64 (x 2), .int .i64 (x 3), .int .i64 (x 4), .int .i64 (x 5), .int .i64 (x 6), .int .i64 (x 7), .int .i64 (x 8), .int .i64 (x 9), .int .i64 (x 10), .int .i64 (x 11), .int .i64 (x 12), .int .i64 (x 13), .int .i64 (x 14), .int .i64 (x 15), .int .i64 (x 16), .int .i64 (x 17), .int .i64 (x 18), .int .i64 (x 19), .int .i64 (x 20), .int .i64 (x 21), .int .i64 (x 22), .int .i64 (x 23)] _ hl Try.underlying41 rfl hi ?_)
  go_ret
  rw [HC.out]
  exact ⟨rfl, (Below.refl _ _).alloc (Nat.le_refl _) _⟩
theorem recchk_calls (a : Int) (s : Bool) (x : Nat → Int) (w : World) :
    Calls Try.prog 11 #[.agg #[.int .i64 a, .bool s, .int .i64 (x 0), .int .i64 (x 1), .int .i64 (x 2), .int .i64 (x 3), .int .i64 (x 4), .int .i64 (x 5), .int .i64 (x 6), .int .i64 (x 7), .int .i64 (x 8), .int .i64 (x 9), .int .i64 (x 10), .int .i64 (x 11), .int .i64 (x 12), .int .i64 (x 13), .int .i64 (x 14), .int .i64 (x 15), .int .i64 (x 16), .int .i64 (x 17), .int .i64 (x 18), .int .i64 (x 19), .int .i64 (x 20), .int .i64 (x 21), .int .i64 (x 22), .int .i64 (x 23)]] w fun e w' => e = .returned (.int .i64 (chkRec a s x)) ∧ Below w.heap.size w w' := by
  by_cases hr : a < 0 ∨ 32 ≤ a
  · exact recchk_range a s x hr w
  cases s with
  | true => exact recchk_some a x hr w
  | false =>
    by_cases hz : zero24 x
    · exact recchk_zero a x hr hz w
    · exact recchk_else a x hr hz w
end Go.Proofs.Ytmholpploaecgaa
