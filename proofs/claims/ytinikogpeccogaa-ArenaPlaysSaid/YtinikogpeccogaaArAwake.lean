/-
  Chapter 15's example; the walk of the law 'ArenaNone'.
-/
import Derived.Test.YtinikogpeccogaaArNew
import Derived.Test.YtinikogpeccogaaArTake
import Derived.OpenShut
namespace Go.Proofs.Ytinikogpeccogaa
open Go.RowKit

set_option maxRecDepth 10000 in
theorem awake15 (w : World) : Calls Try.prog 6 #[] w fun e w' => e = .returned (.bool true) ∧ Below w.heap.size w w' := by
  have HN0 := new_calls 0 w
  have HN1 := new_calls 1
  rw [show (min (max (0 : Int) 0) 4096).toNat = 0 from rfl, show downs 0 0 = [] from rfl] at HN0
  rw [show (min (max (1 : Int) 0) 4096).toNat = 1 from rfl, show downs 1 0 = [] ++ [((0 : Nat) : Int)] from rfl] at HN1
  go_enter Try.func6, Try.ntmps6
  go_wp2_with (first
    | (go_at_call 7; with_reducible refine HN0.mono ?_; rintro e w1 ⟨g, S, rfl, h1, hS, hb1⟩)
    | (go_at_call 8; with_reducible refine (take_full h1).mono ?_; rintro e w2 ⟨rfl, rfl⟩)
    | (go_at_call 7; with_reducible refine (HN1 _).mono ?_; rintro e w3 ⟨g3, S3, rfl, h3, hS3, hb3⟩)
    | (go_at_call 8; with_reducible refine (take_ok h3).mono ?_; rintro e w4 ⟨rfl, S4, h4, hG4, hf4⟩))
  go_ret
  refine ⟨rfl, ?_⟩
  have hb2 := hb1.trans (hb3.mono hb1.size)
  exact Fr.below hb2 hf4 (fun k hk => Nat.le_trans hb1.size (hS3 k hk).1) hb2.size

set_option maxRecDepth 100000 in
set_option maxHeartbeats 4000000 in
theorem none_walk (many : Int) (_ : (Lit.int .i64 many).wf = true) (n : Int) (wn : (Lit.int .i64 n).wf = true) (at_ : Int) (_ : (Lit.int .i64 at_).wf = true) {a : Option Addr} {l cap : Nat} {bs : List UInt8} {w : World} (HB : Bytes w a l cap bs) :
    Calls Try.prog 5 #[.int .i64 many, .int .i64 n, .int .i64 at_, .slice a l cap] w fun e w' => e = .returned (.bool true) ∧ Below w.heap.size w w' := by
  have hlen := HB.len
  subst hlen
  by_cases h100 : bs.length > 100
  · have d1 : decide ((bs.length : Int) > 100) = true := by simp; omega
    clear h100
    go_enter Try.func5, Try.ntmps5
    go_wp2_with (go_at_call 6; refine (awake15 _).mono ?_; rintro e w1 ⟨rfl, hb1⟩)
    go_ret
    exact ⟨rfl, hb1⟩
  have d1 : decide ((bs.length : Int) > 100) = false := by simp; omega
  have hn := bounds_i64 wn
  have hn2 : -9223372036854775808 ≤ n ∧ n < 9223372036854775808 := by omega
  obtain ⟨m, hm, hm2⟩ : ∃ m : Int, (if (0 : Int) > many then (0 : Int) else many) = m ∧ m = max many 0 := ⟨_, rfl, by split <;> omega⟩
  obtain ⟨r, hr, hr2⟩ : ∃ r : Nat, (if (4096 : Int) < m then (4096 : Int) else m) = (r : Int) ∧ r = (min (max many 0) 4096).toNat := ⟨(min (max many 0) 4096).toNat, by split <;> omega, rfl⟩
  have HN := new_calls many
  rw [← hr2] at HN
  have hnU : n ∉ ([] : List Int) := by simp
  clear hm2 hr2 h100 hn
  go_enter Try.func5, Try.ntmps5
  go_wp2_with (first
    | (go_at_call 6; refine (awake15 _).mono ?_; rintro e w1 ⟨rfl, hb1⟩)
    | (go_at_call 7; refine (HN _).mono ?_; rintro e w2 ⟨g, S, rfl, h2, hS, hb2⟩; have hb3 := hb1.trans (hb2.mono hb1.size))
    | (go_at_call 8; refine (take_nil _).mono ?_; rintro e w9 ⟨rfl, rfl⟩)
    | (go_at_call 9; with_reducible refine (bytes_nil _ _).mono ?_; rintro e w9 ⟨rfl, rfl⟩)
    | (go_at_call 9; with_reducible refine (bytes_none h2 n hn2 hnU).mono ?_; rintro e w9 ⟨rfl, rfl⟩)
    | (go_at_call 14; with_reducible refine (room_nil _).mono ?_; rintro e w9 ⟨rfl, rfl⟩)
    | (go_at_call 14; with_reducible refine (room_calls h2).mono ?_; rintro e w9 ⟨rfl, rfl⟩)
    | (go_at_call 12; with_reducible refine (used_nil _).mono ?_; rintro e w9 ⟨rfl, rfl⟩)
    | (go_at_call 12; with_reducible refine (used_calls h2).mono ?_; rintro e w9 ⟨rfl, rfl⟩)
    | (go_at_call 13; with_reducible refine (most_nil _).mono ?_; rintro e w9 ⟨rfl, rfl⟩)
    | (go_at_call 13; with_reducible refine (most_calls h2).mono ?_; rintro e w9 ⟨rfl, rfl⟩)
    | (go_at_call 11; with_reducible refine (give_nil _ _).mono ?_; rintro e w9 ⟨rfl, rfl⟩)
    | (go_at_call 11; with_reducible refine (give_none h2 n hn2 hnU).mono ?_; rintro e w9 ⟨rfl, rfl⟩)
    | (go_at_call 10; with_reducible refine (write_nil _ _ _ _ _ _).mono ?_; rintro e w9 ⟨rfl, rfl⟩)
    | (go_at_call 10; with_reducible refine (write_none h2 n hn2 hnU at_ _ _ _).mono ?_; rintro e w9 ⟨rfl, rfl⟩))
  go_ret
  exact ⟨rfl, hb3⟩
end Go.Proofs.Ytinikogpeccogaa
