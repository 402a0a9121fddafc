/-
  The walk of the law 'StoreNone'.
-/
import Derived.Test.YtbandclbnlbkjaaDevAwake
import Derived.OpenShut
namespace Go.Proofs.Ytbandclbnlbkjaa
open Go.RowKit

theorem no_fresh {r : Nat} {z : Int} : ∀ q ∈ (fresh r).L, q.1 ≠ z := fun q hq => by simp [fresh] at hq
theorem droom_at {w : World} {g mb bb : Nat} {v1 v2 : Value} {V : List (Int × Value)} {r : Nat} (h : Dvx w g mb bb v1 v2 V (fresh r)) :
    Calls Try.prog 18 #[.pointer (some ⟨g, 0, none⟩)] w fun e w' => e = .returned (.int .i64 (r : Int)) ∧ w' = w := droom_calls h

set_option maxRecDepth 10000 in
set_option maxHeartbeats 4000000 in
theorem none_walk (room : Int) (_ : (Lit.int .i64 room).wf = true) (n : Int) (wn : (Lit.int .i64 n).wf = true) {a : Option Addr} {l cap : Nat} {bs : List UInt8} {w : World} (_ : Bytes w a l cap bs) :
    Calls Try.prog 6 #[.int .i64 room, .int .i64 n, .slice a l cap] w fun e w' => e = .returned (.bool true) ∧ Below w.heap.size w w' := by
  have hn := bounds_i64 wn
  obtain ⟨m, hm, hm2⟩ : ∃ m : Int, (if (0 : Int) > room then (0 : Int) else room) = m ∧ m = max room 0 := ⟨_, rfl, by split <;> omega⟩
  obtain ⟨r, hr, hr2⟩ : ∃ r : Nat, (if (4096 : Int) < m then (4096 : Int) else m) = (r : Int) ∧ (min (max room 0) 4096).toNat = r := ⟨(min (max room 0) 4096).toNat, by split <;> omega, rfl⟩
  have HR := hid hr2
  clear hm2 hr2
  go_enter Try.func6, Try.ntmps6
  go_wp2_with (first
    | (go_at_call 7; refine (awake06 _).mono ?_; rintro e w1 ⟨rfl, hb1⟩)
    | (go_at_call 9; with_reducible refine dput_nil.mono ?_; rintro e w2 ⟨rfl, rfl⟩)
    | (go_at_call 10; with_reducible refine dtake_nil.mono ?_; rintro e w3 ⟨rfl, rfl⟩)
    | (go_at_call 8; refine (dnew_room room r HR.out _).mono ?_; rintro e w4 ⟨g, mb, bb, v1, v2, rfl, h, hge, hb4⟩)
    | (go_at_call 10; with_reducible refine (dtake_none h no_fresh (by omega)).mono ?_; rintro e w5 ⟨rfl, rfl⟩)
    | (go_at_call 17; with_reducible refine ddrop_nil.mono ?_; rintro e w6 ⟨rfl, rfl⟩)
    | (go_at_call 17; with_reducible refine (ddrop_none h no_fresh (by omega)).mono ?_; rintro e w6 ⟨rfl, rfl⟩)
    | (go_at_call 11; with_reducible refine (dused_nil _).mono ?_; rintro e w6 ⟨rfl, rfl⟩)
    | (go_at_call 13; with_reducible refine (dmost_nil _).mono ?_; rintro e w6 ⟨rfl, rfl⟩)
    | (go_at_call 18; with_reducible refine (droom_nil _).mono ?_; rintro e w6 ⟨rfl, rfl⟩)
    | (go_at_call 18; with_reducible refine (droom_at h).mono ?_; rintro e w6 ⟨rfl, rfl⟩))
  go_ret
  exact ⟨rfl, hb1.trans (hb4.mono hb1.size)⟩
end Go.Proofs.Ytbandclbnlbkjaa
