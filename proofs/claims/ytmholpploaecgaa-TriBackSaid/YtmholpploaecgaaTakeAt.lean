/-
  The reader's calls, with their answers named.
-/
import Derived.Test.YtmholpploaecgaaTakes2
namespace Go.Proofs.Ytmholpploaecgaa
open Go.RowKit
theorem rwithin_at {w : World} {g : Nat} {S : List Nat} {bs : List UInt8} {s s1 : Rs} {z lo hi : Int} (h : Rd w g S bs s) (e : rWithin bs s lo hi = (z, s1)) :
    Calls Try.prog 31 #[.pointer (some ⟨g, 0, none⟩), .int .i64 lo, .int .i64 hi] w fun x w' => x = .returned (.int .i64 z) ∧ Rd w' g S bs s1 ∧ Fr [g] w w' := by
  have := rwithin_calls h lo hi
  rw [e] at this
  exact this
theorem rcount_at {w : World} {g : Nat} {S : List Nat} {bs : List UInt8} {s s1 : Rs} {n : Nat} {most : Int} (h : Rd w g S bs s) (hm : most < 9223372036854775808) (e : rCount bs s most = (n, s1)) :
    Calls Try.prog 30 #[.pointer (some ⟨g, 0, none⟩), .int .i64 most] w fun x w' => x = .returned (.int .i64 n) ∧ Rd w' g S bs s1 ∧ Fr [g] w w' := by
  have := rcount_calls h most hm
  rw [e] at this
  exact this
theorem Rd.lt {w : World} {g : Nat} {S : List Nat} {bs : List UInt8} {s : Rs} (h : Rd w g S bs s) : g < w.heap.size := by
  obtain ⟨T, a, cap, h1, _⟩ := h
  exact heap_lt h1
end Go.Proofs.Ytmholpploaecgaa
