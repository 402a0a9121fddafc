/-
  The writer's Len.
-/
import Derived.Test.YtmholpploaecgaaWire
namespace Go.Proofs.Ytmholpploaecgaa
open Go.RowKit

theorem wlen_calls {w : World} {g : Nat} {S : List Nat} {bs : List UInt8} (h : Wr w g S bs) :
    Calls Try.prog 12 #[.pointer (some ⟨g, 0, none⟩)] w fun e w' => e = .returned (.int .i64 bs.length) ∧ w' = w := by
  obtain ⟨v, T, h1, h2, h3, rfl⟩ := h
  obtain ⟨a, cap, rfl, hb⟩ := h2.bytes
  have c0 := cell_at h1 0
  go_enter Try.func12, Try.ntmps12
  go_wp2
  go_ret
  exact ⟨rfl, rfl⟩

end Go.Proofs.Ytmholpploaecgaa
