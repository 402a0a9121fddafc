/-
  Where the bytes lie that came in: their places.
-/
import Derived.Test.YtbandclbnlbkjaaOpenS
namespace Go.Proofs.Ytbandclbnlbkjaa
open Go.ChangeShapes Go.WideShapes Go.ChangeAt Go.RowKit
theorem rd_bytes_pl {H : Type} {enc : TypeId × Value → H} {P : Program} {W : World} {T E : TypeId} {a : Option Addr} {n cap : Nat} {d : DataW H} {p : List MemPlace} (hT : P.underlying T = some (.slice E)) (hC : P.cellsOf E = 1)
    (h : DataW.Trod enc P W 0 (fun _ => true) true T (.slice a n cap) d p) (b off : Nat) (ha : a = some ⟨b, off, none⟩) (hn : 0 < n) : MemPlace.cell b off ∈ p := by
  obtain ⟨fuel, hf⟩ := h
  rcases Deep.open_slice1 hT hC hf with ⟨hcs, _⟩ | ⟨x, l, c, m, k, V, D, Pl, hcs, _, hl, hm, hmm, hx, _⟩
  · simp [Value.cells] at hcs
    omega
  · simp [Value.cells] at hcs
    obtain ⟨h1, rfl, rfl⟩ := hcs
    rw [ha] at h1
    cases h1
    simp only [Prod.mk.injEq] at hx
    rw [hx.2]
    refine List.mem_append.2 (.inl ?_)
    unfold MemPlace.row
    rw [List.mem_map]
    exact ⟨0, List.mem_range.2 (by simp at hmm; omega), rfl⟩
end Go.Proofs.Ytbandclbnlbkjaa
