/-
  How the arguments of a law read: each kind of argument, opened.
-/
import Derived.Test.YtakobldhjndeiaaHeap
import Derived.ProofKit
import Derived.OpenShut
namespace Go.Proofs.Ytakobldhjndeiaa
open Go.ChangeShapes Go.WideShapes Go.ChangeAt Go.RowKit

section
variable {H : Type} {enc : TypeId × Value → H} {P : Program} {W : World}

/-- A slice of whole numbers that came in. -/
theorem rd_ints {T E : TypeId} {k : IntKind} {base : Nat} {v : Value} {d : DataW H} {p : List MemPlace} {r : Reach} (hT : P.underlying T = some (.slice E)) (hE : P.underlying E = some (.int k)) (hC : P.cellsOf E = 1)
    (hok : Value.okWide P W r base T v) (h : DataW.Trod enc P W 0 (fun _ => true) true T v d p) :
    ∃ a n cap, ∃ zs : List Int, v = .slice a n cap ∧ Sl W a n cap 1 (zs.map (Value.int k)) ∧ ∀ z ∈ zs, (Lit.int k z).wf = true := by
  obtain ⟨a, n, cap, rfl⟩ := okWide_slice hT hok
  have hlt : ∀ x ∈ p, x.block < W.heap.size := by obtain ⟨m, hm⟩ := h; exact DataW.trod_lt m _ _ _ hm
  obtain ⟨fuel, hf⟩ := h
  rcases open_ints hT hE hC hf with ⟨hcs, _⟩ | ⟨x, l, c, zs, hcs, _, hl, hm, hz, hx, hcell, hwz⟩
  · simp [Value.cells] at hcs
    obtain ⟨rfl, rfl, rfl⟩ := hcs
    exact ⟨none, 0, 0, [], rfl, Sl.nil_any _ _, by simp⟩
  · simp [Value.cells] at hcs
    obtain ⟨rfl, rfl, rfl⟩ := hcs
    have hz' : zs.length = cap := by simpa using hz
    refine ⟨_, _, _, zs.take n, rfl, ⟨by simp [hz', Nat.min_eq_left hl], hl, hm, by simp, fun hne => ?_⟩, fun z hz => hwz z (List.mem_of_mem_take hz)⟩
    have hn : 0 < n := by
      rcases Nat.eq_zero_or_pos n with e | e
      · subst e; simp at hne
      · exact e
    have h0 := hcell 0 (by omega)
    obtain ⟨b, off, spot⟩ := x
    have hspot : spot = none := by simpa [Addr.add] using World.cell?_spot h0
    subst hspot
    refine ⟨b, off, rfl, World.block_lt_of_cell? W (a := ⟨b, off, none⟩) (by simpa [Addr.add] using h0), fun i hi => ?_⟩
    have hi' : i < zs.length := by simp at hi; omega
    have := hcell i hi'
    have he : (⟨b, off, none⟩ : Addr).add i = ⟨b, off + i, none⟩ := by
      unfold Addr.add
      split
      · rename_i e; subst e; rfl
      · rfl
    rw [he] at this
    rw [this]
    simp [List.getD, hi']

/-- A slice of bytes that came in. -/
theorem rd_bytes {T E : TypeId} {base : Nat} {v : Value} {d : DataW H} {p : List MemPlace} {r : Reach} (hT : P.underlying T = some (.slice E)) (hE : P.underlying E = some (.int .u8)) (hC : P.cellsOf E = 1)
    (hok : Value.okWide P W r base T v) (h : DataW.Trod enc P W 0 (fun _ => true) true T v d p) :
    ∃ a n cap, ∃ bs : List UInt8, v = .slice a n cap ∧ Bytes W a n cap bs := by
  obtain ⟨a, n, cap, zs, rfl, hs, hw⟩ := rd_ints hT hE hC hok h
  refine ⟨a, n, cap, zs.map (fun z => UInt8.ofNat z.toNat), rfl, ?_⟩
  have : (zs.map fun z => UInt8.ofNat z.toNat).map u8 = zs.map (Value.int .u8) := by
    rw [List.map_map]
    apply List.map_congr_left
    intro z hz
    have h1 := bounds_u8 (hw z hz)
    simp only [Function.comp, u8, Value.int.injEq, true_and]
    rw [UInt8.toNat_ofNat']
    omega
  unfold Bytes
  rw [this]
  exact hs
end
end Go.Proofs.Ytakobldhjndeiaa
