/-
  How slices of structs read that came in.
-/
import Derived.Test.YtakobldhjndeiaaOpen
import Derived.Deep.Slices
import Derived.DataReads
namespace Go.Proofs.Ytakobldhjndeiaa
open Go.ChangeShapes Go.WideShapes Go.ChangeAt Go.RowKit

theorem flat_get {α : Type} (sz : Nat) : ∀ (rows : List (List α)), (∀ c ∈ rows, c.length = sz) → ∀ q r, r < sz → rows.flatten[q * sz + r]? = (rows[q]?).bind (fun c => c[r]?)
  | [], _, q, r, _ => by simp
  | c :: rows, h, 0, r, hr => by
    have hc := h c (by simp)
    simp only [List.flatten_cons, Nat.zero_mul, Nat.zero_add]
    rw [List.getElem?_append_left (by omega)]
    simp
  | c :: rows, h, q + 1, r, hr => by
    have hc := h c (by simp)
    have ih := flat_get sz rows (fun c' hc' => h c' (List.mem_cons_of_mem _ hc')) q r hr
    simp only [List.flatten_cons]
    rw [List.getElem?_append_right (by rw [hc, Nat.add_mul]; omega), hc, show (q + 1) * sz + r - sz = q * sz + r by rw [Nat.add_mul]; omega, ih]
    simp
theorem flat_len {α : Type} (sz : Nat) : ∀ (rows : List (List α)), (∀ c ∈ rows, c.length = sz) → rows.flatten.length = rows.length * sz
  | [], _ => by simp
  | c :: rows, h => by
    rw [List.flatten_cons, List.length_append, h c (by simp), flat_len sz rows (fun c' hc' => h c' (List.mem_cons_of_mem _ hc')), List.length_cons, Nat.add_mul]; omega

section
variable {H : Type} {enc : TypeId × Value → H} {P : Program} {W : World}

/-- A slice of whatever elements: each element's cells, and that they read. -/
theorem rd_slice {T E : TypeId} {base : Nat} {v : Value} {d : DataW H} {p : List MemPlace} {r : Reach} (sz : Nat) (hT : P.underlying T = some (.slice E)) (hC : P.cellsOf E = sz) (hpos : 0 < sz)
    (hok : Value.okWide P W r base T v) (h : DataW.Trod enc P W 0 (fun _ => true) true T v d p) :
    ∃ a n cap, ∃ rows : List (List Value), v = .slice a n cap ∧ rows.length = n ∧ (∀ c ∈ rows, c.length = sz) ∧ Sl W a n cap sz rows.flatten ∧ ∀ c ∈ rows, ∃ fuel y, DataW.trod enc P W 0 (fun _ => true) true fuel E c = some y := by
  obtain ⟨a, n, cap, rfl⟩ := okWide_slice hT hok
  obtain ⟨fuel, hf⟩ := h
  rcases Deep.open_slice hT hf with ⟨hcs, _⟩ | ⟨x, l, c, m, k, D, Pl, hcs, _, hl, hm, hmm, _, hx⟩
  · simp [Value.cells] at hcs
    obtain ⟨rfl, rfl, rfl⟩ := hcs
    exact ⟨none, 0, 0, [], rfl, rfl, (by simp), Sl.nil_any _ _, by simp⟩
  · simp [Value.cells] at hcs
    obtain ⟨rfl, rfl, rfl⟩ := hcs
    rw [hC] at hx
    simp only [if_true] at hmm
    obtain ⟨f, hf⟩ := Deep.choose_lt (α := List Value) (n := n) (p := fun i cs => W.cells? 0 (x.add (i * sz)) sz = some cs ∧ DataW.trod enc P W 0 (fun _ => true) true k E cs = some (D i, Pl i)) (fun i hi => hx i (by omega))
    have hfl : ∀ c ∈ (List.range n).map f, c.length = sz := by
      intro c hc
      obtain ⟨i, hi, rfl⟩ := List.mem_map.1 hc
      exact (World.cells?_some (hf i (List.mem_range.1 hi)).1).2.1
    refine ⟨some x, n, cap, (List.range n).map f, rfl, by simp, hfl, ⟨?_, hl, hm, (by simp), fun hne => ?_⟩, ?_⟩
    · rw [flat_len sz _ hfl]; simp
    · have hn : 0 < n := by
        rcases Nat.eq_zero_or_pos n with e | e
        · subst e; simp at hne
        · exact e
      have hcell : ∀ i r, i < n → r < sz → ∃ u, W.cell? (x.add (i * sz + r)) = some u ∧ (f i)[r]? = some u := by
        intro i r hi hr
        obtain ⟨h1, h2, h3⟩ := World.cells?_some (hf i hi).1
        have h4 := h3 r hr
        rw [Deep.add_add] at h4
        have h5 : (f i)[r]? = some ((f i)[r]'(by omega)) := List.getElem?_eq_getElem _
        rw [h5] at h4
        exact ⟨_, h4, h5⟩
      obtain ⟨u0, h0, _⟩ := hcell 0 0 hn hpos
      obtain ⟨b, off, spot⟩ := x
      have hspot : spot = none := by simpa [Addr.add] using World.cell?_spot h0
      subst hspot
      refine ⟨b, off, rfl, World.block_lt_of_cell? W (a := ⟨b, off, none⟩) (by simpa [Addr.add] using h0), fun i hi => ?_⟩
      have hi2 : i < n * sz := by rw [flat_len sz _ hfl] at hi; simpa using hi
      have hq : i / sz < n := (Nat.div_lt_iff_lt_mul hpos).2 hi2
      obtain ⟨u, h1, h2⟩ := hcell (i / sz) (i % sz) hq (Nat.mod_lt _ hpos)
      have e1 : i / sz * sz + i % sz = i := by rw [Nat.mul_comm]; exact Nat.div_add_mod i sz
      rw [e1, add_addr] at h1
      rw [h1]
      have h3 := flat_get sz _ hfl (i / sz) (i % sz) (Nat.mod_lt _ hpos)
      rw [e1] at h3
      simp only [List.getElem?_map, List.getElem?_range hq, Option.map_some, Option.bind_some, h2] at h3
      rw [List.getElem?_eq_getElem hi] at h3
      exact h3.symm
    · intro c hc
      obtain ⟨i, hi, rfl⟩ := List.mem_map.1 hc
      exact ⟨k, _, (hf i (List.mem_range.1 hi)).2⟩

/-- A slice of bytes in a cell. -/
theorem rd_bytes_cell {T E : TypeId} {fuel : Nat} {cs : List Value} {x : DataW H × List MemPlace} (hT : P.underlying T = some (.slice E)) (hE : P.underlying E = some (.int .u8)) (hC : P.cellsOf E = 1)
    (h : DataW.trod enc P W 0 (fun _ => true) true fuel T cs = some x) : ∃ a n cap, ∃ bs : List UInt8, cs = [.slice a n cap] ∧ Bytes W a n cap bs := by
  have hcs : ∃ a n c, cs = [.slice a n c] := by
    rcases DataW.trod_slice hT h with ⟨rfl, _⟩ | ⟨a, len, cap, _, _, _, _, rfl, _⟩
    · exact ⟨_, _, _, rfl⟩
    · exact ⟨_, _, _, rfl⟩
  obtain ⟨a, n, c, rfl⟩ := hcs
  rcases open_ints hT hE hC h with ⟨hcs, _⟩ | ⟨x', l, c', zs, hcs, _, hl, hm, hz, hx, hcell, hwz⟩
  · simp at hcs
    obtain ⟨rfl, rfl, rfl⟩ := hcs
    exact ⟨none, 0, 0, [], rfl, Sl.nil_any _ _⟩
  · simp at hcs
    obtain ⟨rfl, rfl, rfl⟩ := hcs
    have hz' : zs.length = c := by simpa using hz
    refine ⟨_, _, _, (zs.take n).map (fun z => UInt8.ofNat z.toNat), rfl, ?_⟩
    have e8 : ((zs.take n).map fun z => UInt8.ofNat z.toNat).map u8 = (zs.take n).map (Value.int .u8) := by
      rw [List.map_map]
      apply List.map_congr_left
      intro z hz
      have h1 := bounds_u8 (hwz z (List.mem_of_mem_take hz))
      simp only [Function.comp, u8, Value.int.injEq, true_and]
      rw [UInt8.toNat_ofNat']
      omega
    unfold Bytes
    rw [e8]
    refine ⟨by simp [hz', Nat.min_eq_left hl], hl, hm, by simp, fun hne => ?_⟩
    have hn : 0 < n := by
      rcases Nat.eq_zero_or_pos n with e | e
      · subst e; simp at hne
      · exact e
    have h0 := hcell 0 (by omega)
    obtain ⟨b, off, spot⟩ := x'
    have hspot : spot = none := by simpa [Addr.add] using World.cell?_spot h0
    subst hspot
    refine ⟨b, off, rfl, World.block_lt_of_cell? W (a := ⟨b, off, none⟩) (by simpa [Addr.add] using h0), fun i hi => ?_⟩
    have hi' : i < zs.length := by simp at hi; omega
    have := hcell i hi'
    rw [add_addr] at this
    rw [this]
    simp [List.getD, hi']
end
end Go.Proofs.Ytakobldhjndeiaa
