/-
  An array of slices that the call owns: rows, each of one cell an element.
-/
import Derived.Test.YtakobldhjndeiaaLsAny
import Derived.Test.YtakobldhjndeiaaStr
namespace Go.Proofs.Ytakobldhjndeiaa
open Go.RowKit
set_option linter.unusedVariables false
set_option linter.unusedSimpArgs false

structure Rws (w : World) (e T : TypeId) (B wb : Nat) (vs : List Value) (ls : List (List Value)) : Prop where
  row : w.heap[wb]? = some (.cells vs.toArray T (0, 0))
  len : vs.length = ls.length
  rows : ∀ (t : Nat) v l, vs[t]? = some v → ls[t]? = some l → w.ownsRow B e 1 v l.length l
  apart : ∀ (t : Nat) v k, vs[t]? = some v → v.ownBlock = some k → k ≠ wb
  inj : ∀ (t s : Nat) v u k, vs[t]? = some v → vs[s]? = some u → v.ownBlock = some k → u.ownBlock = some k → t = s
def rwBlocks (wb : Nat) (vs : List Value) : List Nat := wb :: vs.filterMap Value.ownBlock
theorem rw_mem {wb : Nat} {vs : List Value} {t k : Nat} {v : Value} (h : vs[t]? = some v) (hk : v.ownBlock = some k) : k ∈ rwBlocks wb vs := List.mem_cons_of_mem _ (vs_mem h hk)
section
variable {w w' w2 : World} {e T : TypeId} {B wb : Nat} {vs : List Value} {ls : List (List Value)}
theorem Rws.fr (h : Rws w e T B wb vs ls) {S : List Nat} (hf : Fr S w w') (hn : ∀ k ∈ rwBlocks wb vs, k ∉ S) : Rws w' e T B wb vs ls :=
  ⟨hf.heap h.row (hn wb (List.mem_cons_self ..)), h.len, fun t v l h1 h2 => own_fr (h.rows t v l h1 h2) hf (fun k hk => hn k (rw_mem h1 hk)), h.apart, h.inj⟩
theorem Rws.keep (h : Rws w e T B wb vs ls) (hb : Below w.heap.size w w') : Rws w' e T B wb vs ls := h.fr (Fr.ofBelow hb) (fun k _ hm => by cases hm)
theorem Rws.lt (h : Rws w e T B wb vs ls) : ∀ k ∈ rwBlocks wb vs, k < w.heap.size := by
  intro k hk
  rcases List.mem_cons.1 hk with rfl | hk
  · exact heap_lt h.row
  · obtain ⟨v, hv, ek⟩ := List.mem_filterMap.1 hk
    obtain ⟨t, ht⟩ := List.getElem?_of_mem hv
    have htl : t < ls.length := by rw [← h.len]; exact (List.getElem?_eq_some_iff.1 ht).1
    exact (World.ownsRow.lt (h.rows t v ls[t] ht (by simp)) k ek).2
theorem Rws.at (h : Rws w e T B wb vs ls) {t : Nat} {l : List Value} (ht : ls[t]? = some l) : ∃ a cap, vs[t]? = some (.slice a l.length cap) ∧ w.cell? ⟨wb, t, none⟩ = some (.slice a l.length cap) ∧ w.frozen? ⟨wb, t, none⟩ = false ∧ w.ownsRow B e 1 (.slice a l.length cap) l.length l ∧ Sl w a l.length cap 1 l := by
  have hl := (List.getElem?_eq_some_iff.1 ht).1
  have hv : t < vs.length := by rw [h.len]; exact hl
  have h1 : vs[t]? = some vs[t] := by simp
  have h2 := h.rows t _ l h1 ht
  obtain ⟨a, cap, ev, hs⟩ := Sl.of_own h2
  rw [ev] at h1 h2
  exact ⟨a, cap, h1, by rw [cell_at h.row]; simpa using h1, free_at h.row t, h2, hs⟩
theorem Rws.put (h : Rws w e T B wb vs ls) {t : Nat} {l l2 : List Value} {v v2 : Value} (ht : ls[t]? = some l) (hv : vs[t]? = some v)
    (o : w2.ownsRow B e 1 v2 l2.length l2) (hf : Fr v.ownBlock.toList w w2) (hl : ∀ k, v2.ownBlock = some k → v.ownBlock = some k ∨ w.heap.size ≤ k) :
    Rws (w2.setCell ⟨wb, t, none⟩ v2) e T B wb (vs.set t v2) (ls.set t l2) ∧ Fr (rwBlocks wb vs) w (w2.setCell ⟨wb, t, none⟩ v2) ∧ Grows (rwBlocks wb vs) w (rwBlocks wb (vs.set t v2)) := by
  have hap := h.apart
  have htl : t < vs.length := (List.getElem?_eq_some_iff.1 hv).1
  have htt : t < ls.length := (List.getElem?_eq_some_iff.1 ht).1
  have n2 : wb ∉ v.ownBlock.toList := by intro hm; simp at hm; exact (hap t v wb hv hm) rfl
  have row2 := hf.heap h.row n2
  have hs : Fr [wb] w2 (w2.setCell ⟨wb, t, none⟩ v2) := Fr.set (Fr.refl _ _) _ (.inl (by simp)) _
  have hcb := heap_lt h.row
  have hv2 : ∀ k, v2.ownBlock = some k → k ≠ wb := by
    intro k hk
    rcases hl k hk with h1 | h1
    · exact hap t v k hv h1
    · omega
  have hget : ∀ (s : Nat) u, (vs.set t v2)[s]? = some u → (s = t ∧ u = v2) ∨ (s ≠ t ∧ vs[s]? = some u) := by
    intro s u hu
    rw [List.getElem?_set] at hu
    split at hu
    · next e =>
      subst e
      try rw [if_pos htl] at hu
      exact .inl ⟨rfl, (Option.some.inj hu).symm⟩
    · next e => exact .inr ⟨fun e' => e e'.symm, hu⟩
  have hgett : ∀ (s : Nat) u, (ls.set t l2)[s]? = some u → (s = t ∧ u = l2) ∨ (s ≠ t ∧ ls[s]? = some u) := by
    intro s u hu
    rw [List.getElem?_set] at hu
    split at hu
    · next e =>
      subst e
      try rw [if_pos htt] at hu
      exact .inl ⟨rfl, (Option.some.inj hu).symm⟩
    · next e => exact .inr ⟨fun e' => e e'.symm, hu⟩
  refine ⟨⟨?_, by simpa using h.len, ?_, ?_, ?_⟩, ?_, ?_⟩
  · rw [heap_set (a := ⟨wb, t, none⟩) row2 rfl]
    congr 2
    apply Array.toList_inj.1
    simp
  · intro s u c hu hc
    rcases hget s u hu with ⟨rfl, rfl⟩ | ⟨hne, hu⟩
    · rcases hgett s c hc with ⟨_, rfl⟩ | ⟨h1, _⟩
      · exact own_fr o hs (fun k hk => by simpa using (hv2 k hk))
      · exact absurd rfl h1
    · rcases hgett s c hc with ⟨h1, _⟩ | ⟨_, hc⟩
      · exact absurd h1 hne
      · refine own_fr (own_fr (h.rows s u c hu hc) hf ?_) hs (fun k hk => by simpa using (hap s u k hu hk))
        intro k hk hm
        simp at hm
        exact hne (h.inj s t u v k hu hv hk hm)
  · intro s u k hu hk
    rcases hget s u hu with ⟨rfl, rfl⟩ | ⟨hne, hu⟩
    · exact hv2 k hk
    · exact hap s u k hu hk
  · have hlow : ∀ (s : Nat) u k, vs[s]? = some u → u.ownBlock = some k → k < w.heap.size := fun s u k hu hk => h.lt k (rw_mem hu hk)
    intro s q u x k hu hx hk hk'
    rcases hget s u hu with ⟨h1, h1'⟩ | ⟨h1, hu1⟩ <;> rcases hget q x hx with ⟨h2, h2'⟩ | ⟨h2, hx1⟩
    · rw [h1, h2]
    · rw [h1'] at hk
      rcases hl k hk with h3 | h3
      · exact absurd (h.inj t q v x k hv hx1 h3 hk').symm h2
      · have := hlow q x k hx1 hk'; omega
    · rw [h2'] at hk'
      rcases hl k hk' with h3 | h3
      · exact absurd (h.inj s t u v k hu1 hv hk h3) h1
      · have := hlow s u k hu1 hk; omega
    · exact h.inj s q u x k hu1 hx1 hk hk'
  · refine (hf.mono ?_).trans (hs.mono (S' := rwBlocks wb vs) ?_) (Grows.refl _ _)
    · intro k hk
      simp at hk
      exact .inl (rw_mem hv hk)
    · intro k hk; simp at hk; left; rw [hk]; exact List.mem_cons_self ..
  · intro k hk
    unfold rwBlocks at hk ⊢
    simp only [List.mem_cons, List.mem_filterMap] at hk ⊢
    rcases hk with hk | ⟨u, hu, hk⟩
    · exact .inl (.inl hk)
    · obtain ⟨s, hs⟩ := List.getElem?_of_mem hu
      rcases hget s u hs with ⟨rfl, rfl⟩ | ⟨_, h1⟩
      · rcases hl k hk with h1 | h1
        · exact .inl (.inr ⟨v, List.mem_of_getElem? hv, h1⟩)
        · exact .inr h1
      · exact .inl (.inr ⟨u, List.mem_of_getElem? h1, hk⟩)
/-- One cell of a row. -/
theorem Rws.cell (h : Rws w e T B wb vs ls) {t g n cap : Nat} {l : List Value} (ht : ls[t]? = some l) (hv : vs[t]? = some (.slice (some ⟨g, 0, none⟩) n cap)) (j : Nat) (hj : j < l.length) (u : Value) :
    Rws (w.setCell ⟨g, j, none⟩ u) e T B wb vs (ls.set t (l.set j u)) ∧ Fr (rwBlocks wb vs) w (w.setCell ⟨g, j, none⟩ u) := by
  have hap := h.apart
  have htt : t < ls.length := (List.getElem?_eq_some_iff.1 ht).1
  have n2 := hap t _ g hv rfl
  have hs : Fr [g] w (w.setCell ⟨g, j, none⟩ u) := Fr.set (Fr.refl _ _) _ (.inl (by simp)) _
  refine ⟨⟨hs.heap h.row (by simpa using n2.symm), by simpa using h.len, ?_, hap, h.inj⟩, hs.mono ?_⟩
  · intro s v ds hs1 hs2
    rw [List.getElem?_set] at hs2
    split at hs2
    · next e' =>
      subst e'
      try rw [if_pos htt] at hs2
      cases hs2
      rw [hv] at hs1
      cases hs1
      obtain ⟨h1, h2⟩ := h.rows t _ l hv ht
      refine ⟨by simp, ?_⟩
      rcases h2 with ⟨h3, _⟩ | ⟨g', cap', cur, hv', hB, hg, hn, hc, hsz, htk⟩
      · cases h3
      · simp only [Value.slice.injEq, Option.some.injEq, Addr.mk.injEq] at hv'
        obtain ⟨⟨rfl, _, _⟩, rfl, rfl⟩ := hv'
        refine .inr ⟨g, cap, cur.setIfInBounds j u, by simp, hB, ?_, by simpa using hn, hc, by simpa using hsz, ?_⟩
        · rw [heap_set (a := ⟨g, j, none⟩) hg rfl]
        · rw [List.length_set]
          simp only [Nat.mul_one] at htk ⊢
          rw [Array.toList_setIfInBounds, List.take_set, htk]
    · next e' =>
      refine own_fr (h.rows s v ds hs1 hs2) hs ?_
      intro k hk hm
      simp at hm
      subst hm
      exact e' (h.inj s t v _ k hs1 hv hk rfl).symm
  · intro k hk
    simp at hk
    left
    rw [hk]
    exact rw_mem hv rfl
end
/-- Just made: rows of none. -/
theorem Rws.made (w : World) (e T : TypeId) (B n : Nat) : Rws (w.alloc (.cells (List.replicate n (Value.slice none 0 0)).toArray T)) e T B w.heap.size (List.replicate n (.slice none 0 0)) (List.replicate n []) := by
  have hz : ∀ (t : Nat) v, (List.replicate n (Value.slice none 0 0))[t]? = some v → v = .slice none 0 0 := fun t v h => by
    rw [List.getElem?_replicate] at h
    split at h
    · exact (Option.some.inj h).symm
    · cases h
  refine ⟨heap_new _ _, by simp, fun t v l h1 h2 => ?_, (fun t v k h1 h2 => by rw [hz t v h1] at h2; cases h2), (fun t s v u k h1 _ h2 _ => by rw [hz t v h1] at h2; cases h2)⟩
  rw [hz t v h1]
  have : l = [] := by
    rw [List.getElem?_replicate] at h2
    split at h2
    · exact (Option.some.inj h2).symm
    · cases h2
  rw [this]
  exact World.ownsRow_nil _ _ _ _
end Go.Proofs.Ytakobldhjndeiaa
