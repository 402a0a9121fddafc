/-
  'for k, v := range m' over a map whose keys are ints.
-/
import Derived.Test.YtakobldhjndeiaaDict
import Derived.Maps.Range
namespace Go.Proofs.Ytakobldhjndeiaa
open Go.RowKit Go.Maps Go.ChangeMaps Go.MapKept

section
variable {P : Program} {t k e : TypeId} {w : World} {b r : Nat}
/-- Block r walks over the map b, whose entries are L; those of rest are still to come. -/
def DIter (w : World) (b r : Nat) (L rest : List (Int × Value)) (cnt : Nat) : Prop :=
  ∃ es clock since seen c0, w.heap[b]? = some (.map es clock) ∧ es.toList.map (fun x => (x.key, x.val)) = L.map (fun p => (Value.int .i64 p.1, p.2)) ∧ Stamped es clock ∧ (∀ p ∈ L, (Lit.int .i64 p.1).wf = true) ∧
    w.heap[r]? = some (.mapIter (some b) since seen c0) ∧ (∀ x ∈ es.toList, x.born < since) ∧ since ≤ c0 ∧ since ≤ clock ∧ cnt = (leftOf es seen).size ∧ (∀ x ∈ es.toList, (∃ p ∈ rest, x.key = .int .i64 p.1) ↔ seen.contains x.born = false) ∧ (∀ p ∈ rest, p ∈ L)
theorem DIter.dict {L rest : List (Int × Value)} {cnt : Nat} (h : DIter w b r L rest cnt) : DictAt w b L := by
  obtain ⟨es, clock, since, seen, c0, h1, h2, h3, h4, _⟩ := h
  exact ⟨es, clock, h1, h2, h3, h4⟩
theorem DIter.lt {L rest : List (Int × Value)} {cnt : Nat} (h : DIter w b r L rest cnt) : r < w.heap.size := by
  obtain ⟨es, clock, since, seen, c0, h1, h2, h3, h4, h5, _⟩ := h
  exact heap_lt h5
theorem DIter.sub {L rest : List (Int × Value)} {cnt : Nat} (h : DIter w b r L rest cnt) : ∀ p ∈ rest, p ∈ L := by
  obtain ⟨_, _, _, _, _, _, _, _, _, _, _, _, _, _, _, h⟩ := h
  exact h
theorem DIter.left_eq {L rest : List (Int × Value)} {cnt : Nat} (h : DIter w b r L rest cnt) : w.rangeLeft b r = cnt := by
  obtain ⟨es, clock, since, seen, c0, hb, _, _, _, hr, _, _, _, rfl, _⟩ := h
  simp only [World.rangeLeft, hb, hr]
theorem DIter.fr {w' : World} {S : List Nat} {L rest : List (Int × Value)} {cnt : Nat} (h : DIter w b r L rest cnt) (hf : Fr S w w') (hb : b ∉ S) (hr : r ∉ S) : DIter w' b r L rest cnt := by
  obtain ⟨es, clock, since, seen, c0, h1, h2, h3, h4, h5, h6⟩ := h
  exact ⟨es, clock, since, seen, c0, hf.heap h1 hb, h2, h3, h4, hf.heap h5 hr, h6⟩
theorem DIter.keep {w' : World} {L rest : List (Int × Value)} {cnt : Nat} (h : DIter w b r L rest cnt) (hb : Below w.heap.size w w') : DIter w' b r L rest cnt := h.fr (Fr.ofBelow hb) (by simp) (by simp)
theorem DictAt.range {L : List (Int × Value)} (h : DictAt w b L) (ht : P.underlying t = some (.map k e)) :
    ∃ o, (Instr.range t (.map (some b))).run P w = .ok (.pointer (some ⟨w.heap.size, 0, none⟩)) (w.alloc o) ∧ DIter (w.alloc o) b w.heap.size L L L.length := by
  obtain ⟨es, clock, hb, h2, h3, h4⟩ := h
  refine ⟨_, run_range_map w t k e b es clock ht hb, es, clock, clock, #[], clock, heap_keep hb _, h2, h3, h4, heap_new _ _, h3.1, Nat.le_refl _, Nat.le_refl _, ?_, fun x hx => ?_, fun _ h => h⟩
  · have : leftOf es #[] = es := Array.filter_eq_self.2 (fun x _ => by simp)
    rw [this, dict_len h2]
  · have : (x.key, x.val) ∈ L.map (fun p => (Value.int .i64 p.1, p.2)) := by rw [← h2]; exact List.mem_map.2 ⟨x, hx, rfl⟩
    obtain ⟨p, hp, he⟩ := List.mem_map.1 this
    simp only [Array.contains_empty, iff_true]
    exact ⟨p, hp, (congrArg Prod.fst he).symm⟩
theorem DIter.next {L rest : List (Int × Value)} {cnt : Nat} (h : DIter w b r L rest cnt) (hne : r ≠ b) :
    (rest = [] ∧ ∀ ty, (Instr.next (.pointer (some ⟨r, 0, none⟩)) false ty).run P w = .ok (.tuple #[.bool false]) w) ∨
    ∃ p cnt' w', p ∈ rest ∧ cnt' < cnt ∧ (∀ ty, (Instr.next (.pointer (some ⟨r, 0, none⟩)) false ty).run P w = .ok (.tuple #[.bool true, .int .i64 p.1, p.2]) w') ∧
      DIter w' b r L (rest.filter (fun q => !(q.1 == p.1))) cnt' ∧ Fr [r] w w' ∧ (Instr.entry (.pointer (some ⟨r, 0, none⟩))).run P w' = .ok (.tuple #[.int .i64 p.1, p.2]) w' := by
  obtain ⟨es, clock, since, seen, c0, hb, h2, h3, h4, hr, hold, hsc, hsk, rfl, hl, hrest⟩ := h
  have hst := (stamped_iff es clock).1 h3
  have hkeys : ∀ p ∈ L, ∃ x ∈ es.toList, x.key = .int .i64 p.1 ∧ x.val = p.2 := by
    intro p hp
    have : (Value.int .i64 p.1, p.2) ∈ es.toList.map (fun x => (x.key, x.val)) := by rw [h2]; exact List.mem_map.2 ⟨p, hp, rfl⟩
    obtain ⟨x, hx, he⟩ := List.mem_map.1 this
    exact ⟨x, hx, congrArg Prod.fst he, congrArg Prod.snd he⟩
  have hkeyL : ∀ x ∈ es.toList, ∃ p ∈ L, x.key = .int .i64 p.1 ∧ x.val = p.2 := by
    intro x hx
    have : (x.key, x.val) ∈ L.map (fun p => (Value.int .i64 p.1, p.2)) := by rw [← h2]; exact List.mem_map.2 ⟨x, hx, rfl⟩
    obtain ⟨p, hp, he⟩ := List.mem_map.1 this
    exact ⟨p, hp, (congrArg Prod.fst he).symm, (congrArg Prod.snd he).symm⟩
  rcases run_next_at (P := P) w 0 r b since c0 seen es clock hr hb hold hsc with ⟨h0, hrun⟩ | ⟨x, hx, w1, hal, hrun⟩
  · left
    refine ⟨List.eq_nil_iff_forall_not_mem.2 (fun p hp => ?_), fun _ => hrun⟩
    obtain ⟨x, hx, hk, _⟩ := hkeys p (hrest p hp)
    have h1 := (hl x hx).1 ⟨p, hp, hk⟩
    rw [all_seen es seen h0 x hx] at h1
    cases h1
  · right
    obtain ⟨hxm, hxs⟩ := mem_left hx
    obtain ⟨q, hq, hqk⟩ := (hl x hxm).2 hxs
    obtain ⟨p, hp, hpk, hpv⟩ := hkeyL x hxm
    have hpq : p.1 = q.1 := by have := hpk.symm.trans hqk; simpa using this
    have hqp : q = p := nodup_at (DictAt.nodup ⟨es, clock, hb, h2, h3, h4⟩) (hrest q hq) hp hpq.symm
    subst hqp
    have hr1 : w1.heap[r]? = some (.mapIter (some b) since seen c0) := by rcases hal with rfl | rfl <;> exact hr
    have hb1 : w1.heap[b]? = some (.map es clock) := by rcases hal with rfl | rfl <;> exact hb
    have hset := MapKept.heap_set (o' := .mapIter (some b) since (seen.push x.born) clock) hr1
    have hb' : (setBlock w1 r (.mapIter (some b) since (seen.push x.born) clock)).heap[b]? = some (.map es clock) := (hset.2 b (fun e1 => hne e1.symm)).trans hb1
    have hen := run_entry_at (P := P) _ r b since seen es clock x hset.1 hb' hxm hst.2.1
    rw [hpk, hpv] at hrun hen
    refine ⟨q, _, _, hq, left_shrinks es seen x hx, fun _ => hrun, ⟨es, clock, since, seen.push x.born, clock, hb', h2, h3, h4, hset.1, hold, hsk, hsk, rfl, fun y hy => ?_, fun y hy => hrest y (List.mem_filter.1 hy).1⟩, ?_, hen⟩
    · rw [contains_push]
      constructor
      · rintro ⟨p', hp', hk'⟩
        obtain ⟨h5, h6⟩ := List.mem_filter.1 hp'
        have h7 := (hl y hy).1 ⟨p', h5, hk'⟩
        rw [h7, Bool.false_or, beq_eq_false_iff_ne]
        intro e1
        have := born_inj hst.2.1 hy hxm e1
        subst this
        have e2 := hpk.symm.trans hk'
        simp at e2 h6
        exact h6 e2.symm
      · intro h5
        rw [Bool.or_eq_false_iff, beq_eq_false_iff_ne] at h5
        obtain ⟨p', hp', hk'⟩ := (hl y hy).2 h5.1
        refine ⟨p', List.mem_filter.2 ⟨hp', ?_⟩, hk'⟩
        simp only [Bool.not_eq_true', beq_eq_false_iff_ne]
        intro e1
        exact h5.2 (by rw [entry_eq_of_key hst.2.2 hy hxm (by rw [hk', hpk, e1])])
    · rcases hal with rfl | rfl <;> exact ⟨rfl, rfl, rfl, by simp [setBlock], fun i _ hi => hset.2 i (by simpa using hi)⟩
end
end Go.Proofs.Ytakobldhjndeiaa
