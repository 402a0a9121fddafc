/-
  Maps whose keys are ints, of the call's own: entries as a list.
-/
import Derived.Test.YtakobldhjndeiaaFr
import Derived.Maps.OwnSet
import Derived.WideKeyEntry
namespace Go.Proofs.Ytakobldhjndeiaa
open Go.RowKit Go.Maps Go.ChangeMaps Go.MapKept

section
variable {P : Program} {t k e : TypeId} {w : World} {b : Nat}

/-- Block b is a map with these entries. -/
def DictAt (w : World) (b : Nat) (L : List (Int × Value)) : Prop :=
  ∃ es clock, w.heap[b]? = some (.map es clock) ∧ es.toList.map (fun x => (x.key, x.val)) = L.map (fun p => (Value.int .i64 p.1, p.2)) ∧ Stamped es clock ∧ ∀ p ∈ L, (Lit.int .i64 p.1).wf = true

theorem DictAt.made (w : World) : DictAt (w.alloc (.map #[] 0)) w.heap.size [] := ⟨#[], 0, heap_new _ _, rfl, stamped_empty 0, fun _ h => by cases h⟩
theorem DictAt.lt {L : List (Int × Value)} (h : DictAt w b L) : b < w.heap.size := by obtain ⟨es, c, hb, _⟩ := h; exact heap_lt hb
theorem DictAt.fr {w' : World} {S : List Nat} {L : List (Int × Value)} (h : DictAt w b L) (hf : Fr S w w') (hn : b ∉ S) : DictAt w' b L := by
  obtain ⟨es, c, hb, h2⟩ := h
  exact ⟨es, c, hf.heap hb hn, h2⟩
theorem DictAt.keep {w' : World} {L : List (Int × Value)} (h : DictAt w b L) (hb : Below w.heap.size w w') : DictAt w' b L := h.fr (Fr.ofBelow hb) (by simp)
theorem DictAt.wf {L : List (Int × Value)} (h : DictAt w b L) : ∀ p ∈ L, (Lit.int .i64 p.1).wf = true := by obtain ⟨_, _, _, _, _, h⟩ := h; exact h
theorem dict_keys {es : Array MapEntry} {L : List (Int × Value)} (h : es.toList.map (fun x => (x.key, x.val)) = L.map (fun p => (Value.int .i64 p.1, p.2))) : es.toList.map (·.key) = (L.map (·.1)).map (Value.int .i64) := by
  have := congrArg (List.map Prod.fst) h
  simpa [List.map_map, Function.comp_def] using this
theorem DictAt.nodup {L : List (Int × Value)} (h : DictAt w b L) : (L.map (·.1)).Nodup := by
  obtain ⟨es, c, hb, h2, h3, _⟩ := h
  have := h3.2.2
  rw [dict_keys h2] at this
  exact (List.pairwise_map.1 this).imp (fun h e => h (by rw [e]))
theorem dict_len {es : Array MapEntry} {L : List (Int × Value)} (h : es.toList.map (fun x => (x.key, x.val)) = L.map (fun p => (Value.int .i64 p.1, p.2))) : es.size = L.length := by
  have := congrArg List.length h
  simpa using this
theorem dict_reads (hk : P.underlying k = some (.int .i64)) {es : Array MapEntry} {L : List (Int × Value)} (h : es.toList.map (fun x => (x.key, x.val)) = L.map (fun p => (Value.int .i64 p.1, p.2))) (hw : ∀ p ∈ L, (Lit.int .i64 p.1).wf = true) :
    ∀ x ∈ es.toList, ∃ l, keyOf P k x.key = some l := by
  intro x hx
  have : (x.key, x.val) ∈ L.map (fun p => (Value.int .i64 p.1, p.2)) := by rw [← h]; exact List.mem_map.2 ⟨x, hx, rfl⟩
  obtain ⟨p, hp, he⟩ := List.mem_map.1 this
  have e1 := congrArg Prod.fst he
  simp only at e1
  exact ⟨_, by rw [← e1]; exact keyOf_int_mk hk (hw p hp)⟩
theorem dict_get {es : Array MapEntry} {L : List (Int × Value)} (h : es.toList.map (fun x => (x.key, x.val)) = L.map (fun p => (Value.int .i64 p.1, p.2))) {j : Nat} {x : MapEntry} (hj : es.toList[j]? = some x) : ∃ p, L[j]? = some p ∧ x.key = .int .i64 p.1 ∧ x.val = p.2 := by
  have : (es.toList.map (fun x => (x.key, x.val)))[j]? = some (x.key, x.val) := by rw [List.getElem?_map, hj]; rfl
  rw [h, List.getElem?_map] at this
  cases hp : L[j]? with
  | none => rw [hp] at this; cases this
  | some p => rw [hp] at this; simp at this; exact ⟨p, rfl, this.1.symm, this.2.symm⟩
theorem dict_not {es : Array MapEntry} {L : List (Int × Value)} (h : es.toList.map (fun x => (x.key, x.val)) = L.map (fun p => (Value.int .i64 p.1, p.2))) {z : Int} (hz : ∀ x ∈ es.toList, x.key ≠ .int .i64 z) : ∀ p ∈ L, p.1 ≠ z := by
  intro p hp e
  have : (Value.int .i64 p.1, p.2) ∈ es.toList.map (fun x => (x.key, x.val)) := by rw [h]; exact List.mem_map.2 ⟨p, hp, rfl⟩
  obtain ⟨x, hx, he⟩ := List.mem_map.1 this
  exact hz x hx (by have := congrArg Prod.fst he; simp only at this; rw [this, e])

/-- What stands at a key, else the zero. -/
def dget (L : List (Int × Value)) (z : Int) (d : Value) : Value := ((L.find? (fun p => p.1 == z)).map (·.2)).getD d
def dhas (L : List (Int × Value)) (z : Int) : Bool := L.any (fun p => p.1 == z)
theorem dget_none {L : List (Int × Value)} {z : Int} (h : ∀ p ∈ L, p.1 ≠ z) (d : Value) : dget L z d = d ∧ dhas L z = false := by
  have h1 : L.find? (fun p => p.1 == z) = none := List.find?_eq_none.2 (fun p hp => by simp [h p hp])
  refine ⟨by unfold dget; rw [h1]; rfl, ?_⟩
  unfold dhas; rw [List.any_eq_false]; intro p hp; simp [h p hp]
theorem nodup_at {L : List (Int × Value)} (h : (L.map (·.1)).Nodup) {p q : Int × Value} (hp : p ∈ L) (hq : q ∈ L) (he : p.1 = q.1) : p = q := by
  induction L with
  | nil => cases hp
  | cons x L ih =>
    simp only [List.map_cons, List.nodup_cons] at h
    rcases List.mem_cons.1 hp with rfl | hp' <;> rcases List.mem_cons.1 hq with rfl | hq'
    · rfl
    · exact absurd (List.mem_map.2 ⟨q, hq', he.symm⟩) h.1
    · exact absurd (List.mem_map.2 ⟨p, hp', he⟩) h.1
    · exact ih h.2 hp' hq'
theorem dget_some {L : List (Int × Value)} (h : (L.map (·.1)).Nodup) {p : Int × Value} (hp : p ∈ L) (d : Value) : dget L p.1 d = p.2 ∧ dhas L p.1 = true := by
  refine ⟨?_, List.any_eq_true.2 ⟨p, hp, by simp⟩⟩
  unfold dget
  cases hf : L.find? (fun q => q.1 == p.1) with
  | none => exact absurd (List.find?_eq_none.1 hf p hp) (by simp)
  | some q =>
    have h1 := List.mem_of_find?_eq_some hf
    have h2 := List.find?_some hf
    simp at h2
    rw [nodup_at h h1 hp h2]; rfl

/-- 'm[z]', 'v, ok := m[z]'. -/
theorem DictAt.look {L : List (Int × Value)} (h : DictAt w b L) (ht : P.underlying t = some (.map k e)) (hk : P.underlying k = some (.int .i64)) {d : Value} (hz : (zeroValue e).run P w = .ok d w) (c : Bool) {z : Int} (wz : (Lit.int .i64 z).wf = true) :
    (Instr.lookup t (.map (some b)) (.int .i64 z) c).run P w = .ok (if c then .tuple #[dget L z d, .bool (dhas L z)] else dget L z d) w := by
  have hn := h.nodup
  obtain ⟨es, cl, hb, h2, h3, h4⟩ := h
  have hkey := keyOf_int_mk (P := P) hk wz
  have K := int_keyed (P := P) hk
  rcases K.find w hkey es.toList (dict_reads hk h2 h4) with ⟨h1, hne⟩ | ⟨j, x, h1, hj, hx⟩
  · obtain ⟨e1, e2⟩ := dget_none (dict_not h2 hne) d
    rw [e1, e2]
    simp [Instr.lookup, run_underlying ht, MapKept.run_getObj_map hb, K.check w _ hkey, h1, hz, Result.andThen]
  · obtain ⟨p, hp, e1, e2⟩ := dict_get h2 hj
    rw [hx] at e1
    have e3 : z = p.1 := by cases e1; rfl
    obtain ⟨e4, e5⟩ := dget_some hn (List.mem_of_getElem? hp) d
    rw [e3, e4, e5]
    rw [e3] at h1 hkey
    simp [Instr.lookup, run_underlying ht, MapKept.run_getObj_map hb, K.check w _ hkey, h1, Result.andThen, e2]
/-- 'len(m)'. -/
theorem DictAt.len {L : List (Int × Value)} (h : DictAt w b L) (ht : P.underlying t = some (.map k e)) (ty : TypeId) : (Builtin.len_ #[t] ty #[.map (some b)]).run P w = .ok (.int .i64 L.length) w := by
  obtain ⟨es, cl, hb, h2, h3, h4⟩ := h
  simp [Builtin.len_, run_underlying ht, MapKept.run_getObj_map hb, goInt, Result.andThen, dict_len h2]

theorem fr_setBlock {es : Array MapEntry} {cl : Nat} (hb : w.heap[b]? = some (.map es cl)) (o : Obj) : Fr [b] w (setBlock w b o) :=
  ⟨rfl, rfl, rfl, by simp [setBlock], fun i _ hi => heap_setBlock_other hb _ (by simpa using hi)⟩
theorem map_erase {α β : Type} (f : α → β) : ∀ (l : List α) (j : Nat), (l.eraseIdx j).map f = (l.map f).eraseIdx j
  | [], _ => rfl
  | a :: l, 0 => rfl
  | a :: l, j + 1 => by simp [map_erase f l j]
/-- 'delete(m, z)'. -/
theorem DictAt.drop {L : List (Int × Value)} (h : DictAt w b L) (ht : P.underlying t = some (.map k e)) (hk : P.underlying k = some (.int .i64)) {z : Int} (wz : (Lit.int .i64 z).wf = true) (ty : TypeId) :
    ∃ w', (Builtin.delete_ #[t, k] ty #[.map (some b), .int .i64 z]).run P w = .ok (.tuple #[]) w' ∧ DictAt w' b (L.filter (fun p => !(p.1 == z))) ∧ Fr [b] w w' := by
  have hn := h.nodup
  obtain ⟨es, cl, hb, h2, h3, h4⟩ := h
  have hkey := keyOf_int_mk (P := P) hk wz
  have K := int_keyed (P := P) hk
  rcases K.find w hkey es.toList (dict_reads hk h2 h4) with ⟨h1, hne⟩ | ⟨j, x, h1, hj, hx⟩
  · have hd := dict_not h2 hne
    have hL : L.filter (fun p => !(p.1 == z)) = L := List.filter_eq_self.2 (fun p hp => by simp [hd p hp])
    refine ⟨setBlock w b (.map es cl), ?_, ?_, fr_setBlock hb _⟩
    · simp [Builtin.delete_, run_underlying ht, MapKept.run_getObj_map hb, K.check w _ hkey, h1, MapKept.run_setObj_map _ hb, Result.andThen, setBlock]
    · rw [hL]; exact ⟨es, cl, heap_setBlock_same hb _, h2, h3, h4⟩
  · obtain ⟨p, hp, e1, e2⟩ := dict_get h2 hj
    rw [hx] at e1
    have e3 : z = p.1 := by cases e1; rfl
    have hjs : j < es.size := by have := (List.getElem?_eq_some_iff.1 hj).1; simpa using this
    have hsub : (es.eraseIdxIfInBounds j).toList = es.toList.eraseIdx j := by
      unfold Array.eraseIdxIfInBounds
      rw [dif_pos hjs]
      simp
    have hL : L.filter (fun p => !(p.1 == z)) = L.eraseIdx j := filter_eq_eraseIdx (fun q => q.1 == z) L j p hp (by simp [e3]) ((List.pairwise_map.1 hn).imp (fun h1 ⟨h2, h3⟩ => h1 (by simp at h2 h3; rw [h2, h3])))
    refine ⟨setBlock w b (.map (es.eraseIdxIfInBounds j) cl), ?_, ⟨es.eraseIdxIfInBounds j, cl, heap_setBlock_same hb _, ?_, stamped_erase h3 j, fun p hp => h4 p (List.mem_filter.1 hp).1⟩, fr_setBlock hb _⟩
    · simp [Builtin.delete_, run_underlying ht, MapKept.run_getObj_map hb, K.check w _ hkey, h1, MapKept.run_setObj_map _ hb, Result.andThen, setBlock]
    · rw [hL, hsub, map_erase, map_erase, h2]
/-- 'm[z] = v', where nothing stands at z. -/
theorem DictAt.add {L : List (Int × Value)} (h : DictAt w b L) (ht : P.underlying t = some (.map k e)) (hk : P.underlying k = some (.int .i64)) {z : Int} (wz : (Lit.int .i64 z).wf = true) (hno : ∀ p ∈ L, p.1 ≠ z) (v : Value) :
    ∃ w', (Instr.mapUpdate t (.map (some b)) (.int .i64 z) v).run P w = .ok () w' ∧ DictAt w' b (L ++ [(z, v)]) ∧ Fr [b] w w' := by
  obtain ⟨es, cl, hb, h2, h3, h4⟩ := h
  have hkey := keyOf_int_mk (P := P) hk wz
  have K := int_keyed (P := P) hk
  rcases K.find w hkey es.toList (dict_reads hk h2 h4) with ⟨h1, hne⟩ | ⟨j, x, h1, hj, hx⟩
  · refine ⟨setBlock w b (.map (es.push ⟨.int .i64 z, v, cl⟩) (cl + 1)), ?_, ⟨_, _, heap_setBlock_same hb _, by simp [h2], stamped_push h3 hne, ?_⟩, fr_setBlock hb _⟩
    · simp [Instr.mapUpdate, run_underlying ht, MapKept.run_getObj_map hb, K.check w false hkey, h1, MapKept.run_setObj_map _ hb, Result.andThen, setBlock]
    · intro p hp
      rcases List.mem_append.1 hp with hp | hp
      · exact h4 p hp
      · simp at hp; subst hp; exact wz
  · obtain ⟨p, hp, e1, e2⟩ := dict_get h2 hj
    rw [hx] at e1
    exact absurd (by cases e1; rfl) (hno p (List.mem_of_getElem? hp))

/-- A map with an entry that waits for its value: behind 'm[z], .. =', ahead of the store. -/
def DictHalf (w : World) (b : Nat) (L : List (Int × Value)) (z : Int) (st : Nat) : Prop :=
  ∃ es v, w.heap[b]? = some (.map (es.push ⟨.int .i64 z, v, st⟩) (st + 1)) ∧ es.toList.map (fun x => (x.key, x.val)) = L.map (fun p => (Value.int .i64 p.1, p.2)) ∧ Stamped es st ∧ (∀ x ∈ es.toList, x.key ≠ .int .i64 z) ∧ (∀ p ∈ L, (Lit.int .i64 p.1).wf = true) ∧ (Lit.int .i64 z).wf = true
theorem DictHalf.fr {w' : World} {S : List Nat} {L : List (Int × Value)} {z : Int} {st : Nat} (h : DictHalf w b L z st) (hf : Fr S w w') (hn : b ∉ S) : DictHalf w' b L z st := by
  obtain ⟨es, v, hb, h2⟩ := h
  exact ⟨es, v, hf.heap hb hn, h2⟩
theorem DictHalf.keep {w' : World} {L : List (Int × Value)} {z : Int} {st : Nat} (h : DictHalf w b L z st) (hb : Below w.heap.size w w') : DictHalf w' b L z st := h.fr (Fr.ofBelow hb) (by simp)
theorem DictAt.entry {L : List (Int × Value)} (h : DictAt w b L) (ht : P.underlying t = some (.map k e)) (hk : P.underlying k = some (.int .i64)) {d : Value} (hzv : (zeroValue e).run P w = .ok d w) {z : Int} (wz : (Lit.int .i64 z).wf = true) (hno : ∀ p ∈ L, p.1 ≠ z) :
    ∃ w' st, (Instr.mapEntry t (.map (some b)) (.int .i64 z)).run P w = .ok (.tuple #[d, .int .i64 (st : Nat)]) w' ∧ DictHalf w' b L z st ∧ Fr [b] w w' := by
  obtain ⟨es, cl, hb, h2, h3, h4⟩ := h
  have hkey := keyOf_int_mk (P := P) hk wz
  have K := int_keyed (P := P) hk
  rcases K.find w hkey es.toList (dict_reads hk h2 h4) with ⟨h1, hne⟩ | ⟨j, x, h1, hj, hx⟩
  · refine ⟨setBlock w b (.map (es.push ⟨.int .i64 z, d, cl⟩) (cl + 1)), cl, ?_, ⟨es, d, heap_setBlock_same hb _, h2, h3, hne, h4, wz⟩, fr_setBlock hb _⟩
    simp [Instr.mapEntry, run_underlying ht, MapKept.run_getObj_map hb, K.check w false hkey, h1, hzv, MapKept.run_setObj_map _ hb, Result.andThen, setBlock, goInt]
  · obtain ⟨p, hp, e1, e2⟩ := dict_get h2 hj
    rw [hx] at e1
    exact absurd (by cases e1; rfl) (hno p (List.mem_of_getElem? hp))
theorem DictHalf.store {L : List (Int × Value)} {z : Int} {st : Nat} (h : DictHalf w b L z st) (v : Value) :
    ∃ w', (Instr.entryStore t (.map (some b)) (.int .i64 (st : Nat)) v).run P w = .ok () w' ∧ DictAt w' b (L ++ [(z, v)]) ∧ Fr [b] w w' := by
  obtain ⟨es, v0, hb, h2, h3, hne, h4, wz⟩ := h
  have hidx : (es.push ⟨.int .i64 z, v0, st⟩).findIdx? (fun e => ((e.born : Nat) : Int) == ((st : Nat) : Int)) = some es.size := by
    have := WideElems.findIdx_born (l := (es.push ⟨.int .i64 z, v0, st⟩).toList) (j := es.size) (e0 := ⟨.int .i64 z, v0, st⟩) (by
      simp only [Array.toList_push, List.map_append, List.map_cons, List.map_nil]
      refine List.nodup_append.2 ⟨h3.2.1, by simp, fun a ha c hc e1 => ?_⟩
      simp only [List.mem_singleton] at hc
      obtain ⟨x, hx, rfl⟩ := List.mem_map.1 ha
      have := h3.1 x hx
      omega) (by simp)
    rw [WideElems.findIdx_arr]; exact this
  have hmod : (es.push ⟨.int .i64 z, v0, st⟩).modify es.size (fun e => { e with val := v }) = es.push ⟨.int .i64 z, v, st⟩ := by
    apply Array.ext'
    rw [Array.toList_modify, Array.toList_push, Array.toList_push, ← Array.length_toList, WideElems.modify_last]
  refine ⟨setBlock w b (.map (es.push ⟨.int .i64 z, v, st⟩) (st + 1)), ?_, ⟨_, _, heap_setBlock_same hb _, by simp [h2], stamped_push h3 hne, ?_⟩, fr_setBlock hb _⟩
  · simp [Instr.entryStore, MapKept.run_getObj_map hb, asInt, asIntOf, hidx, hmod, MapKept.run_setObj_map _ hb, Result.andThen, setBlock]
  · intro p hp
    rcases List.mem_append.1 hp with hp | hp
    · exact h4 p hp
    · simp at hp; subst hp; exact wz
end
end Go.Proofs.Ytakobldhjndeiaa
