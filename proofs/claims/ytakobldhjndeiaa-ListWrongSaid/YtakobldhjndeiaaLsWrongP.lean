/-
  ListWrong: what its loops keep.
-/
import Derived.Test.YtakobldhjndeiaaLsRws
import Derived.Test.YtakobldhjndeiaaStr
namespace Go.Proofs.Ytakobldhjndeiaa
open Go.RowKit
set_option linter.unusedVariables false
set_option linter.unusedSimpArgs false

/-- The plan as the law knows it. -/
structure DOk (d : Dev) (F : Nat) (bd : Prop) (tk : Nat) : Prop where
  ok : BendsOk d
  bad : ∀ q, Bad d q → q = F ∧ bd
  takes : d.takes = tk
theorem DOk.same {d d' : Dev} {F : Nat} {bd : Prop} {tk : Nat} (h : DOk d F bd tk) (h1 : d'.fa = d.fa) (h2 : d'.be = d.be) : DOk d' F bd d'.takes := by
  refine ⟨?_, fun q hq => h.bad q ?_, rfl⟩
  · have := h.ok; unfold BendsOk at *; rwa [h2]
  · unfold Bad at *; rwa [h1, h2] at hq
structure WInv (w : World) (B N M g gd lb wb : Nat) (TA : TypeId) (S : List Nat) (tiles : List (List Ck)) (d : Dev) (vs : List Value) (ts : List (List UInt8)) : Prop where
  q : QSys w S g gd lb 60 tiles d B N M
  three : tiles.length = ts.length
  texts : ∀ (t : Nat) cs, tiles[t]? = some cs → ts[t]? = some (text cs)
  rw : Rws w 5 TA B wb vs (ts.map (fun T => T.map u8))
  ap : ∀ k ∈ rwBlocks wb vs, k ∉ S
  far : ∀ k ∈ rwBlocks wb vs, B ≤ k
section
variable {w w' w1 w2 : World} {B N M N1 M1 g gd lb wb : Nat} {TA : TypeId} {S S1 : List Nat} {tiles tiles' : List (List Ck)} {d d' : Dev} {vs : List Value} {ts : List (List UInt8)}
theorem WInv.keep (h : WInv w B N M g gd lb wb TA S tiles d vs ts) (hb : Below w.heap.size w w') : WInv w' B N M g gd lb wb TA S tiles d vs ts := ⟨h.q.keep hb, h.three, h.texts, h.rw.keep hb, h.ap, h.far⟩
theorem WInv.mono (h : WInv w B N M g gd lb wb TA S tiles d vs ts) (h1 : N ≤ N1) (h2 : M ≤ M1) : WInv w B N1 M1 g gd lb wb TA S tiles d vs ts := ⟨h.q.mono h1 h2, h.three, h.texts, h.rw, h.ap, h.far⟩
/-- The system alone goes on. -/
theorem WInv.sysStep (h : WInv w B N M g gd lb wb TA S tiles d vs ts) (hq : QSys w' S1 g gd lb 60 tiles' d' B N1 M1) (hG : Grows S w S1) (hf : Fr S w w') (h3 : tiles'.length = ts.length) (ht : ∀ (t : Nat) cs, tiles'[t]? = some cs → ts[t]? = some (text cs)) : WInv w' B N1 M1 g gd lb wb TA S1 tiles' d' vs ts := by
  refine ⟨hq, h3, ht, h.rw.fr hf h.ap, ?_, h.far⟩
  intro k hk hm
  rcases hG k hm with h1 | h1
  · exact h.ap k hk h1
  · have := h.rw.lt k hk; omega
theorem WInv.spill (h : WInv w B N M g gd lb wb TA S tiles d vs ts) (hq : QSys w' S1 g gd lb 60 tiles' d' B N1 M1) (hs : Spilled tiles tiles') (hG : Grows S w S1) (hf : Fr S w w') : WInv w' B N1 M1 g gd lb wb TA S1 tiles' d' vs ts := by
  refine h.sysStep hq hG hf (by rw [hs.len]; exact h.three) (fun t cs ht => ?_)
  have htl : t < tiles.length := by rw [← hs.len]; exact (List.getElem?_eq_some_iff.1 ht).1
  obtain ⟨cs', h1, h2⟩ := hs.texts t tiles[t] (by simp)
  rw [ht] at h1
  cases h1
  rw [h2]
  exact h.texts t tiles[t] (by simp)
/-- An empty list's bytes are forgotten by the system; the law's own row stays. -/
theorem WInv.at (h : WInv w B N M g gd lb wb TA S tiles d vs ts) {t : Nat} {T : List UInt8} (ht : ts[t]? = some T) : ∃ a cap, vs[t]? = some (.slice a T.length cap) ∧ w.cell? ⟨wb, t, none⟩ = some (.slice a T.length cap) ∧ w.frozen? ⟨wb, t, none⟩ = false ∧ OwnB w B (.slice a T.length cap) T ∧ Bytes w a T.length cap T := by
  obtain ⟨a, cap, h1, h2, h3, h4, h5⟩ := h.rw.at (t := t) (l := T.map u8) (by simp [ht])
  rw [List.length_map] at h1 h2 h4 h5
  exact ⟨a, cap, h1, h2, h3, h4, h5⟩
theorem WInv.step (h : WInv w B N M g gd lb wb TA S tiles d vs ts) {t : Nat} {cs cs1 : List Ck} {b : List UInt8} {v v2 : Value} (hq : QSys w1 S1 g gd lb 60 (tiles.set t cs1) d B N1 M1) (hG : Grows S w S1) (hf : Fr S w w1) (ht : tiles[t]? = some cs) (htx : text cs1 = text cs ++ b)
    (hv : vs[t]? = some v) (o : OwnB w2 B v2 (text cs ++ b)) (hg : w1.grownBy w2 v.ownBlock) (hl : v2.ownBlock = v.ownBlock ∨ v2.ownBlock = some w1.heap.size) (hB : B ≤ w.heap.size) :
    WInv (w2.setCell ⟨wb, t, none⟩ v2) B N1 M1 g gd lb wb TA S1 (tiles.set t cs1) d (vs.set t v2) (ts.set t (text cs ++ b)) ∧ Fr (rwBlocks wb vs ++ S) w (w2.setCell ⟨wb, t, none⟩ v2) ∧ Grows (rwBlocks wb vs ++ S) w (rwBlocks wb (vs.set t v2) ++ S1) := by
  have hts := h.texts t cs ht
  have hap1 : ∀ k ∈ rwBlocks wb vs, k ∉ S1 := fun k hk hm => by
    rcases hG k hm with h1 | h1
    · exact h.ap k hk h1
    · have := h.rw.lt k hk; omega
  have hrw1 := h.rw.fr hf h.ap
  have hfv : Fr v.ownBlock.toList w1 w2 := Fr.grown (Fr.refl _ _) hg (fun k hk => .inl (by simp [hk]))
  obtain ⟨h1, h2, h3⟩ := hrw1.put (t := t) (l := (text cs).map u8) (l2 := (text cs ++ b).map u8) (by simp [hts]) hv (by rw [List.length_map]; exact o) hfv (fun k hk => by
    rcases hl with e | e
    · exact .inl (by rw [← e]; exact hk)
    · rw [e] at hk; cases hk; exact .inr (Nat.le_refl _))
  have hs1 := hf.size
  refine ⟨⟨hq.fr h2 (fun k hk hm => hap1 k hm hk), by simpa using h.three, ?_, ?_, ?_, ?_⟩, ?_, ?_⟩
  · intro s cs' hs'
    rw [List.getElem?_set] at hs'
    rw [List.getElem?_set]
    split at hs'
    · next e =>
      subst e
      have htl := (List.getElem?_eq_some_iff.1 ht).1
      rw [if_pos rfl, if_pos (by rw [← h.three]; exact htl)]
      rw [if_pos htl] at hs'
      cases hs'
      rw [htx]
    · next e =>
      rw [if_neg e]
      exact h.texts s cs' hs'
  · rw [List.map_set]; exact h1
  · intro k hk hm
    rcases h3 k hk with h4 | h4
    · exact hap1 k h4 hm
    · have := hq.sys.lt k hm; omega
  · exact grown_far h3 h.far (by omega)
  · refine (hf.mono (S' := rwBlocks wb vs ++ S) (fun k hk => .inl (by simp [hk]))).trans (h2.mono (S' := rwBlocks wb vs ++ S) (fun k hk => .inl (by simp [hk]))) (Grows.refl _ _)
  · intro k hk
    rcases List.mem_append.1 hk with hk | hk
    · rcases h3 k hk with h4 | h4
      · exact .inl (List.mem_append_left _ h4)
      · exact .inr (Nat.le_trans hs1 h4)
    · exact (hG k hk).imp_left (List.mem_append_right _)
/-- A block beside. -/
structure BoxI (w : World) (X : Nat) (o : Obj) (S : List Nat) : Prop where
  box : w.heap[X]? = some o
  out : X ∉ S
theorem BoxI.step {X : Nat} {o : Obj} (h : BoxI w X o S) (hf : Fr S w w') (hG : Grows S w S1) : BoxI w' X o S1 := ⟨hf.heap h.box h.out, fun hm => (hG X hm).elim h.out (fun h1 => by have := heap_lt h.box; omega)⟩
theorem BoxI.keep {X : Nat} {o : Obj} (h : BoxI w X o S) (hb : Below w.heap.size w w') : BoxI w' X o S := ⟨(Fr.ofBelow hb).heap h.box (by simp), h.out⟩
theorem frSys (h : Fr S w w') : Fr (rwBlocks wb vs ++ S) w w' := h.mono (fun k hk => .inl (by simp [hk]))
theorem growsSys (h : Grows S w S1) : Grows (rwBlocks wb vs ++ S) w (rwBlocks wb vs ++ S1) := fun k hk => (List.mem_append.1 hk).elim (fun h1 => .inl (List.mem_append_left _ h1)) (fun h1 => (h k h1).imp_left (List.mem_append_right _))
theorem winv_made {w : World} {B g gd lb : Nat} {TA : TypeId} {S : List Nat} {d : Dev} (hs : Sys w S g gd lb 60 (List.replicate 3 []) d) (hfar : ∀ k ∈ S, B ≤ k) (hp : d.room = 60 ∧ d.fu = []) (hn : d.puts = 0 ∧ d.next = 0 ∧ d.takes = 0) (hB : B ≤ w.heap.size) :
    WInv (w.alloc (.cells #[.slice none 0 0, .slice none 0 0, .slice none 0 0] TA)) B 0 0 g gd lb w.heap.size TA S (List.replicate 3 []) d (List.replicate 3 (.slice none 0 0)) (List.replicate 3 []) := by
  have hk := (Below.refl w.heap.size w).alloc (Nat.le_refl _) (.cells #[.slice none 0 0, .slice none 0 0, .slice none 0 0] TA)
  have hrb : ∀ k ∈ rwBlocks w.heap.size (List.replicate 3 (Value.slice none 0 0)), k = w.heap.size := fun k hk => by
    simpa [rwBlocks, List.replicate, Value.ownBlock] using hk
  refine ⟨⟨hs.keep hk, hfar, by decide, hp, by omega⟩, rfl, fun t cs h => ?_, Rws.made w 5 TA B 3, ?_, ?_⟩
  · have : cs = [] := by
      rw [List.getElem?_replicate] at h
      split at h
      · exact (Option.some.inj h).symm
      · cases h
    subst this
    have htl : t < 3 := by have := (List.getElem?_eq_some_iff.1 h).1; simpa using this
    rw [List.getElem?_replicate, if_pos htl]; rfl
  · intro k hk hm
    rw [hrb k hk] at hm
    exact absurd (hs.lt _ hm) (Nat.lt_irrefl _)
  · intro k hk
    rw [hrb k hk]; exact hB
theorem Rws.grown6 {w w2 : World} {e T : TypeId} {B wb : Nat} {vs : List Value} {ls : List (List Value)} (h : Rws w e T B wb vs ls) {t : Nat} {v : Value} (hg : w.grownBy w2 v.ownBlock) (hv : vs[t]? = some v) : w2.cell? ⟨wb, t, none⟩ = some v ∧ w2.frozen? ⟨wb, t, none⟩ = false := by
  have hf : Fr v.ownBlock.toList w w2 := Fr.grown (Fr.refl _ _) hg (fun k hk => .inl (by simp [hk]))
  have n2 : wb ∉ v.ownBlock.toList := by intro hm; simp at hm; exact (h.apart t v wb hv hm) rfl
  have r2 := hf.heap h.row n2
  exact ⟨by rw [cell_at r2]; simpa using hv, free_at r2 t⟩
/-- While the lists are emptied. -/
structure EInv (w : World) (B N M g gd lb wb : Nat) (TA : TypeId) (S : List Nat) (tiles : List (List Ck)) (d : Dev) (vs : List Value) (ts : List (List UInt8)) (F : Nat) (bd : Prop) (i wn : Nat) : Prop where
  q : QSys w S g gd lb 60 tiles d B N M
  three : tiles.length = ts.length
  texts : ∀ (t : Nat) cs, i ≤ t → tiles[t]? = some cs → ts[t]? = some (text cs)
  gone : ∀ (t : Nat), t < i → tiles[t]? = some []
  rw : Rws w 5 TA B wb vs (ts.map (fun T => T.map u8))
  ap : ∀ k ∈ rwBlocks wb vs, k ∉ S
  dok : DOk d F bd d.takes
  wrong : wn = 0 ∨ (wn = 1 ∧ F < d.takes ∧ bd)
theorem WInv.emptying (h : WInv w B N M g gd lb wb TA S tiles d vs ts) {F : Nat} {bd : Prop} {tk : Nat} (hd : DOk d F bd tk) : EInv w B N M g gd lb wb TA S tiles d vs ts F bd 0 0 :=
  ⟨h.q, h.three, fun t cs _ => h.texts t cs, fun t ht => by omega, h.rw, h.ap, ⟨hd.ok, hd.bad, rfl⟩, .inl rfl⟩
theorem EInv.keep {F i wn : Nat} {bd : Prop} (h : EInv w B N M g gd lb wb TA S tiles d vs ts F bd i wn) (hb : Below w.heap.size w w') : EInv w' B N M g gd lb wb TA S tiles d vs ts F bd i wn := ⟨h.q.keep hb, h.three, h.texts, h.gone, h.rw.keep hb, h.ap, h.dok, h.wrong⟩
theorem EInv.step {F i wn wn' : Nat} {bd : Prop} (h : EInv w B N M g gd lb wb TA S tiles d vs ts F bd i wn) (hi : i < tiles.length) (hq : QSys w' S1 g gd lb 60 (tiles.set i []) d' B N M1) (hd : DSame d d') (hG : Grows S w S1) (hf : Fr S w w') (hw : wn' = 0 ∨ (wn' = 1 ∧ F < d'.takes ∧ bd)) : EInv w' B N M1 g gd lb wb TA S1 (tiles.set i []) d' vs ts F bd (i + 1) wn' := by
  refine ⟨hq, by simpa using h.three, ?_, ?_, h.rw.fr hf h.ap, ?_, h.dok.same hd.fa hd.be, hw⟩
  · intro t cs ht hc
    rw [List.getElem?_set_ne (by omega)] at hc
    exact h.texts t cs (by omega) hc
  · intro t ht
    by_cases e : t = i
    · subst e; simp [hi]
    · rw [List.getElem?_set_ne (by omega)]
      exact h.gone t (by omega)
  · intro k hk hm
    rcases hG k hm with h1 | h1
    · exact h.ap k hk h1
    · have := h.rw.lt k hk; omega
theorem EInv.all {F wn : Nat} {bd : Prop} (h : EInv w B N M g gd lb wb TA S tiles d vs ts F bd 3 wn) (h3 : ts.length = 3) : hereN tiles.flatten = 0 ∧ awayN tiles.flatten = 0 := by
  have hl : tiles.length = 3 := by rw [h.three, h3]
  have e : tiles = List.replicate 3 [] := by
    apply List.ext_getElem?
    intro t
    by_cases ht : t < 3
    · rw [h.gone t ht, List.getElem?_replicate, if_pos ht]
    · rw [List.getElem?_eq_none (by omega), List.getElem?_eq_none (by simp; omega)]
  rw [e]
  exact ⟨rfl, rfl⟩
theorem EInv.at {F i wn : Nat} {bd : Prop} (h : EInv w B N M g gd lb wb TA S tiles d vs ts F bd i wn) {t : Nat} {T : List UInt8} (ht : ts[t]? = some T) : ∃ a cap, vs[t]? = some (.slice a T.length cap) ∧ w.cell? ⟨wb, t, none⟩ = some (.slice a T.length cap) ∧ Bytes w a T.length cap T := by
  obtain ⟨a, cap, h1, h2, h3, h4, h5⟩ := h.rw.at (t := t) (l := T.map u8) (by simp [ht])
  rw [List.length_map] at h1 h2 h5
  exact ⟨a, cap, h1, h2, h5⟩
theorem WInv.allFar (h : WInv w B N M g gd lb wb TA S tiles d vs ts) : ∀ k ∈ rwBlocks wb vs ++ S, B ≤ k := fun k hk => (List.mem_append.1 hk).elim (h.far k) (h.q.far k)
end
end Go.Proofs.Ytakobldhjndeiaa
