/-
  Spill, whatever there is; chapter 17's acts as they come in.
-/
import Derived.Test.YtakobldhjndeiaaLs17
namespace Go.Proofs.Ytakobldhjndeiaa
open Go.RowKit
set_option linter.unusedVariables false
set_option linter.unusedSimpArgs false

def AllAway (cs : List Ck) : Prop := ∀ c ∈ cs, c.away = true
theorem first_in : ∀ cs : List Ck, AllAway cs ∨ ∃ (j : Nat) (c : Ck), cs[j]? = some c ∧ c.away = false ∧ ∀ i c', i < j → cs[i]? = some c' → c'.away = true
  | [] => .inl (fun c hc => by cases hc)
  | x :: cs => by
    cases hx : x.away with
    | false => exact .inr ⟨0, x, rfl, hx, fun i c' h => by omega⟩
    | true =>
      rcases first_in cs with h | ⟨j, c, h1, h2, h3⟩
      · left
        intro c hc
        rcases List.mem_cons.1 hc with rfl | hc
        · exact hx
        · exact h c hc
      · refine .inr ⟨j + 1, c, h1, h2, ?_⟩
        intro i c' hi hc'
        cases i with
        | zero => simp at hc'; rw [← hc']; exact hx
        | succ i => exact h3 i c' (by omega) (by simpa using hc')
theorem first_here : ∀ tiles : List (List Ck), AllAway tiles.flatten ∨ ∃ (t : Nat) (cs : List Ck) (j : Nat) (c : Ck), tiles[t]? = some cs ∧ cs[j]? = some c ∧ c.away = false ∧ (∀ s cs', s < t → tiles[s]? = some cs' → AllAway cs') ∧ ∀ i c', i < j → cs[i]? = some c' → c'.away = true
  | [] => .inl (fun c hc => by cases hc)
  | x :: tiles => by
    rcases first_in x with hx | ⟨j, c, h1, h2, h3⟩
    · rcases first_here tiles with h | ⟨t, cs, j, c, g1, g2, g3, g4, g5⟩
      · left
        intro c hc
        rw [List.flatten_cons] at hc
        rcases List.mem_append.1 hc with hc | hc
        · exact hx c hc
        · exact h c hc
      · refine .inr ⟨t + 1, cs, j, c, g1, g2, g3, ?_, g5⟩
        intro s cs' hs hs'
        cases s with
        | zero => simp at hs'; rw [← hs']; exact hx
        | succ s => exact g4 s cs' (by omega) (by simpa using hs')
    · exact .inr ⟨0, x, j, c, rfl, h1, h2, fun s cs' h => by omega, h3⟩
theorem text_set {cs : List Ck} {j : Nat} {c c' : Ck} (h : cs[j]? = some c) (hb : c'.bs = c.bs) : text (cs.set j c') = text cs := by
  unfold text
  congr 1
  apply List.ext_getElem?
  intro i
  rw [List.getElem?_map, List.getElem?_map, List.getElem?_set]
  split
  · next e =>
    subst e
    rw [h]
    simp [(List.getElem?_eq_some_iff.1 h).1, hb]
  · rfl
/-- What a Spill changes. -/
structure Spilled (tiles tiles' : List (List Ck)) : Prop where
  len : tiles'.length = tiles.length
  texts : ∀ (t : Nat) cs, tiles[t]? = some cs → ∃ cs', tiles'[t]? = some cs' ∧ text cs' = text cs
  tot : hereN tiles'.flatten + awayN tiles'.flatten = hereN tiles.flatten + awayN tiles.flatten
theorem Spilled.refl (tiles : List (List Ck)) : Spilled tiles tiles := ⟨rfl, fun t cs h => ⟨cs, h, rfl⟩, rfl⟩
theorem spilled_set {tiles : List (List Ck)} {t j : Nat} {cs : List Ck} {c : Ck} (ht : tiles[t]? = some cs) (hj : cs[j]? = some c) (y : Int) : Spilled tiles (tiles.set t (cs.set j ⟨true, y, c.bs⟩)) := by
  have htl := (List.getElem?_eq_some_iff.1 ht).1
  refine ⟨by simp, ?_, ?_⟩
  · intro s ds hs
    rw [List.getElem?_set]
    split
    · next e =>
      subst e
      rw [ht] at hs
      cases hs
      try rw [if_pos htl]
      exact ⟨_, rfl, text_set hj rfl⟩
    · exact ⟨ds, hs, rfl⟩
  · rw [← len_parts, ← len_parts, (ck_perm ht (List.getElem?_eq_some_iff.1 hj).1 ⟨true, y, c.bs⟩).length_eq, (ck_perm_self ht hj).length_eq]
    rfl
def SpillAny (w : World) (S : List Nat) (g gd lb r : Nat) (tiles : List (List Ck)) (d : Dev) (e : Ending) (w' : World) : Prop :=
  ∃ z S' tiles' d', e = .returned (.int .i64 z) ∧ Sys w' S' g gd lb r tiles' d' ∧ Spilled tiles tiles' ∧ Grows S w S' ∧ Fr S w w' ∧ (d' = d ∨ d' = d.tried ∨ ∃ blk, d' = d.put blk)
theorem spill_any {w : World} {S : List Nat} {g gd lb r : Nat} {tiles : List (List Ck)} {d : Dev} (h : Sys w S g gd lb r tiles d) (hd : d.L.length ≤ 100000) (hp : d.puts < 1000000) (hnx : d.next < 1000000) :
    Calls Try.prog 14 #[.pointer (some ⟨lb, 0, none⟩)] w (SpillAny w S g gd lb r tiles d) := by
  rcases first_here tiles with hall | ⟨t, cs, j, ⟨aw, z, x⟩, ht, hj, haw, h1, h2⟩
  · refine (spill_none h hd hall).mono ?_
    rintro e w' ⟨rfl, hb⟩
    exact ⟨_, S, tiles, d, rfl, h.keep hb, Spilled.refl _, Grows.refl _ _, (Fr.ofBelow hb).nilMono, .inl rfl⟩
  · obtain rfl : aw = false := haw
    have hz : 0 ≤ z := by
      obtain ⟨SA, SD, SL, free, U, most, mem, hx, rfl⟩ := h
      exact (hx.rel.here ⟨false, z, x⟩ (List.mem_flatten.2 ⟨cs, List.mem_of_getElem? ht, List.mem_of_getElem? hj⟩) rfl).1
    obtain ⟨zn, rfl⟩ : ∃ n : Nat, z = (n : Int) := ⟨z.toNat, by omega⟩
    refine (spill_found h hd hp hnx ht hj h1 h2).mono ?_
    rintro e w' (⟨_, rfl, hs, hf⟩ | ⟨_, rfl, S', blk, hs, hG, hf⟩)
    · exact ⟨_, S, tiles, _, rfl, hs, Spilled.refl _, Grows.refl _ _, hf, .inr (.inl rfl)⟩
    · exact ⟨_, S', _, _, rfl, hs, spilled_set ht hj _, hG, hf, .inr (.inr ⟨blk, rfl⟩)⟩
/-- An act: four small numbers. -/
structure Act17 where
  kind : Int
  tile : Int
  n : Int
  seed : Int
def Act17.cells (x : Act17) : List Value := [.int .u8 x.kind, .int .u8 x.tile, .int .u8 x.n, .int .u8 x.seed]
def Act17.good (x : Act17) : Prop := (Lit.int .u8 x.kind).wf = true ∧ (Lit.int .u8 x.tile).wf = true ∧ (Lit.int .u8 x.n).wf = true ∧ (Lit.int .u8 x.seed).wf = true
def Acts17 (W : World) (a : Option Addr) (n cap : Nat) (l : List Act17) : Prop := l.length = n ∧ Sl W a n cap 4 (l.map Act17.cells).flatten ∧ ∀ x ∈ l, x.good
theorem act17_sz (x : Act17) : x.cells.length = 4 := rfl
/-- A system for any adds, spills, empties, with room for all. -/
structure QSys (w : World) (S : List Nat) (g gd lb r : Nat) (tiles : List (List Ck)) (d : Dev) (B N M : Nat) : Prop where
  sys : Sys w S g gd lb r tiles d
  far : ∀ k ∈ S, B ≤ k
  tot : hereN tiles.flatten + awayN tiles.flatten ≤ N
  plan : d.room = r ∧ d.fu = []
  nums : d.puts ≤ M ∧ d.next ≤ M ∧ d.takes ≤ 1000 * M
theorem QSys.keep {w w' : World} {S : List Nat} {g gd lb r : Nat} {tiles : List (List Ck)} {d : Dev} {B N M : Nat} (h : QSys w S g gd lb r tiles d B N M) (hb : Below w.heap.size w w') : QSys w' S g gd lb r tiles d B N M := ⟨h.sys.keep hb, h.far, h.tot, h.plan, h.nums⟩
theorem QSys.fr {w w' : World} {S S' : List Nat} {g gd lb r : Nat} {tiles : List (List Ck)} {d : Dev} {B N M : Nat} (h : QSys w S g gd lb r tiles d B N M) (hf : Fr S' w w') (hn : ∀ k ∈ S, k ∉ S') : QSys w' S g gd lb r tiles d B N M := ⟨h.sys.fr hf hn, h.far, h.tot, h.plan, h.nums⟩
theorem QSys.mono {w : World} {S : List Nat} {g gd lb r : Nat} {tiles : List (List Ck)} {d : Dev} {B N M N' M' : Nat} (h : QSys w S g gd lb r tiles d B N M) (hN : N ≤ N') (hM : M ≤ M') : QSys w S g gd lb r tiles d B N' M' := ⟨h.sys, h.far, Nat.le_trans h.tot hN, h.plan, by have := h.nums; omega⟩
theorem QSys.len {w : World} {S : List Nat} {g gd lb r : Nat} {tiles : List (List Ck)} {d : Dev} {B N M : Nat} (h : QSys w S g gd lb r tiles d B N M) : d.L.length ≤ N := by have := h.sys.away; have := h.tot; omega
theorem QSys.chunks {w : World} {S : List Nat} {g gd lb r : Nat} {tiles : List (List Ck)} {d : Dev} {B N M : Nat} (h : QSys w S g gd lb r tiles d B N M) {t : Nat} {cs : List Ck} (ht : tiles[t]? = some cs) : cs.length ≤ N := by
  have h1 := len_parts cs
  have h2 := hereN_perm (flat_perm_at ht)
  have h3 := awayN_perm (flat_perm_at ht)
  rw [hereN_app] at h2
  rw [awayN_app] at h3
  have := h.tot
  omega
theorem grown_far {S S' : List Nat} {w : World} {B : Nat} (hG : Grows S w S') (h : ∀ k ∈ S, B ≤ k) (hB : B ≤ w.heap.size) : ∀ k ∈ S', B ≤ k := fun k hk => (hG k hk).elim (h k) (fun h => Nat.le_trans hB h)
theorem need_le (l : List (Bool × List UInt8)) (n : Nat) : needN l n ≤ (n + 63) / 64 := by unfold needN; omega
/-- Add, with room. -/
theorem q_add {w : World} {S : List Nat} {g gd lb r : Nat} {tiles : List (List Ck)} {d : Dev} {B N M : Nat} (h : QSys w S g gd lb r tiles d B N M) {t : Nat} {cs : List Ck} (ht : tiles[t]? = some cs) (hN : N + 4 ≤ r) (hr : r ≤ 4096) {a : Option Addr} {n c : Nat} {b : List UInt8} (hn : n ≤ 255) (hb : Bytes w a n c b) (ha : b ≠ [] → ∀ p, a = some p → p.block ∉ S) (hB : B ≤ w.heap.size) :
    Calls Try.prog 13 #[.pointer (some ⟨lb, 0, none⟩), .int .i64 t, .slice a n c] w fun e w' => e = .returned (.int .i64 0) ∧ ∃ S' cs', QSys w' S' g gd lb r (tiles.set t cs') d B (N + 4) M ∧ text cs' = text cs ++ b ∧ Grows S w S' ∧ Fr S w w' := by
  have hbl := hb.len
  have hnd := need_le (cs.map Ck.sh) b.length
  have htot := h.tot
  refine (add_ok h.sys ht (by have := h.len; omega) (by omega) hb ha (by omega)).mono ?_
  rintro e w' ⟨rfl, S', cs', hs, hsh, hG, hf⟩
  obtain ⟨h1, h2, h3⟩ := add_numbers ht hsh
  exact ⟨rfl, S', cs', ⟨hs, grown_far hG h.far hB, by rw [h2, h3]; omega, h.plan, h.nums⟩, h1, hG, hf⟩
theorem q_spill {w : World} {S : List Nat} {g gd lb r : Nat} {tiles : List (List Ck)} {d : Dev} {B N M : Nat} (h : QSys w S g gd lb r tiles d B N M) (hN : N ≤ 4096) (hM : M ≤ 10000) (hB : B ≤ w.heap.size) :
    Calls Try.prog 14 #[.pointer (some ⟨lb, 0, none⟩)] w fun e w' => ∃ z S' tiles' d', e = .returned (.int .i64 z) ∧ QSys w' S' g gd lb r tiles' d' B N (M + 1) ∧ Spilled tiles tiles' ∧ Grows S w S' ∧ Fr S w w' ∧ d'.fa = d.fa ∧ d'.be = d.be ∧ d'.takes = d.takes := by
  have hnu := h.nums
  refine (spill_any h.sys (by have := h.len; omega) (by omega) (by omega)).mono ?_
  rintro e w' ⟨z, S', tiles', d', rfl, hs, hsp, hG, hf, hd⟩
  refine ⟨z, S', tiles', d', rfl, ⟨hs, grown_far hG h.far hB, by rw [hsp.tot]; exact h.tot, ?_, ?_⟩, hsp, hG, hf, ?_⟩
  · rcases hd with rfl | rfl | ⟨blk, rfl⟩ <;> exact h.plan
  · rcases hd with rfl | rfl | ⟨blk, rfl⟩
    · omega
    · show d.puts + 1 ≤ _ ∧ d.next ≤ _ ∧ d.takes ≤ _; omega
    · show d.puts + 1 ≤ _ ∧ d.next + 1 ≤ _ ∧ d.takes ≤ _; omega
  · rcases hd with rfl | rfl | ⟨blk, rfl⟩ <;> exact ⟨rfl, rfl, rfl⟩
theorem tot_set {tiles : List (List Ck)} {t : Nat} {cs : List Ck} (ht : tiles[t]? = some cs) : hereN (tiles.set t []).flatten + awayN (tiles.set t []).flatten ≤ hereN tiles.flatten + awayN tiles.flatten := by
  have h1 := hereN_set ht []
  have h2 := awayN_set ht []
  have e1 : hereN [] = 0 := rfl
  have e2 : awayN [] = 0 := rfl
  omega
theorem q_empty {w : World} {S : List Nat} {g gd lb r : Nat} {tiles : List (List Ck)} {d : Dev} {B N M : Nat} (h : QSys w S g gd lb r tiles d B N M) {t : Nat} {cs : List Ck} (ht : tiles[t]? = some cs) (hN : N ≤ 900) (hM : M ≤ 900) (hB : B ≤ w.heap.size) (hbe : BendsOk d) :
    Calls Try.prog 15 #[.pointer (some ⟨lb, 0, none⟩), .int .i64 t] w fun e w' => ∃ S' d', QSys w' S' g gd lb r (tiles.set t []) d' B N (M + 1) ∧ DSame d d' ∧ d.takes ≤ d'.takes ∧ Grows S w S' ∧ Fr S w w' ∧
      ((∃ v, e = .returned (.tuple #[v, .int .i64 0]) ∧ OwnB w' w.heap.size v (text cs) ∧ (∀ p, v.ownBlock = some p → p ∉ S')) ∨ (e = .returned (.tuple #[.slice none 0 0, .int .i64 10]) ∧ ∃ q, d.takes ≤ q ∧ q < d'.takes ∧ Bad d q)) := by
  have hnu := h.nums
  have hcl := h.chunks ht
  refine (empty_calls h.sys ht (by omega) (by omega) (by omega) hbe).mono ?_
  rintro e w' ⟨S', d', hs, hd, htk, hG, hf, hout⟩
  refine ⟨S', d', ⟨hs, grown_far hG h.far hB, Nat.le_trans (tot_set ht) h.tot, ?_, ?_⟩, hd, htk.1, hG, hf, hout⟩
  · rw [hd.room, hd.fu]; exact h.plan
  · rw [hd.puts, hd.next]; omega
end Go.Proofs.Ytakobldhjndeiaa
