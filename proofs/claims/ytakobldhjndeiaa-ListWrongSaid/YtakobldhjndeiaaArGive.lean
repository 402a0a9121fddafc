/-
  The arena: a block is given back.
-/
import Derived.Test.YtakobldhjndeiaaArBytes
namespace Go.Proofs.Ytakobldhjndeiaa
open Go.RowKit

def less (U : List Int) (n : Int) : List Int := U.filter (fun z => !(z == n))
theorem less_map (U : List Int) (n : Int) : (U.map (fun z => (z, Value.bool true))).filter (fun p => !(p.1 == n)) = (less U n).map (fun z => (z, Value.bool true)) := by
  unfold less
  rw [List.filter_map]
  rfl
theorem less_len {U : List Int} (hU : U.Nodup) {n : Int} (hn : n ∈ U) : (less U n).length + 1 = U.length := by
  have h1 : less U n = U.erase n := by
    rw [hU.erase_eq_filter]; rfl
  rw [h1, List.length_erase_of_mem hn]
  have := List.length_pos_of_mem hn
  omega
theorem less_mem {U : List Int} {n z : Int} : z ∈ less U n ↔ z ∈ U ∧ z ≠ n := by simp [less, List.mem_filter]
theorem Arx.nodupU {w : World} {g gb mb : Nat} {fv : Value} {bl : List (Option Nat)} {free U : List Int} {most : Int} {mem : Nat → List UInt8} (h : Arx w g gb mb fv bl free U most mem) : U.Nodup := by
  have := h.map.nodup
  simpa [List.map_map, Function.comp_def] using this

theorem give_end {w w1 w2 Z : World} {g gb mb n : Nat} {fv v2 : Value} {bl : List (Option Nat)} {fs U : List Int} {most : Int} {mem : Nat → List UInt8} {o : Obj}
    (h : Arx w g gb mb fv bl fs U most mem) (hn : (n : Int) ∈ U) (h1 : DictAt w1 mb ((less U n).map (fun z => (z, Value.bool true)))) (f1 : Fr [mb] w w1)
    (hv : FreeI w2 v2 (fs ++ [(n : Int)])) (f2 : Fr fv.ownBlock.toList ((w1.setCell ⟨gb, n, none⟩ (.slice none 0 0)).alloc o) w2) (hl : ∀ k, v2.ownBlock = some k → fv.ownBlock = some k ∨ (w1.setCell ⟨gb, n, none⟩ (.slice none 0 0)).heap.size < k)
    (hZ : Z = w2.setCell ⟨g, 1, none⟩ v2) :
    ∃ S', Ar Z g S' bl.length (fs ++ [(n : Int)]) (less U n) most mem ∧ Grows (arBlocks g gb mb fv bl) w S' ∧ Fr (arBlocks g gb mb fv bl) w Z := by
  obtain ⟨a1, a2, a3, a4, a5⟩ := h.apart
  obtain ⟨_, b, hb⟩ := (h.used _).1 hn
  rw [Int.toNat_natCast] at hb
  have hnl := (List.getElem?_eq_some_iff.1 hb).1
  obtain ⟨wA, hA⟩ : ∃ wA, wA = w1.setCell ⟨gb, n, none⟩ (.slice none 0 0) := ⟨_, rfl⟩
  rw [← hA] at f2 hl
  have fA : Fr [gb] w1 wA := by rw [hA]; exact Fr.set (Fr.refl _ _) _ (.inl (by simp)) _
  have fO : Fr [] wA (wA.alloc o) := (Fr.refl _ _).alloc o
  have fZ : Fr [g] w2 Z := by rw [hZ]; exact Fr.set (Fr.refl _ _) _ (.inl (by simp)) _
  have hgnot : g ∉ fv.ownBlock.toList := by
    intro hm; simp at hm; exact (a4 g hm).1 rfl
  have ff : ∀ {j : Nat} {p : Obj}, w.heap[j]? = some p → j ≠ g → j ≠ mb → j ≠ gb → (∀ k, fv.ownBlock = some k → k ≠ j) → Z.heap[j]? = some p := fun hj h1 h2 h3 h4 => fZ.heap (f2.heap (fO.heap (fA.heap (f1.heap hj (by simpa using h2)) (by simpa using h3)) (by simp)) (by simp; intro e; exact h4 _ e rfl)) (by simpa using h1)
  have hset : ∀ (i c : Nat), (bl.set n none)[i]? = some (some c) ↔ i ≠ n ∧ bl[i]? = some (some c) := by
    intro i c
    rw [List.getElem?_set]
    by_cases hi : n = i
    · subst hi; simp [hnl]
    · simp [hi, Ne.symm hi]
  have hsetn : ∀ i : Nat, (bl.set n none)[i]? = some none ↔ i = n ∨ bl[i]? = some none := by
    intro i
    rw [List.getElem?_set]
    by_cases hi : n = i
    · subst hi; simp [hnl]
    · simp [hi, Ne.symm hi]
  have hne2 : v2.ownBlock ≠ some g := by
    intro e
    rcases hl g e with h2 | h2
    · exact (a4 g h2).1 rfl
    · have := heap_lt h.top; have := f1.size; have := fA.size; omega
  have hsize : w.heap.size ≤ wA.heap.size := Nat.le_trans f1.size fA.size
  have htop2 : w2.heap[g]? = some (.cells #[.slice (some ⟨gb, 0, none⟩) bl.length bl.length, fv, .map (some mb), .int .i64 most] 65 (0, 0)) :=
    f2.heap (fO.heap (fA.heap (f1.heap h.top (by simpa using a1.symm)) (by simpa using a2.symm)) (by simp)) hgnot
  refine ⟨arBlocks g gb mb v2 (bl.set n none), ⟨gb, mb, v2, bl.set n none, ⟨?_, ?_, ?_, ?_, ?_, ?_, ?_, ?_, ?_, ?_, h.most0, by simpa using h.len⟩, rfl, by simp⟩, ?_, ?_⟩
  · rw [List.length_set, hZ]; exact heap_set (a := ⟨g, 1, none⟩) htop2 rfl _
  · have hr : wA.heap[gb]? = some (.cells (rowOf (bl.set n none)) 22 (0, 0)) := by
      rw [hA, heap_set (a := ⟨gb, n, none⟩) (f1.heap h.row (by simpa using a3.symm)) rfl, ← row_set]; rfl
    refine fZ.heap (f2.heap (fO.heap hr (by simp)) ?_) (by simpa using a2)
    intro hm; simp at hm; exact (a4 gb hm).2.1 rfl
  · refine (((h1.fr fA (by simpa using a3)).fr fO (by simp)).fr f2 ?_).fr fZ (by simpa using a1)
    intro hm; simp at hm; exact (a4 mb hm).2.2 rfl
  · refine hv.fr fZ (fun k hk hm => ?_)
    simp at hm; subst hm; exact hne2 hk
  · intro i c hc
    obtain ⟨h2, h3⟩ := (hset i c).1 hc
    obtain ⟨h4, h5⟩ := h.mems i c h3
    obtain ⟨h6, h7, h8, _, h9⟩ := a5 i c h3
    exact ⟨ff h4 h6 h8 h7 h9, h5⟩
  · intro i j c hi hj
    exact h.inj i j c ((hset i c).1 hi).2 ((hset j c).1 hj).2
  · intro z
    rw [less_mem, h.used]
    constructor
    · rintro ⟨⟨h0, c, hc⟩, hne⟩
      exact ⟨h0, c, (hset _ _).2 ⟨by omega, hc⟩⟩
    · rintro ⟨h0, c, hc⟩
      obtain ⟨h2, h3⟩ := (hset _ _).1 hc
      exact ⟨⟨h0, c, h3⟩, by omega⟩
  · intro z
    rw [List.mem_append, List.mem_singleton, h.frees]
    constructor
    · rintro (⟨h0, h2⟩ | rfl)
      · exact ⟨h0, (hsetn _).2 (.inr h2)⟩
      · exact ⟨by omega, (hsetn _).2 (.inl (by simp))⟩
    · rintro ⟨h0, h2⟩
      rcases (hsetn _).1 h2 with h3 | h3
      · right; omega
      · exact .inl ⟨h0, h3⟩
  · rw [List.nodup_append]
    refine ⟨h.nodup, by simp, ?_⟩
    intro x hx y hy
    simp at hy; subst hy
    rintro rfl
    have := ((h.frees _).1 hx).2
    rw [Int.toNat_natCast, hb] at this
    cases this
  · have := less_len h.nodupU hn
    have := h.count
    simp only [List.length_append, List.length_singleton, List.length_set]; omega
  · intro j hj
    simp only [arBlocks, List.mem_cons, List.mem_append, Option.mem_toList, List.mem_filterMap, id] at hj ⊢
    rcases hj with h1 | h1 | h1 | h1 | ⟨p, h1, h2⟩
    · exact .inl (.inl h1)
    · exact .inl (.inr (.inl h1))
    · exact .inl (.inr (.inr (.inl h1)))
    · rcases hl j h1 with h2 | h2
      · exact .inl (.inr (.inr (.inr (.inl h2))))
      · exact .inr (by omega)
    · subst h2
      obtain ⟨i, hi, hii⟩ := List.getElem_of_mem h1
      have : (bl.set n none)[i]? = some (some j) := by rw [List.getElem?_eq_getElem hi, hii]
      exact .inl (.inr (.inr (.inr (.inr ⟨some j, List.mem_of_getElem? ((hset _ _).1 this).2, rfl⟩))))
  · have m : ∀ {T : List Nat}, (∀ k ∈ T, k ∈ arBlocks g gb mb fv bl) → ∀ {a b : World}, Fr T a b → Fr (arBlocks g gb mb fv bl) a b := fun hT _ _ hf => hf.mono (fun k hk => .inl (hT k hk))
    refine ((((m ?_ f1).trans (m ?_ fA) (Grows.refl _ _)).trans (m ?_ fO) (Grows.refl _ _)).trans (m ?_ f2) (Grows.refl _ _)).trans (m ?_ fZ) (Grows.refl _ _)
    · intro k hk; simp at hk; simp [arBlocks, hk]
    · intro k hk; simp at hk; simp [arBlocks, hk]
    · intro k hk; cases hk
    · intro k hk; simp at hk; simp [arBlocks, hk]
    · intro k hk; simp at hk; simp [arBlocks, hk]

set_option maxRecDepth 10000 in
set_option maxHeartbeats 1000000 in
theorem give_ok {w : World} {g : Nat} {S : List Nat} {r : Nat} {fs U : List Int} {most : Int} {mem : Nat → List UInt8} (h : Ar w g S r fs U most mem) (n : Nat) (hn : (n : Int) ∈ U) :
    Calls Try.prog 29 #[.pointer (some ⟨g, 0, none⟩), .int .i64 n] w fun e w' => e = .returned (.int .i64 0) ∧ ∃ S', Ar w' g S' r (fs ++ [(n : Int)]) (less U n) most mem ∧ Grows S w S' ∧ Fr S w w' := by
  obtain ⟨gb, mb, fv, bl, h, rfl, rfl⟩ := h
  obtain ⟨a1, a2, a3, a4, a5⟩ := h.apart
  obtain ⟨b, hb, hl, h4, k0, hB, h64⟩ := h.block hn
  have hlk := h.look n (by omega) (u := true) (by simp [hn])
  have c2 := cell_at h.top 2
  obtain ⟨w1, e1, hm1, f1⟩ := h.map.drop (P := Try.prog) Try.underlying63 Try.underlying3 (z := (n : Int)) (WalkArith.wf_i64 (by omega)) 0
  rw [less_map] at hm1
  have top1 := f1.heap h.top (by simpa using a1.symm)
  have row1 := f1.heap h.row (by simpa using a3.symm)
  have c0 := cell_at top1 0
  have k1 : w1.cell? ⟨gb, n, none⟩ = some (.slice (some ⟨b, 0, none⟩) 64 64) := by rw [cell_at row1]; simp [rowOf, hb, cellOf]
  have g1 := free_at row1 n
  have n1 : (n : Int) < (bl.length : Int) := by omega
  have n2 : (0 : Int) ≤ (n : Int) := by omega
  have fA : Fr [gb] w1 (w1.setCell ⟨gb, n, none⟩ (.slice none 0 0)) := Fr.set (Fr.refl _ _) _ (.inl (by simp)) _
  have top2 := fA.heap top1 (by simpa using a2.symm)
  have c1 := cell_at top2 1
  have hfr : FreeI (w1.setCell ⟨gb, n, none⟩ (.slice none 0 0)) fv fs := (h.own.fr f1 (fun k hk => by simpa using (a4 k hk).2.2)).fr fA (fun k hk => by simpa using (a4 k hk).2.1)
  have hfl : fs.length ≤ 1000000 := by have := h.count; have := h.len; omega
  have hgnot : g ∉ fv.ownBlock.toList := by
    intro hm; simp at hm; exact (a4 g hm).1 rfl
  obtain ⟨av, cv, rfl⟩ := hfr.shape
  have HB2 : Hid _ := hb
  clear hb k0
  go_enter Try.func29, Try.ntmps29
  go_wp2_with (at_builtin; refine app_free (z := (n : Int)) (l := fs) (v := .slice av fs.length cv) rfl (.tmp 29) (.tmp 31) rfl rfl hfr rfl ?_ hfl ?_; simp; intro v2 w2 ho2 hf2 hl2; have top3 := hf2.heap (heap_keep top2 _) hgnot; have c3 := cell_at top3 1; have f3 := free_at top3 1; obtain ⟨a5, c5, rfl⟩ := ho2.shape)
  go_ret
  exact ⟨rfl, give_end h hn hm1 f1 ho2 hf2 hl2 (by simp)⟩
end Go.Proofs.Ytakobldhjndeiaa
