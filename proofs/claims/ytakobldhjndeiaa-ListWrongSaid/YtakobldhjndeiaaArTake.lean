/-
  The arena: a block is taken.
-/
import Derived.Test.YtakobldhjndeiaaArRead
import Derived.BigRegion
import Derived.Deep.QuietTactic
import Derived.BigQuiet
import Derived.Deep.RegionLaw
import Derived.Deep.CutRange
namespace Go.Proofs.Ytakobldhjndeiaa
open Go.RowKit

/-- Ahead of the store of the new block's slice. -/
structure Rdy (W0 Y : World) (gb mb nb : Nat) (bl : List (Option Nat)) (L : List (Int × Value)) (zs : List UInt8) : Prop where
  map : DictAt Y mb L
  row : Y.heap[gb]? = some (.cells (rowOf bl) 22 (0, 0))
  blk : Y.heap[nb]? = some (.cells (bytesArr zs) 5 (0, 0))
  new : W0.heap.size ≤ nb
  fr : Fr [mb] W0 Y
/-- Behind it. -/
structure Mid (W0 Y : World) (gb mb nb n : Nat) (bl : List (Option Nat)) (L : List (Int × Value)) (zs : List UInt8) : Prop where
  map : DictAt Y mb L
  row : Y.heap[gb]? = some (.cells (rowOf (bl.set n (some nb))) 22 (0, 0))
  blk : Y.heap[nb]? = some (.cells (bytesArr zs) 5 (0, 0))
  new : W0.heap.size ≤ nb
  fr : Fr [mb, gb] W0 Y

theorem row_set (bl : List (Option Nat)) (n : Nat) (o : Option Nat) : (rowOf bl).setIfInBounds n (cellOf o) = rowOf (bl.set n o) := by
  apply Array.toList_inj.1
  simp [rowOf, List.map_set]
theorem Fr.drew1 {S : List Nat} {a b : World} (h : Fr S a b) : Fr S a b.drew := ⟨h.os, h.tape, h.output, h.size, h.block⟩
theorem Rdy.there {W0 Y : World} {gb mb nb : Nat} {bl : List (Option Nat)} {L : List (Int × Value)} {zs : List UInt8} (h : Rdy W0 Y gb mb nb bl L zs) {n : Nat} {o : Option Nat} (hn : bl[n]? = some o) :
    Y.cell? ⟨gb, n, none⟩ = some (cellOf o) ∧ Y.frozen? ⟨gb, n, none⟩ = false := by
  rw [cell_at h.row, free_at h.row]
  simp [rowOf, hn]
theorem Rdy.mid {W0 Y : World} {gb mb nb : Nat} {bl : List (Option Nat)} {L : List (Int × Value)} {zs : List UInt8} (h : Rdy W0 Y gb mb nb bl L zs) (n : Nat) : Mid W0 (Y.setCell ⟨gb, n, none⟩ (.slice (some ⟨nb, 0, none⟩) 64 64)) gb mb nb n bl L zs := by
  have hmg : mb ≠ gb := by
    rintro rfl
    obtain ⟨es, c, h1, _⟩ := h.map
    rw [h.row] at h1; cases h1
  have hng : nb ≠ gb := by
    rintro rfl
    have h1 := h.blk
    rw [h.row] at h1
    simp at h1
  have hs : Fr [gb] Y (Y.setCell ⟨gb, n, none⟩ (.slice (some ⟨nb, 0, none⟩) 64 64)) := Fr.set (Fr.refl _ _) _ (.inl (by simp)) _
  refine ⟨h.map.fr hs (by simpa using hmg), ?_, hs.heap h.blk (by simpa using hng), h.new, ?_⟩
  · rw [heap_set (a := ⟨gb, n, none⟩) h.row rfl, ← row_set]; rfl
  · refine (h.fr.mono ?_).trans (hs.mono (S' := [mb, gb]) ?_) (Grows.refl _ _)
    · intro k hk; simp at hk; simp [hk]
    · intro k hk; simp at hk; simp [hk]
/-- The ways of the map's entry, the block, the entry's store. -/
theorem take_ways {W0 : World} {gb mb : Nat} {bl : List (Option Nat)} {U : List Int} {n : Nat} (hm : DictAt W0 mb (U.map (fun z => (z, Value.bool true)))) (hn : (n : Int) ∉ U) (hn2 : n < 4096) (hr : W0.heap[gb]? = some (.cells (rowOf bl) 22 (0, 0))) (zs : List UInt8) :
    ∃ (sa sb : Nat) (A1 A2 B1 B2 C2 : World),
      (Instr.mapEntry 63 (.map (some mb)) (.int .i64 (n : Int))).run Try.prog W0.drew = .ok (.tuple #[.bool false, .int .i64 (sa : Nat)]) A1 ∧
      (Instr.entryStore 63 (.map (some mb)) (.int .i64 (sa : Nat)) (.bool true)).run Try.prog (A1.alloc (.cells (bytesArr zs) 5)) = .ok () A2 ∧
      (Instr.mapEntry 63 (.map (some mb)) (.int .i64 (n : Int))).run Try.prog (W0.alloc (.cells (bytesArr zs) 5)).drew = .ok (.tuple #[.bool false, .int .i64 (sb : Nat)]) B1 ∧
      (Instr.entryStore 63 (.map (some mb)) (.int .i64 (sb : Nat)) (.bool true)).run Try.prog B1 = .ok () B2 ∧
      (Instr.entryStore 63 (.map (some mb)) (.int .i64 (sa : Nat)) (.bool true)).run Try.prog A1 = .ok () C2 ∧
      Rdy W0 A2 gb mb A1.heap.size bl ((U ++ [(n : Int)]).map (fun z => (z, Value.bool true))) zs ∧ Rdy W0 B2 gb mb W0.heap.size bl ((U ++ [(n : Int)]).map (fun z => (z, Value.bool true))) zs ∧ Rdy W0 (C2.alloc (.cells (bytesArr zs) 5)) gb mb C2.heap.size bl ((U ++ [(n : Int)]).map (fun z => (z, Value.bool true))) zs := by
  have wz : (Lit.int .i64 (n : Int)).wf = true := WalkArith.wf_i64 (by omega)
  have hno : ∀ p ∈ U.map (fun z => (z, Value.bool true)), p.1 ≠ (n : Int) := by
    intro p hp
    obtain ⟨y, hy, rfl⟩ := List.mem_map.1 hp
    rintro rfl; exact hn hy
  have hmg : mb ≠ gb := by
    rintro rfl
    obtain ⟨es, c, h1, _⟩ := hm
    rw [hr] at h1; cases h1
  have hL : (U ++ [(n : Int)]).map (fun z => (z, Value.bool true)) = U.map (fun z => (z, Value.bool true)) ++ [((n : Int), Value.bool true)] := by simp
  rw [hL]
  have hX : Fr [mb] W0 W0.drew := ⟨rfl, rfl, rfl, Nat.le_refl _, fun _ _ _ => rfl⟩
  have hmX : DictAt W0.drew mb (U.map (fun z => (z, Value.bool true))) := hm
  have hXa : Fr [mb] W0 (W0.alloc (.cells (bytesArr zs) 5)).drew := by
    have := (Fr.refl [mb] W0).alloc (.cells (bytesArr zs) 5)
    exact ⟨this.os, this.tape, this.output, this.size, this.block⟩
  have hmXa : DictAt (W0.alloc (.cells (bytesArr zs) 5)).drew mb (U.map (fun z => (z, Value.bool true))) := (hm.keep ((Below.refl _ _).alloc (Nat.le_refl _) _).drew)
  obtain ⟨A1, sa, e1, hA1, fA1⟩ := hmX.entry (P := Try.prog) Try.underlying63 Try.underlying3 (zero_bool _) wz hno
  obtain ⟨A2, e2, hA2, fA2⟩ := (hA1.keep ((Below.refl _ _).alloc (Nat.le_refl _) (.cells (bytesArr zs) 5))).store (P := Try.prog) (t := 63) (.bool true)
  obtain ⟨B1, sb, e3, hB1, fB1⟩ := hmXa.entry (P := Try.prog) Try.underlying63 Try.underlying3 (zero_bool _) wz hno
  obtain ⟨B2, e4, hB2, fB2⟩ := hB1.store (P := Try.prog) (t := 63) (.bool true)
  obtain ⟨C2, e5, hC2, fC2⟩ := hA1.store (P := Try.prog) (t := 63) (.bool true)
  have gA1 : Fr [mb] W0 A1 := hX.trans fA1 (Grows.refl _ _)
  have gA1a := gA1.alloc (.cells (bytesArr zs) 5)
  have gA2 : Fr [mb] W0 A2 := gA1a.trans fA2 (Grows.refl _ _)
  have gB1 : Fr [mb] W0 B1 := hXa.trans fB1 (Grows.refl _ _)
  have gB2 : Fr [mb] W0 B2 := gB1.trans fB2 (Grows.refl _ _)
  have gC2 : Fr [mb] W0 C2 := gA1.trans fC2 (Grows.refl _ _)
  have hmb := hm.lt
  refine ⟨sa, sb, A1, A2, B1, B2, C2, e1, e2, e3, e4, e5, ⟨hA2, gA2.heap hr (by simpa using hmg.symm), ?_, gA1.size, gA2⟩, ⟨hB2, gB2.heap hr (by simpa using hmg.symm), ?_, Nat.le_refl _, gB2⟩, ⟨hC2.keep ((Below.refl _ _).alloc (Nat.le_refl _) _), (gC2.alloc _).heap hr (by simpa using hmg.symm), heap_new _ _, gC2.size, gC2.alloc _⟩⟩
  · refine fA2.heap (heap_new _ _) ?_
    have := gA1.size
    simp; omega
  · refine fB2.heap (fB1.heap (show (W0.alloc (.cells (bytesArr zs) 5)).drew.heap[W0.heap.size]? = _ from heap_new _ _) ?_) ?_
    · simp; omega
    · simp; omega

/-- Blocks of a kind are apart from those of another. -/
theorem Arx.apart {w : World} {g gb mb : Nat} {fv : Value} {bl : List (Option Nat)} {free U : List Int} {most : Int} {mem : Nat → List UInt8} (h : Arx w g gb mb fv bl free U most mem) :
    mb ≠ g ∧ gb ≠ g ∧ mb ≠ gb ∧ (∀ k, fv.ownBlock = some k → k ≠ g ∧ k ≠ gb ∧ k ≠ mb) ∧ ∀ (i b : Nat), bl[i]? = some (some b) → b ≠ g ∧ b ≠ gb ∧ b ≠ mb ∧ b < w.heap.size ∧ ∀ k, fv.ownBlock = some k → k ≠ b := by
  have hmap := h.map
  obtain ⟨es, c, h1, _⟩ := hmap
  have hfv : ∀ k, fv.ownBlock = some k → ∃ cur, w.heap[k]? = some (.cells cur 3 (0, 0)) := by
    intro k hk
    rcases h.own with ⟨rfl, _⟩ | ⟨fb, cap, cur, rfl, h2, _⟩
    · cases hk
    · simp [Value.ownBlock] at hk; subst hk; exact ⟨_, h2⟩
  refine ⟨?_, ?_, ?_, ?_, ?_⟩
  · rintro rfl; have := h.top; rw [h1] at this; cases this
  · rintro rfl; have := h.top; rw [h.row] at this; simp at this
  · rintro rfl; have := h.row; rw [h1] at this; cases this
  · intro k hk
    obtain ⟨cur, h2⟩ := hfv k hk
    refine ⟨?_, ?_, ?_⟩
    · rintro rfl; have := h.top; rw [h2] at this; simp at this
    · rintro rfl; have := h.row; rw [h2] at this; simp at this
    · rintro rfl; rw [h2] at h1; cases h1
  · intro i b hb
    obtain ⟨h2, _⟩ := h.mems i b hb
    refine ⟨?_, ?_, ?_, heap_lt h2, ?_⟩
    · rintro rfl; have := h.top; rw [h2] at this; simp at this
    · rintro rfl; have := h.row; rw [h2] at this; simp at this
    · rintro rfl; rw [h2] at h1; cases h1
    · intro k hk
      obtain ⟨cur, h3⟩ := hfv k hk
      rintro rfl
      rw [h2] at h3; simp at h3

theorem take_end {w W0 wc Z : World} {g gb mb fb k cp nb n : Nat} {bl : List (Option Nat)} {fs U : List Int} {most m2 : Int} {mem : Nat → List UInt8} {zs : List UInt8}
    (h : Arx w g gb mb (.slice (some ⟨fb, 0, none⟩) (fs ++ [(n : Int)]).length cp) bl (fs ++ [(n : Int)]) U most mem) (hk : fs.length = k) (hzs : List.replicate 64 (0 : UInt8) = zs) (f0 : Fr [g] w W0)
    (hM : Mid W0 wc gb mb nb n bl ((U ++ [(n : Int)]).map (fun z => (z, Value.bool true))) zs) (f1 : Fr [g] wc Z)
    (top : Z.heap[g]? = some (.cells #[.slice (some ⟨gb, 0, none⟩) bl.length bl.length, .slice (some ⟨fb, 0, none⟩) k k, .map (some mb), .int .i64 m2] 65 (0, 0))) (hm2 : m2 = max most ((U.length + 1 : Nat) : Int)) :
    ∃ S', Ar Z g S' bl.length fs (U ++ [(n : Int)]) (max most (U.length + 1)) (fun i => if i = n then List.replicate 64 0 else mem i) ∧ Grows (arBlocks g gb mb (.slice (some ⟨fb, 0, none⟩) (fs ++ [(n : Int)]).length cp) bl) w S' ∧ Fr (arBlocks g gb mb (.slice (some ⟨fb, 0, none⟩) (fs ++ [(n : Int)]).length cp) bl) w Z := by
  obtain ⟨a1, a2, a3, a4, a5⟩ := h.apart
  obtain ⟨a6, a7, a8⟩ := a4 fb rfl
  have hnf := (h.frees (n : Int)).1 (by simp)
  have hbn : bl[n]? = some none := by simpa using hnf.2
  have hnl : n < bl.length := (List.getElem?_eq_some_iff.1 hbn).1
  have hnew : w.heap.size ≤ nb := Nat.le_trans f0.size hM.new
  have hgl : g < nb := Nat.lt_of_lt_of_le (heap_lt h.top) hnew
  have hset : ∀ (i b : Nat), (bl.set n (some nb))[i]? = some (some b) ↔ (i = n ∧ b = nb) ∨ (i ≠ n ∧ bl[i]? = some (some b)) := by
    intro i b
    rw [List.getElem?_set]
    by_cases hi : n = i
    · subst hi; simp [hnl, eq_comm]
    · simp [hi, Ne.symm hi]
  have hsetn : ∀ i : Nat, (bl.set n (some nb))[i]? = some none ↔ i ≠ n ∧ bl[i]? = some none := by
    intro i
    rw [List.getElem?_set]
    by_cases hi : n = i
    · subst hi; simp [hnl]
    · simp [hi, Ne.symm hi]
  have ff : ∀ {j : Nat} {o : Obj}, w.heap[j]? = some o → j ≠ g → j ≠ mb → j ≠ gb → Z.heap[j]? = some o := fun hj h1 h2 h3 => f1.heap (hM.fr.heap (f0.heap hj (by simpa using h1)) (by simp [h2, h3])) (by simpa using h1)
  have hnd := h.nodup
  rw [List.nodup_append] at hnd
  have hcount := h.count
  simp only [List.length_append, List.length_singleton] at hcount
  have hlen := h.len
  have hmost := h.most0
  refine ⟨arBlocks g gb mb (.slice (some ⟨fb, 0, none⟩) k k) (bl.set n (some nb)), ⟨gb, mb, _, bl.set n (some nb), ⟨?_, f1.heap hM.row (by simpa using a2), hM.map.fr f1 (by simpa using a1), ?_, ?_, ?_, ?_, ?_, hnd.1, ?_, ?_, by simpa using hlen⟩, rfl, by simp⟩, ?_, ?_⟩
  · rw [List.length_set, top, hm2]; rfl
  · have hb := FreeI.back (k := k) (by rw [← hk]; simpa using h.own) hk.symm
    refine ((hb.fr f0 ?_).fr hM.fr ?_).fr f1 ?_
    all_goals
      intro j hj
      simp [Value.ownBlock] at hj
      subst hj
      simp [a6, a7, a8]
  · intro i b hb
    rcases (hset i b).1 hb with ⟨rfl, rfl⟩ | ⟨h1, h2⟩
    · rw [if_pos rfl, hzs]
      exact ⟨f1.heap hM.blk (by simp; omega), by rw [← hzs]; simp⟩
    · obtain ⟨h3, h4⟩ := h.mems i b h2
      obtain ⟨h5, h6, h7, h8, h9⟩ := a5 i b h2
      rw [if_neg h1]
      exact ⟨ff h3 h5 h7 h6, h4⟩
  · intro i j b hi hj
    rcases (hset i b).1 hi with ⟨rfl, rfl⟩ | ⟨h1, h2⟩ <;> rcases (hset j _).1 hj with ⟨h3, h4⟩ | ⟨h3, h4⟩
    · exact h3.symm
    · have := (a5 j _ h4).2.2.2.1; omega
    · subst h4; have := (a5 i _ h2).2.2.2.1; omega
    · exact h.inj i j b h2 h4
  · intro z
    rw [List.mem_append, List.mem_singleton, h.used]
    constructor
    · rintro (⟨h0, b, hb⟩ | rfl)
      · refine ⟨h0, b, (hset _ _).2 (.inr ⟨?_, hb⟩)⟩
        intro e; rw [e, hbn] at hb; cases hb
      · exact ⟨by omega, nb, (hset _ _).2 (.inl ⟨by simp, rfl⟩)⟩
    · rintro ⟨h0, b, hb⟩
      rcases (hset _ _).1 hb with ⟨h1, _⟩ | ⟨_, h2⟩
      · right; omega
      · exact .inl ⟨h0, b, h2⟩
  · intro z
    constructor
    · intro hz
      have := (h.frees z).1 (List.mem_append.2 (.inl hz))
      refine ⟨this.1, (hsetn _).2 ⟨?_, this.2⟩⟩
      intro e
      exact hnd.2.2 z hz (n : Int) (by simp) (by omega)
    · rintro ⟨h0, h1⟩
      obtain ⟨h2, h3⟩ := (hsetn _).1 h1
      rcases List.mem_append.1 ((h.frees z).2 ⟨h0, h3⟩) with h4 | h4
      · exact h4
      · simp at h4; omega
  · simp only [List.length_append, List.length_singleton, List.length_set]; omega
  · omega
  · intro j hj
    simp only [arBlocks, List.mem_cons, List.mem_append, Option.mem_toList, List.mem_filterMap, id] at hj ⊢
    rcases hj with h1 | h1 | h1 | h1 | ⟨o, h1, h2⟩
    · exact .inl (.inl h1)
    · exact .inl (.inr (.inl h1))
    · exact .inl (.inr (.inr (.inl h1)))
    · exact .inl (.inr (.inr (.inr (.inl (by simpa [Value.ownBlock] using h1)))))
    · subst h2
      obtain ⟨i, hi, hii⟩ := List.getElem_of_mem h1
      have : (bl.set n (some nb))[i]? = some (some j) := by rw [List.getElem?_eq_getElem hi, hii]
      rcases (hset _ _).1 this with ⟨_, rfl⟩ | ⟨_, h3⟩
      · exact .inr hnew
      · exact .inl (.inr (.inr (.inr (.inr ⟨some j, List.mem_of_getElem? h3, rfl⟩))))
  · refine ((f0.mono ?_).trans (hM.fr.mono (S' := arBlocks g gb mb (.slice (some ⟨fb, 0, none⟩) (fs ++ [(n : Int)]).length cp) bl) ?_) (Grows.refl _ _)).trans (f1.mono (S' := arBlocks g gb mb (.slice (some ⟨fb, 0, none⟩) (fs ++ [(n : Int)]).length cp) bl) ?_) (Grows.refl _ _)
    · intro j hj; simp at hj; left; simp [arBlocks, hj]
    · intro j hj; simp at hj; left; rcases hj with rfl | rfl <;> simp [arBlocks]
    · intro j hj; simp at hj; left; simp [arBlocks, hj]

set_option maxRecDepth 10000 in
theorem take_full {w : World} {g : Nat} {S : List Nat} {r : Nat} {U : List Int} {most : Int} {mem : Nat → List UInt8} (h : Ar w g S r [] U most mem) :
    Calls Try.prog 25 #[.pointer (some ⟨g, 0, none⟩)] w fun e w' => e = .returned (.tuple #[.int .i64 0, .int .i64 8]) ∧ w' = w := by
  obtain ⟨gb, mb, fv, bl, h, rfl, rfl⟩ := h
  obtain ⟨a, c, rfl⟩ := h.own.shape
  have c1 := cell_at h.top 1
  go_enter Try.func25, Try.ntmps25
  go_wp2
  go_ret2
  exact ⟨rfl, rfl⟩

set_option maxRecDepth 10000 in
set_option maxHeartbeats 1000000 in
theorem take_ok {w : World} {g : Nat} {S : List Nat} {r : Nat} {fs : List Int} {n : Nat} {U : List Int} {most : Int} {mem : Nat → List UInt8} (h : Ar w g S r (fs ++ [(n : Int)]) U most mem) :
    Calls Try.prog 25 #[.pointer (some ⟨g, 0, none⟩)] w fun e w' => e = .returned (.tuple #[.int .i64 n, .int .i64 0]) ∧ ∃ S', Ar w' g S' r fs (U ++ [(n : Int)]) (max most (U.length + 1)) (fun i => if i = n then List.replicate 64 0 else mem i) ∧ Grows S w S' ∧ Fr S w w' := by
  obtain ⟨gb, mb, fv, bl, h, rfl, rfl⟩ := h
  have hown := h.own
  obtain ⟨fb, cp, cur, rfl, hfb, hcp1, hcp2, _, _⟩ := hown.some (by simp)
  have hcp : fs.length + 1 ≤ cp ∧ cp ≤ 9223372036854775807 := by
    simp only [List.length_append, List.length_singleton, maxLen] at *
    omega
  have kn : w.cell? ⟨fb, fs.length, none⟩ = some (.int .i64 n) := by
    have := hown.at fs.length (by simp)
    simpa using this
  obtain ⟨k, hk⟩ : ∃ k, fs.length = k := ⟨_, rfl⟩
  rw [hk] at hcp kn
  have htop := h.top
  simp only [List.length_append, List.length_singleton, hk] at htop
  have c0 := cell_at htop 0
  have c1 := cell_at htop 1
  have c2 := cell_at htop 2
  have c3 := cell_at htop 3
  have f1 := free_at htop 1
  have f3 := free_at htop 3
  have HK : Hid _ := hk
  clear hk
  have hkm : k < 4096 := by
    have := h.count
    have := h.len
    have := HK.out
    simp only [List.length_append, List.length_singleton] at *
    omega
  have q1 : IntKind.i64.wrap (k : Int) = k := IntWalk.i64_in _ (by omega)
  have b1 : (k : Int) < (k : Int) + 1 := by omega
  have b2 : (0 : Int) ≤ (k : Int) := by omega
  have b3 : (k : Int) ≤ (cp : Int) := by omega
  go_enter Try.func25, Try.ntmps25
  go_wp2
  go_quiet (fail)
  go_wp2
  go_region
  go_wp2
  obtain ⟨W0, hW0⟩ : ∃ W0, W0 = (w.drewN (nq + 1)).setCell ⟨g, 1, none⟩ (.slice (some ⟨fb, 0, none⟩) k k) := ⟨_, rfl⟩
  rw [← hW0]
  have f0 : Fr [g] w W0 := by rw [hW0]; exact Fr.set ((Fr.refl _ _).drewN _) _ (.inl (by simp)) _
  have top0 : W0.heap[g]? = some (.cells #[.slice (some ⟨gb, 0, none⟩) bl.length bl.length, .slice (some ⟨fb, 0, none⟩) k k, .map (some mb), .int .i64 most] 65 (0, 0)) := by
    rw [hW0]; exact heap_set (a := ⟨g, 1, none⟩) htop rfl _
  clear hW0 c0 c1 c2 c3 f1 f3 b1 b3 kn
  have hgmb : mb ≠ g := by
    rintro rfl
    obtain ⟨es, c, h1, _⟩ := h.map
    rw [htop] at h1; cases h1
  have hggb : gb ≠ g := by
    rintro rfl
    have h1 := h.row
    rw [htop] at h1
    simp at h1
  have hgfb : fb ≠ g := by
    rintro rfl
    rw [htop] at hfb
    simp at hfb
  have hnf := (h.frees (n : Int)).1 (by simp)
  have hbn : bl[n]? = some none := by simpa using hnf.2
  have hnl : n < bl.length := (List.getElem?_eq_some_iff.1 hbn).1
  have hnU : (n : Int) ∉ U := fun hm => by
    obtain ⟨_, b, hb⟩ := (h.used _).1 hm
    rw [Int.toNat_natCast, hbn] at hb
    cases hb
  obtain ⟨zs, hzs⟩ : ∃ zs, List.replicate 64 (0 : UInt8) = zs := ⟨_, rfl⟩
  have hmk : ∀ w : World, (Instr.makeSlice 22 (.int .i64 64) (.int .i64 64)).run Try.prog w = .ok (.slice (some ⟨w.heap.size, 0, none⟩) 64 64) (w.alloc (.cells (bytesArr zs) 5)) := by
    intro w
    obtain ⟨i, hi, hz0, hz1, hz2⟩ := info_parts Try.elU8.hi
    have := run_make_bytes w 22 5 i Try.elU8.ht hi hz0 hz1 hz2 64 (by omega)
    rw [hzs] at this
    exact this
  have HZS : Hid _ := hzs
  clear hzs
  obtain ⟨sa, sb, A1, A2, B1, B2, C2, e1, e2, e3, e4, e5, yA, yB, yC⟩ := take_ways (h.map.fr f0 (by simpa using hgmb)) hnU (by have := h.len; omega) (f0.heap h.row (by simpa using hggb)) zs
  obtain ⟨cA, fA⟩ := yA.there hbn
  obtain ⟨cB, fB⟩ := yB.there hbn
  obtain ⟨cC, fC⟩ := yC.there hbn
  simp only [cellOf] at cA cB cC
  have c0 := cell_at top0 0
  have c2 := cell_at top0 2
  have c0a := cell_at (heap_keep top0 (.cells (bytesArr zs) 5)) 0
  have c2a := cell_at (heap_keep top0 (.cells (bytesArr zs) 5)) 2
  have n1 : (n : Int) < (bl.length : Int) := by omega
  have n2 : (0 : Int) ≤ (n : Int) := by omega
  have HB : Hid (bl[n]? = some none) := hbn
  clear hbn hnf
  go_cut [] from 45 to 58 (fun wx => ∃ nb, Mid W0 wx gb mb nb n bl ((U ++ [(n : Int)]).map (fun z => (z, Value.bool true))) zs)
  case first =>
    go_region
    all_goals
      go_wp2
      go_meet
      case rel => first | exact ⟨_, yA.mid n⟩ | exact ⟨_, yB.mid n⟩ | exact ⟨_, yC.mid n⟩
  case rest =>
    obtain ⟨nb, hM⟩ := hcut
    clear yA yB yC cA cB cC fA fB fC e1 e2 e3 e4 e5 c0 c2 c0a c2a hmk
    have hgM : ∀ k ∈ [g], k ∉ [mb, gb] := by
      intro k hk hm
      simp at hk hm
      subst hk
      rcases hm with h | h
      · exact hgmb h.symm
      · exact hggb h.symm
    have top1 := hM.fr.heap top0 (hgM g (by simp))
    have c2 := cell_at top1 2
    have c3 := cell_at top1 3
    have f3 := free_at top1 3
    obtain ⟨u1, hu1⟩ : ∃ u1 : Nat, u1 = U.length + 1 := ⟨_, rfl⟩
    have hl := fun ty => (show DictAt wc.drew mb _ from hM.map).len (P := Try.prog) Try.underlying63 ty
    simp only [List.length_map, List.length_append, List.length_singleton, ← hu1] at hl
    obtain ⟨m2, hm2, hm3⟩ : ∃ m2 : Int, (if (u1 : Int) > most then (u1 : Int) else most) = m2 ∧ m2 = max most (u1 : Int) := ⟨_, rfl, by split <;> omega⟩
    have HU1 : Hid _ := hu1
    have HM3 : Hid _ := hm3
    clear hu1 hm3
    go_wp2
    go_region
    go_wp2
    go_ret2
    refine ⟨rfl, take_end (m2 := m2) h HK.out HZS.out f0 hM ?_ ?_ ?_⟩
    · exact (Fr.set (Fr.refl _ _) _ (.inl (by simp)) _).drew1
    · exact heap_set (a := ⟨g, 3, none⟩) top1 rfl _
    · rw [HM3.out, HU1.out]
end Go.Proofs.Ytakobldhjndeiaa
