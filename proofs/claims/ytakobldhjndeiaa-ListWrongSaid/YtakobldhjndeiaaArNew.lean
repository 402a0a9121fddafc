/-
  Making an arena.
-/
import Derived.Test.YtakobldhjndeiaaArena
namespace Go.Proofs.Ytakobldhjndeiaa
open Go.RowKit

theorem bl_none {n i : Nat} {o : Option Nat} (h : (List.replicate n (none : Option Nat))[i]? = some o) : i < n ∧ o = none := by
  rw [List.getElem?_replicate] at h
  split at h
  · rename_i hi; exact ⟨hi, by cases h; rfl⟩
  · cases h
theorem downs_mem {r k : Nat} {z : Int} : z ∈ downs r k ↔ (k : Int) ≤ z ∧ z < r := by
  unfold downs
  rw [List.mem_map]
  constructor
  · rintro ⟨j, hj, rfl⟩; rw [List.mem_range] at hj; omega
  · intro h; exact ⟨r - 1 - z.toNat, by rw [List.mem_range]; omega, by omega⟩
theorem downs_nodup (r : Nat) : (downs r 0).Nodup := by
  unfold downs
  refine List.pairwise_map.2 (List.nodup_range.imp_of_mem ?_)
  intro a b ha hb hne
  rw [List.mem_range] at ha hb
  omega

theorem ar_made {w : World} {g gb mb : Nat} {fv : Value} {r : Nat} (hr : r ≤ 4096) (h1 : w.heap[g]? = some (.cells #[.slice (some ⟨gb, 0, none⟩) r r, fv, .map (some mb), .int .i64 0] 65 (0, 0)))
    (h2 : w.heap[gb]? = some (.cells (rowOf (List.replicate r none)) 22 (0, 0))) (h3 : w.heap[mb]? = some (.map #[] 0)) (h4 : FreeI w fv (downs r 0)) :
    Ar w g (arBlocks g gb mb fv (List.replicate r none)) r (downs r 0) [] 0 (fun _ => []) := by
  refine ⟨gb, mb, fv, _, ⟨by rw [List.length_replicate]; exact h1, h2, ⟨#[], 0, h3, rfl, MapKept.stamped_empty 0, fun _ h => by cases h⟩, h4, ?_, ?_, ?_, ?_, downs_nodup r, by simp [downs], by omega, by simpa using hr⟩, rfl, by simp⟩
  · intro i b h; have := (bl_none h).2; cases this
  · intro i j b h; have := (bl_none h).2; cases this
  · intro z
    constructor
    · intro h; cases h
    · rintro ⟨_, b, h⟩; have := (bl_none h).2; cases this
  · intro z
    rw [downs_mem, List.getElem?_replicate]
    constructor
    · intro h; exact ⟨by omega, by rw [if_pos (by omega)]⟩
    · rintro ⟨h0, h⟩
      split at h
      · omega
      · cases h

theorem new_there {w w1 : World} {g : Nat} {x0 x2 x3 v : Value} {T : TypeId} {l : List Int} {o : Obj} (h1 : w.heap[g]? = some (.cells #[x0, v, x2, x3] T (0, 0))) (ho : OwnI w (g + 1) v l) (hg : (w.alloc o).grownBy w1 v.ownBlock) :
    w1.cell? ⟨g, 1, none⟩ = some v ∧ w1.frozen? ⟨g, 1, none⟩ = false ∧ w1.heap[g]? = some (.cells #[x0, v, x2, x3] T (0, 0)) := by
  have hne : some g ≠ v.ownBlock := fun e => by have := (World.ownsRow.lt ho g e.symm).1; omega
  have hh : w1.heap[g]? = some (.cells #[x0, v, x2, x3] T (0, 0)) := by rw [hg.block g (heap_lt (heap_keep h1 o)) hne]; exact heap_keep h1 o
  exact ⟨cell_at hh 1, free_at hh 1, hh⟩

/-- An old block, behind an append to a row above it and a store into another one. -/
theorem new_other {w w1 : World} {B g j : Nat} {v : Value} {l : List Int} {o o' : Obj} (ho : OwnI w B v l) (hg : (w.alloc o).grownBy w1 v.ownBlock) (hj : w.heap[j]? = some o') (hB : j < B) (hne : j ≠ g) (y : Value) :
    (w1.setCell ⟨g, 1, none⟩ y).heap[j]? = some o' := by
  rw [heap_set_ne _ (show j ≠ (⟨g, 1, none⟩ : Addr).block from hne), hg.block j (heap_lt (heap_keep hj o)) (fun e => by have := (World.ownsRow.lt ho j e.symm).1; omega)]
  exact heap_keep hj o

set_option maxRecDepth 10000 in
set_option maxHeartbeats 1000000 in
theorem new_calls (many : Int) (w : World) :
    Calls Try.prog 10 #[.int .i64 many] w fun e w' => ∃ g S, e = .returned (.pointer (some ⟨g, 0, none⟩)) ∧ Ar w' g S (min (max many 0) 4096).toNat (downs (min (max many 0) 4096).toNat 0) [] 0 (fun _ => []) ∧ (∀ k ∈ S, w.heap.size ≤ k ∧ k < w'.heap.size) ∧ Below w.heap.size w w' := by
  obtain ⟨m, hm, hm2⟩ : ∃ m : Int, (if (0 : Int) > many then (0 : Int) else many) = m ∧ m = max many 0 := ⟨_, rfl, by split <;> omega⟩
  obtain ⟨r, hr, hr2⟩ : ∃ r : Nat, (if (4096 : Int) < m then (4096 : Int) else m) = (r : Int) ∧ r = (min (max many 0) 4096).toNat := ⟨(min (max many 0) 4096).toNat, by split <;> omega, rfl⟩
  rw [← hr2]
  have hr3 : r ≤ 4096 := by omega
  have hrow := run_make_rows (n := r) (hn := hr3)
  have hmm := @run_makeMap Try.prog
  clear hm2 hr2
  go_enter Try.func10, Try.ntmps10
  go_wp2
  have lt3 : w.heap.size + 1 + 1 < ((((w.alloc (.cells (rowOf (List.replicate r none)) 22)).alloc (.map #[] 0)).alloc (.cells #[.slice (some ⟨w.heap.size, 0, none⟩) r r, .slice none 0 0, .map (some (w.heap.size + 1)), .int .i64 0] 65)).heap.size) := by simp
  go_loopw [5] (fun i wr => ∃ (k : Nat) (fv : Value), k ≤ r ∧ i = .int .i64 ((k : Int) - 1) ∧ wr.heap[w.heap.size + 1 + 1]? = some (.cells #[.slice (some ⟨w.heap.size, 0, none⟩) r r, fv, .map (some (w.heap.size + 1)), .int .i64 0] 65 (0, 0)) ∧ OwnI wr (w.heap.size + 1 + 1 + 1) fv (downs r k) ∧ wr.heap[w.heap.size]? = some (.cells (rowOf (List.replicate r none)) 22 (0, 0)) ∧ wr.heap[w.heap.size + 1]? = some (.map #[] 0) ∧ w.heap.size + 1 + 1 < wr.heap.size ∧ Below w.heap.size w wr) (fun i _ => (intOf i + 1).toNat)
  case atStart =>
    have e1 := heap_new w (.cells (rowOf (List.replicate r none)) 22)
    have e2 := heap_new (w.alloc (.cells (rowOf (List.replicate r none)) 22)) (.map #[] 0)
    have e3 := heap_new ((w.alloc (.cells (rowOf (List.replicate r none)) 22)).alloc (.map #[] 0)) (.cells #[.slice (some ⟨w.heap.size, 0, none⟩) r r, .slice none 0 0, .map (some (w.heap.size + 1)), .int .i64 0] 65)
    refine ⟨r, _, Nat.le_refl _, rfl, ?_, by rw [downs_all]; exact OwnI.nil _ _, heap_keep (heap_keep e1 _) _, heap_keep (by simpa using e2) _, lt3, ?_⟩
    · simpa using e3
    · exact (((Below.refl _ _).alloc (Nat.le_refl _) _).alloc ((Below.refl _ _).alloc (Nat.le_refl _) _).size _).alloc (((Below.refl _ _).alloc (Nat.le_refl _) _).alloc ((Below.refl _ _).alloc (Nat.le_refl _) _).size _).size _
  case round =>
    clear lt3 hm hr
    obtain ⟨k, fv, hk, rfl, h1, ho, h2, h3, hlt, hb⟩ := hrel
    by_cases hk0 : 0 < k
    · obtain ⟨k, rfl⟩ : ∃ j, k = j + 1 := ⟨k - 1, by omega⟩
      have hdn := downs_next (r := r) (k := k) (by omega)
      have hdl : (downs r (k + 1)).length ≤ 1000000 := by simp [downs]; omega
      have HD : Hid _ := hdn
      obtain ⟨D1, hD1⟩ : ∃ D1, downs r (k + 1) = D1 := ⟨_, rfl⟩
      rw [hD1] at ho hdl hdn
      have HD1 : Hid _ := hD1
      clear hdn hD1
      have c1 := cell_at h1 1
      have q1 : (((k + 1 : Nat) : Int) - 1) = (k : Int) := by omega
      rw [q1]
      obtain ⟨av, nv, cv, rfl⟩ : ∃ a n c, fv = .slice a n c := by obtain ⟨a, c, h, _⟩ := ho.ints; exact ⟨_, _, _, h⟩
      go_wp2_with (at_builtin; refine app_int (z := (k : Int)) rfl _ _ rfl rfl ho rfl rfl hlt hdl ?_; intro v1 w1 ho1 hg1; obtain ⟨c2, c2', x1⟩ := new_there h1 ho hg1; obtain ⟨a1, n1, k1, rfl⟩ : ∃ a n c, v1 = .slice a n c := by obtain ⟨a, c, h, _⟩ := ho1.ints; exact ⟨_, _, _, h⟩)
      go_roundw
      case rel =>
        refine ⟨k, _, by omega, rfl, heap_set (a := ⟨_, 1, none⟩) x1 rfl _, ?_, new_other ho hg1 h2 (by omega) (by omega) _, new_other ho hg1 h3 (by omega) (by omega) _, ?_, ?_⟩
        · rw [HD.out, HD1.out]
          refine own_fr ho1 (Fr.set (S := [w.heap.size + 1 + 1]) (Fr.refl _ _) _ (.inl (by simp)) _) ?_
          intro j hj
          have := (World.ownsRow.lt ho1 j hj).1
          simp only [List.mem_singleton]; omega
        · rw [World.size_setCell]; have := hg1.size; simp at this; omega
        · exact (below_app (hb.alloc hb.size _) (own_keep ho ((Below.refl _ _).alloc (Nat.le_refl _) _)) hg1 (by omega) (hb.alloc hb.size _).size).setCell (by show w.heap.size ≤ w.heap.size + 1 + 1; omega) _
      case measure => simp [intOf]
    · obtain rfl : k = 0 := by omega
      go_wp2
      go_ret
      refine ⟨_, _, rfl, ar_made hr3 h1 h2 h3 (FreeI.of_own ho), ?_, hb⟩
      intro x hx
      simp only [arBlocks, List.mem_cons, List.mem_append, Option.mem_toList, List.mem_filterMap] at hx
      rcases hx with rfl | rfl | rfl | hx | ⟨o, ho2, hx⟩
      · omega
      · omega
      · omega
      · have := World.ownsRow.lt ho _ hx; omega
      · have := List.eq_of_mem_replicate ho2; subst this; cases hx
end Go.Proofs.Ytakobldhjndeiaa
