/-
  heap.Push of a number that is none less.
-/
import Derived.Test.YtekimoblmcbjlaaStUp
namespace Go.Proofs.Ytekimoblmcbjlaa
open Go.RowKit

theorem Hq.keep {w w' : World} {g : Nat} {v x y : Value} {T : TypeId} {l : List Int} (h : Hq w g v x y T l) (hb : Below w.heap.size w w') : Hq w' g v x y T l :=
  ⟨by rw [hb.block g (heap_lt h.top)]; exact h.top, h.own.keep hb, h.apart⟩

theorem Hq.up {w : World} {g b c : Nat} {x y : Value} {T : TypeId} {l : List Int} {n : Int} (h : Hq w g (.slice (some ⟨b, 0, none⟩) (l ++ [n]).length c) x y T (l ++ [n])) (hn : ∀ z ∈ l, z ≤ n) (hl : l.length < 1000) :
    Calls Try.prog 14 #[.iface 41 (.pointer (some ⟨g, 0, none⟩)), .int .i64 l.length] w fun e w' => e = .returned (.tuple #[]) ∧ ∃ q, w' = w.drewN q := by
  obtain ⟨a, c', e1, hI⟩ := h.own.ints
  cases e1
  refine up_still h.top hI l.length (by simp) ?_ (by simp; omega)
  intro i hi hi2
  rw [List.getElem_append_left hi, List.getElem_append_right (Nat.le_refl _)]
  simp only [Nat.sub_self, List.getElem_cons_zero]
  exact hn _ (List.getElem_mem hi)
set_option maxRecDepth 10000 in
set_option maxHeartbeats 1000000 in
theorem hpush_calls {w : World} {g : Nat} {v x y : Value} {T : TypeId} {l : List Int} (h : Hq w g v x y T l) (n : Int) (hl : l.length < 1000) (hn : ∀ z ∈ l, z ≤ n) :
    Calls Try.prog 12 #[.iface 41 (.pointer (some ⟨g, 0, none⟩)), .iface 3 (.int .i64 n)] w fun e w' => e = .returned (.tuple #[]) ∧ ∃ v', Hq w' g v' x y T (l ++ [n]) ∧ (v'.ownBlock = v.ownBlock ∨ ∃ k, v'.ownBlock = some k ∧ w.heap.size ≤ k) ∧ Fr (g :: v.ownBlock.toList) w w' := by
  have hmp := fun W => meth_push W g
  have q1 : IntKind.i64.wrap (l.length : Int) = l.length := IntWalk.i64_in _ (by omega)
  go_enter Try.func12, Try.ntmps12
  go_wp2_with (first
    | (go_at_call 37; refine (tpush_calls h n (by omega)).mono ?_; rintro e w1 ⟨rfl, v1, h1, hv1, hf1⟩; obtain ⟨b1, c1, e1, _, _⟩ := own_some h1.own (by simp); subst e1; have hml := meth_len (W := w1) (g := g) (cell_at h1.top 0); have HU := h1.up hn hl)
    | (go_at_call 32; refine (slen_calls _ _ _ _).mono ?_; rintro e w2 ⟨rfl, rfl⟩)
    | (go_at_call 14; refine HU.mono ?_; rintro e w3 ⟨rfl, q, rfl⟩))
  go_end0
  exact ⟨rfl, _, h1.keep (below_draws _ _ _), hv1, hf1.drewN _⟩
end Go.Proofs.Ytekimoblmcbjlaa
