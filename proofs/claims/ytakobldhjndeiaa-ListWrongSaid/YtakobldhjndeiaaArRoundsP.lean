/-
  The arena beside a slice of ints.
-/
import Derived.Test.YtakobldhjndeiaaArGive
import Derived.Test.YtakobldhjndeiaaArAwake
import Derived.Test.YtakobldhjndeiaaStr
namespace Go.Proofs.Ytakobldhjndeiaa
open Go.RowKit

theorem Ar.lt {w : World} {g : Nat} {S : List Nat} {r : Nat} {free U : List Int} {most : Int} {mem : Nat → List UInt8} (h : Ar w g S r free U most mem) : ∀ k ∈ S, k < w.heap.size := by
  obtain ⟨gb, mb, fv, bl, h, rfl, rfl⟩ := h
  intro k hk
  simp only [arBlocks, List.mem_cons, List.mem_append, Option.mem_toList, List.mem_filterMap, id] at hk
  rcases hk with rfl | rfl | rfl | hk | ⟨o, ho, rfl⟩
  · exact heap_lt h.top
  · exact heap_lt h.row
  · exact h.map.lt
  · rcases h.own with ⟨rfl, _⟩ | ⟨fb, cap, cur, rfl, h2, _⟩
    · cases hk
    · simp [Value.ownBlock] at hk; subst hk; exact heap_lt h2
  · obtain ⟨i, hi, hii⟩ := List.getElem_of_mem ho
    exact heap_lt (h.mems i k (by rw [List.getElem?_eq_getElem hi, hii])).1
theorem Ar.nodup {w : World} {g : Nat} {S : List Nat} {r : Nat} {free U : List Int} {most : Int} {mem : Nat → List UInt8} (h : Ar w g S r free U most mem) : U.Nodup ∧ free.length + U.length = r ∧ (∀ z ∈ U, 0 ≤ z ∧ z < r) ∧ (∀ z ∈ free, 0 ≤ z ∧ z < r) ∧ 0 ≤ most ∧ r ≤ 4096 := by
  obtain ⟨gb, mb, fv, bl, h, rfl, rfl⟩ := h
  refine ⟨h.nodupU, h.count, fun z hz => ?_, fun z hz => ?_, h.most0.1, h.len⟩
  · obtain ⟨h0, b, hb⟩ := (h.used z).1 hz
    have := (List.getElem?_eq_some_iff.1 hb).1
    omega
  · obtain ⟨h0, hb⟩ := (h.frees z).1 hz
    have := (List.getElem?_eq_some_iff.1 hb).1
    omega
/-- The free ones, the last apart. -/
theorem Ar.last {w : World} {g : Nat} {S : List Nat} {r : Nat} {free U : List Int} {most : Int} {mem : Nat → List UInt8} (h : Ar w g S r free U most mem) (hU : U.length < r) : ∃ fs n, free = fs ++ [((n : Nat) : Int)] ∧ n < r := by
  obtain ⟨_, h1, _, h2, _⟩ := h.nodup
  have hne : free ≠ [] := by rintro rfl; simp at h1; omega
  obtain ⟨fs, z, rfl⟩ : ∃ fs z, free = fs ++ [z] := ⟨free.dropLast, free.getLast hne, (List.dropLast_concat_getLast hne).symm⟩
  have := h2 z (by simp)
  exact ⟨fs, z.toNat, by rw [show (z.toNat : Int) = z by omega], by omega⟩

/-- A slice of ints beside the blocks S, all made behind w0. -/
structure Bes (w0 w : World) (S : List Nat) (v : Value) (l : List Int) : Prop where
  own : OwnI w w0.heap.size v l
  apart : ∀ x, v.ownBlock = some x → x ∉ S
  far : ∀ k ∈ S, w0.heap.size ≤ k
  below : Below w0.heap.size w0 w
theorem Bes.step {w0 w w1 : World} {S S1 : List Nat} {v : Value} {l : List Int} (h : Bes w0 w S v l) (hg : Grows S w S1) (hf : Fr S w w1) : Bes w0 w1 S1 v l := by
  refine ⟨own_fr h.own hf h.apart, ?_, ?_, Fr.below h.below hf h.far h.below.size⟩
  · intro x hx hm
    have hl := (World.ownsRow.lt h.own x hx).2
    rcases hg x hm with h1 | h1
    · exact h.apart x hx h1
    · omega
  · intro k hk
    rcases hg k hk with h1 | h1
    · exact h.far k h1
    · exact Nat.le_trans h.below.size h1
theorem Bes.keep {w0 w w1 : World} {S : List Nat} {v : Value} {l : List Int} (h : Bes w0 w S v l) (hb : Below w.heap.size w w1) : Bes w0 w1 S v l :=
  ⟨h.own.keep hb, h.apart, h.far, h.below.trans (hb.mono h.below.size)⟩
theorem Bes.nil {w0 w : World} {S : List Nat} (hf : ∀ k ∈ S, w0.heap.size ≤ k) (hb : Below w0.heap.size w0 w) : Bes w0 w S (.slice none 0 0) [] := ⟨OwnI.nil _ _, fun x hx => (by cases hx), hf, hb⟩
theorem Bes.app {w0 w w3 : World} {S : List Nat} {v v3 : Value} {l l' : List Int} (h : Bes w0 w S v l) (hS : ∀ k ∈ S, k < w.heap.size) (ho : OwnI w3 w0.heap.size v3 l') (hg : w.grownBy w3 v.ownBlock) (hl : v3.ownBlock = v.ownBlock ∨ v3.ownBlock = some w.heap.size) :
    Bes w0 w3 S v3 l' ∧ Fr v.ownBlock.toList w w3 := by
  have hf : Fr v.ownBlock.toList w w3 := (Fr.refl _ _).grown hg (fun g hg => .inl (by rw [hg]; simp))
  refine ⟨⟨ho, ?_, h.far, below_app h.below h.own hg (Nat.le_refl _) h.below.size⟩, hf⟩
  intro x hx hm
  rcases hl with h1 | h1
  · exact h.apart x (h1 ▸ hx) hm
  · have := hS x hm
    rw [h1] at hx; cases hx; omega
theorem Bes.not {w0 w : World} {S : List Nat} {v : Value} {l : List Int} (h : Bes w0 w S v l) : ∀ k ∈ S, k ∉ v.ownBlock.toList := by
  intro k hk hm
  cases hvo : v.ownBlock with
  | none => rw [hvo] at hm; simp at hm
  | some x => rw [hvo] at hm; simp at hm; subst hm; exact h.apart k hvo hk

theorem OwnI.shape {w : World} {B : Nat} {v : Value} {l : List Int} (h : OwnI w B v l) : ∃ a n c, v = .slice a n c := by
  obtain ⟨a, c, h, _⟩ := h.ints
  exact ⟨_, _, _, h⟩
/-- 'append(x, z)' that says where the new row lies. -/
theorem app_int_at {w : World} {ops : Array Oper} {rest : List Oper} {o : Oper} {a : Act} {Q : Exit → Act → World → Prop} (hgd : o.guard = none) (s x : Operand)
    (ho : o.op = .call { callee := .builtin .append, args := #[s, x], argTypes := #[31, 31] })
    {B g : Nat} {v : Value} {l : List Int} {z : Int} {e : TypeId} (hs : a.eval s = v) (hown : OwnI w B v l) (hx : a.eval x = .slice (some ⟨g, 0, none⟩) 1 1) (hg : g = w.heap.size)
    (hb : B ≤ w.heap.size) (hl : l.length ≤ 1000000)
    (h : ∀ v' w', OwnI w' B v' (l ++ [z]) → (w.alloc (.cells #[.int .i64 z] e)).grownBy w' v.ownBlock → (v'.ownBlock = v.ownBlock ∨ v'.ownBlock = some (w.alloc (.cells #[.int .i64 z] e)).heap.size) → wpList Try.prog ops Q rest (a.put o.dst v') w') :
    wpList Try.prog ops Q (o :: rest) a (w.alloc (.cells #[.int .i64 z] e)) := by
  subst hg
  have hsl : Sl (w.alloc (.cells #[.int .i64 z] e)) (some ⟨w.heap.size, 0, none⟩) 1 1 1 [.int .i64 z] := Sl.of_heap (heap_new w _) rfl rfl (Nat.le_refl _) (by decide)
  refine app_sl_at Try.elI64 hgd s x ho hs (own_keep hown ((Below.refl _ _).alloc (Nat.le_refl _) _)) hx hsl (oneCell_i64 [z]) (by omega) (by omega) (by simp; omega) ?_
  intro v' w' h2 h3 h4
  refine h v' w' ?_ h3 h4
  unfold OwnI
  rw [List.map_append, List.length_append]
  exact h2
end Go.Proofs.Ytakobldhjndeiaa
