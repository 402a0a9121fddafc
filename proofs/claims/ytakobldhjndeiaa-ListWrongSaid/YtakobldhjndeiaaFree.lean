/-
  A slice of ints whose capacity may be less than what lies behind it.
-/
import Derived.Test.YtakobldhjndeiaaInts
import Derived.Test.YtakobldhjndeiaaFr
import Derived.ArgAppend
namespace Go.Proofs.Ytakobldhjndeiaa
open Go.RowKit

def FreeI (w : World) (fv : Value) (l : List Int) : Prop :=
  (fv = .slice none 0 0 ∧ l = []) ∨ ∃ fb cap cur, fv = .slice (some ⟨fb, 0, none⟩) l.length cap ∧ w.heap[fb]? = some (.cells cur 3 (0, 0)) ∧ l.length ≤ cap ∧ cap ≤ maxLen ∧ cap ≤ cur.size ∧ cur.toList.take l.length = l.map i64
theorem FreeI.of_own {w : World} {B : Nat} {fv : Value} {l : List Int} (h : OwnI w B fv l) : FreeI w fv l := by
  obtain ⟨h1, ⟨h2, h3⟩ | ⟨g, cap, cur, h2, h3, h4, h5, h6, h7, h8⟩⟩ := h
  · exact .inl ⟨h2, List.eq_nil_of_length_eq_zero h3⟩
  · exact .inr ⟨g, cap, cur, h2, h4, h5, h6, by omega, by simpa using h8⟩
theorem FreeI.fr {S : List Nat} {w w' : World} {fv : Value} {l : List Int} (h : FreeI w fv l) (hf : Fr S w w') (hn : ∀ k, fv.ownBlock = some k → k ∉ S) : FreeI w' fv l := by
  rcases h with h | ⟨fb, cap, cur, rfl, h1, h2⟩
  · exact .inl h
  · exact .inr ⟨fb, cap, cur, rfl, hf.heap h1 (hn fb rfl), h2⟩
theorem FreeI.shape {w : World} {fv : Value} {l : List Int} (h : FreeI w fv l) : ∃ a cap, fv = .slice a l.length cap := by
  rcases h with ⟨rfl, rfl⟩ | ⟨fb, cap, cur, rfl, _⟩
  · exact ⟨none, 0, rfl⟩
  · exact ⟨_, _, rfl⟩
theorem FreeI.some {w : World} {fv : Value} {l : List Int} (h : FreeI w fv l) (hn : l ≠ []) : ∃ fb cap cur, fv = .slice (some ⟨fb, 0, none⟩) l.length cap ∧ w.heap[fb]? = some (.cells cur 3 (0, 0)) ∧ l.length ≤ cap ∧ cap ≤ maxLen ∧ cap ≤ cur.size ∧ cur.toList.take l.length = l.map i64 := by
  rcases h with ⟨rfl, rfl⟩ | h
  · exact absurd rfl hn
  · exact h
/-- Without the last one, and without room behind. -/
theorem FreeI.back {w : World} {fb cap k : Nat} {l : List Int} {z : Int} (h : FreeI w (.slice (.some ⟨fb, 0, none⟩) (k + 1) cap) (l ++ [z])) (hk : k = l.length) : FreeI w (.slice (.some ⟨fb, 0, none⟩) k k) l := by
  subst hk
  rcases h with ⟨h, _⟩ | ⟨fb', cap', cur, h0, h1, h2, h3, h4, h5⟩
  · cases h
  · have e1 : fb = fb' := by have := congrArg Value.ownBlock h0; simpa [Value.ownBlock] using this
    subst e1
    simp only [List.length_append, List.length_singleton] at h2 h5
    refine .inr ⟨fb, l.length, cur, rfl, h1, Nat.le_refl _, by omega, by omega, ?_⟩
    have := congrArg (List.take l.length) h5
    rw [List.take_take, Nat.min_eq_left (by omega), List.map_append, List.take_left' (by simp)] at this
    exact this
theorem FreeI.at {w : World} {fb cap n : Nat} {l : List Int} (h : FreeI w (.slice (.some ⟨fb, 0, none⟩) n cap) l) (i : Nat) (hi : i < l.length) : w.cell? ⟨fb, i, none⟩ = .some (.int .i64 l[i]) := by
  rcases h with ⟨h, _⟩ | ⟨fb', cap', cur, h0, h1, h2, h3, h4, h5⟩
  · cases h
  · have e1 : fb = fb' := by have := congrArg Value.ownBlock h0; simpa [Value.ownBlock] using this
    subst e1
    rw [cell_at h1]
    have : (cur.toList.take l.length)[i]? = (l.map i64)[i]? := by rw [h5]
    rw [List.getElem?_take_of_lt hi] at this
    simpa [hi] using this

theorem setCells_one (w : World) (b o : Nat) (v : Value) : w.setCells b o [v] = w.setCell ⟨b, o, none⟩ v := rfl

/-- 'append(x, z)'. -/
theorem app_free {w : World} {ops : Array Oper} {rest : List Oper} {o : Oper} {a : Act} {Q : Exit → Act → World → Prop} (hgd : o.guard = none) (s x : Operand)
    (ho : o.op = .call { callee := .builtin .append, args := #[s, x], argTypes := #[31, 31] })
    {g : Nat} {v : Value} {l : List Int} {z : Int} {e : TypeId} (hs : a.eval s = v) (hown : FreeI w v l) (hx : a.eval x = .slice (some ⟨g, 0, none⟩) 1 1) (hg : g = w.heap.size) (hl : l.length ≤ 1000000)
    (h : ∀ v' w', FreeI w' v' (l ++ [z]) → Fr v.ownBlock.toList (w.alloc (.cells #[.int .i64 z] e)) w' → (∀ k, v'.ownBlock = some k → v.ownBlock = some k ∨ w.heap.size < k) → wpList Try.prog ops Q rest (a.put o.dst v') w') :
    wpList Try.prog ops Q (o :: rest) a (w.alloc (.cells #[.int .i64 z] e)) := by
  subst hg
  obtain ⟨i, hi, hz0, hz1, hz2⟩ := info_parts Try.elI64.hi
  have hnew := cell_at (heap_new w (.cells #[.int .i64 z] e)) 0
  have grow : ∀ v' w', w'.ownsRow (w.alloc (.cells #[.int .i64 z] e)).heap.size 3 1 v' (l.length + 1) (l.map i64 ++ [.int .i64 z]) → (w.alloc (.cells #[.int .i64 z] e)).grownBy w' none → wpList Try.prog ops Q rest (a.put o.dst v') w' := by
    intro v' w' h1 h2
    have h3 : OwnI w' (w.alloc (.cells #[.int .i64 z] e)).heap.size v' (l ++ [z]) := by
      unfold OwnI; simp only [List.length_append, List.length_singleton, List.map_append, List.map_singleton]; exact h1
    refine h v' w' (FreeI.of_own h3) ((Fr.refl _ _).grown h2 (fun g hg => by cases hg)) ?_
    intro k hk
    have := (World.ownsRow.lt h3 k hk).1
    simp at this
    exact .inr (by omega)
  rcases hown with ⟨rfl, rfl⟩ | ⟨fb, cap, cur, rfl, h1, h2, h3, h4, h5⟩
  · exact wpList_append_grows _ hgd s x 31 ho 3 i _ 1 8 Try.elI64.ht hi hz0 hz1 hz2 rfl (by omega) none 0 0 [] hs (fun _ => ⟨rfl, rfl⟩) rfl (fun b hb => by cases hb) ⟨w.heap.size, 0, none⟩ 1 1 [.int .i64 z] hx rfl
      (by intro j u hj; cases j with
          | zero => simp at hj; subst hj; rw [Addr.add_zero']; exact hnew
          | succ j => simp at hj) (by simp [Value.oneCell']) (by omega) (by decide) (by omega) (by simpa using grow)
  · have hk := heap_keep h1 (.cells #[.int .i64 z] e)
    refine wpList_append_arg _ hgd s x 31 ho 3 i _ 1 8 Try.elI64.ht hi hz0 hz1 hz2 rfl (by omega) fb 0 l.length cap (l.map i64) hs (by simp) ?_ ⟨w.heap.size, 0, none⟩ 1 1 [.int .i64 z] hx rfl ?_ (by simp [Value.oneCell']) ?_ (by unfold maxLen; omega) (by omega) ?_ ?_
    · intro j u hj
      rw [Nat.zero_add, cell_at hk]
      have hjl : j < l.length := by
        rcases Nat.lt_or_ge j l.length with h | h
        · exact h
        · rw [List.getElem?_eq_none (by simpa using h)] at hj; cases hj
      rw [← h5, List.getElem?_take_of_lt hjl] at hj
      simpa using hj
    · intro j u hj
      cases j with
      | zero => simp at hj; subst hj; rw [Addr.add_zero']; exact hnew
      | succ j => simp at hj
    · intro hr j hj
      simp at hj; subst hj
      rw [cell_at hk, free_at hk]
      simp
      omega
    · intro hr
      rw [setCells_one]
      have e1 : (⟨fb, 0 + l.length * 1, none⟩ : Addr) = ⟨fb, l.length, none⟩ := by simp
      rw [e1]
      refine h _ _ (.inr ⟨fb, cap, cur.setIfInBounds l.length (.int .i64 z), by simp, heap_set (a := ⟨fb, l.length, none⟩) hk rfl _, by simp; omega, h3, by simpa using h4, ?_⟩) (Fr.set (Fr.refl _ _) _ (.inl (by simp [Value.ownBlock])) _) ?_
      · rw [Array.toList_setIfInBounds, List.length_append, List.length_singleton, List.take_succ_eq_append_getElem (by simp; omega), List.getElem_set_self, List.take_set_of_le (Nat.le_refl _), h5, List.map_append]
        rfl
      · intro k hk'
        simp [Value.ownBlock] at hk'
        subst hk'
        exact .inl rfl
    · intro hr; exact grow
end Go.Proofs.Ytakobldhjndeiaa
