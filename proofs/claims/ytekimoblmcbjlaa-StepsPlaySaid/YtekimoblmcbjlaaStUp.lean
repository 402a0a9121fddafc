/-
  container/heap over the tiles: up, down.
-/
import Derived.Test.YtekimoblmcbjlaaStHeap
import Derived.Test.YtekimoblmcbjlaaStMeth
namespace Go.Proofs.Ytekimoblmcbjlaa
open Go.RowKit

/-- The heap's slice lies in the first cell of block g; its row is apart from it. -/
def Hp (w : World) (g : Nat) (l : List Int) : Prop := ∃ v x y T, w.heap[g]? = some (.cells #[v, x, y] T (0, 0)) ∧ OwnI w 0 v l ∧ v.ownBlock ≠ some g

set_option maxHeartbeats 1000000 in
theorem up_still {w : World} {g b c : Nat} {l : List Int} {x y : Value} {T : TypeId} (h1 : w.heap[g]? = some (.cells #[.slice (some ⟨b, 0, none⟩) l.length c, x, y] T (0, 0))) (h : Ints w (some ⟨b, 0, none⟩) l.length c l) (j : Nat) (hj : j < l.length)
    (hp : ∀ i, i < j → ∀ hi : i < l.length, l[i] ≤ l[j]) (hl : l.length ≤ 1000) :
    Calls Try.prog 14 #[.iface 41 (.pointer (some ⟨g, 0, none⟩)), .int .i64 j] w fun e w' => e = .returned (.tuple #[]) ∧ ∃ q, w' = w.drewN q := by
  have c0 := cell_at h1 0
  have hml := fun q => meth_less (W := w.drewN q) (g := g) (v := .slice (some ⟨b, 0, none⟩) l.length c) c0
  go_enter Try.func14, Try.ntmps14
  go_wp2
  go_loopw [1, 4] (fun i _ wr => i = .int .i64 j ∧ ∃ q, wr = w.drewN q) (fun _ _ _ => 0)
  case atStart => exact ⟨rfl, 0, rfl⟩
  case round =>
    obtain ⟨rfl, q, rfl⟩ := hrel
    have hmq := hml q
    by_cases hj0 : j = 0
    · subst hj0
      go_wp2
      go_end0
      exact ⟨rfl, _, rfl⟩
    · obtain ⟨p, hp2, hpj⟩ : ∃ p : Nat, ((j : Int) - 1).tdiv 2 = (p : Int) ∧ p < j := ⟨(j - 1) / 2, by rw [Int.tdiv_eq_ediv_of_nonneg (by omega)]; omega, by omega⟩
      have b0 : ((p : Int) == (j : Int)) = false := by rw [beq_eq_false_iff_ne]; omega
      have hle := hp p hpj (by omega)
      have hlt : decide (l[j] < l[p]'(by omega)) = false := by rw [decide_eq_false_iff_not]; omega
      have HX := sless_calls (w := w.drewN q) (h.keep (below_draws _ _ _)) j p hj (by omega)
      rw [hlt] at HX
      clear hle hlt hml hp
      go_wp2_with (go_at_call 33; refine HX.mono ?_; rintro e w2 ⟨rfl, q2, rfl⟩)
      go_end0
      exact ⟨rfl, _, rfl⟩

/-- 'append(x, z)' that says where the new row lies. -/
theorem app_int_at {w : World} {ops : Array Oper} {rest : List Oper} {o : Oper} {a : Act} {Q : Exit → Act → World → Prop} (hgd : o.guard = none) (s x : Operand) {t0 : TypeId} (hE : El Try.prog t0 3 (.int .i64 0) 1 8)
    (ho : o.op = .call { callee := .builtin .append, args := #[s, x], argTypes := #[t0, t0] })
    {B g : Nat} {v : Value} {l : List Int} {z : Int} {e : TypeId} (hs : a.eval s = v) (hown : OwnI w B v l) (hx : a.eval x = .slice (some ⟨g, 0, none⟩) 1 1) (hg : g = w.heap.size)
    (hb : B ≤ w.heap.size) (hl : l.length ≤ 1000000)
    (h : ∀ v' w', OwnI w' B v' (l ++ [z]) → (w.alloc (.cells #[.int .i64 z] e)).grownBy w' v.ownBlock → (v'.ownBlock = v.ownBlock ∨ v'.ownBlock = some (w.alloc (.cells #[.int .i64 z] e)).heap.size) → wpList Try.prog ops Q rest (a.put o.dst v') w') :
    wpList Try.prog ops Q (o :: rest) a (w.alloc (.cells #[.int .i64 z] e)) := by
  subst hg
  have hsl : Sl (w.alloc (.cells #[.int .i64 z] e)) (some ⟨w.heap.size, 0, none⟩) 1 1 1 [.int .i64 z] := Sl.of_heap (heap_new w _) rfl rfl (Nat.le_refl _) (by decide)
  refine app_sl_at hE hgd s x ho hs (own_keep hown ((Below.refl _ _).alloc (Nat.le_refl _) _)) hx hsl (oneCell_i64 [z]) (by omega) (by omega) (by simp; omega) ?_
  intro v' w' h2 h3 h4
  refine h v' w' ?_ h3 h4
  unfold OwnI
  rw [List.map_append, List.length_append]
  exact h2
theorem elSort : El Try.prog 35 3 (.int .i64 0) 1 8 := ⟨Try.underlying35, by kernel_rfl, rfl, by decide⟩
theorem OwnI.shape {w : World} {B : Nat} {v : Value} {l : List Int} (h : OwnI w B v l) : ∃ a n c, v = .slice a n c := by
  obtain ⟨a, c, h, _⟩ := h.ints
  exact ⟨_, _, _, h⟩

/-- The heap's slice stands in the first cell of g. -/
structure Hq (w : World) (g : Nat) (v x y : Value) (T : TypeId) (l : List Int) : Prop where
  top : w.heap[g]? = some (.cells #[v, x, y] T (0, 0))
  own : OwnI w 0 v l
  apart : v.ownBlock ≠ some g

theorem Hq.there {w w1 : World} {g : Nat} {v x y : Value} {T : TypeId} {l : List Int} {o : Obj} (h : Hq w g v x y T l) (hg : (w.alloc o).grownBy w1 v.ownBlock) : w1.heap[g]? = some (.cells #[v, x, y] T (0, 0)) := by
  rw [hg.block g (heap_lt (heap_keep h.top o)) (fun e => h.apart e.symm)]
  exact heap_keep h.top o
theorem assert_int (n : Int) (W : World) : (Instr.typeAssert (.iface 3 (.int .i64 n)) 20 3 true).run Try.prog W = .ok (.tuple #[.int .i64 n, .bool true]) W := by kernel_rfl
theorem tpush_calls {w : World} {g : Nat} {v x y : Value} {T : TypeId} {l : List Int} (h : Hq w g v x y T l) (n : Int) (hl : l.length ≤ 1000) :
    Calls Try.prog 37 #[.pointer (some ⟨g, 0, none⟩), .iface 3 (.int .i64 n)] w fun e w' => e = .returned (.tuple #[]) ∧ ∃ v', Hq w' g v' x y T (l ++ [n]) ∧ (v'.ownBlock = v.ownBlock ∨ ∃ k, v'.ownBlock = some k ∧ w.heap.size ≤ k) ∧ Fr (g :: v.ownBlock.toList) w w' := by
  have c0 := cell_at h.top 0
  have hta := assert_int n
  obtain ⟨av, nv, cv, rfl⟩ := h.own.shape
  have ho := h.own
  go_enter Try.func37, Try.ntmps37
  go_wp2_with (at_builtin; refine app_int_at (z := n) (l := l) (v := .slice av nv cv) rfl (.tmp 16) (.tmp 18) elSort rfl rfl ho rfl rfl (Nat.zero_le _) (by omega) ?_; intro v1 w1 ho1 hg1 hl1; obtain ⟨a1, n1, k1, rfl⟩ := ho1.shape; have hh := h.there hg1; have c1 := cell_at hh 0; have f1 := free_at hh 0)
  go_end0
  refine ⟨rfl, _, ⟨heap_set (a := ⟨g, 0, none⟩) hh rfl _, ?_, ?_⟩, ?_, ?_⟩
  · have hne : ∀ k, (Value.slice a1 n1 k1).ownBlock = some k → k ∉ [g] := by
      intro k hk hm
      simp at hm; subst hm
      rcases hl1 with h1 | h1
      · rw [h1] at hk; exact h.apart hk
      · rw [h1] at hk; simp only [Option.some.injEq] at hk; have := heap_lt h.top; simp at hk; omega
    exact own_fr ho1 (Fr.set (Fr.refl [g] _) _ (.inl (by simp)) _) hne
  · intro hk
    rcases hl1 with h1 | h1
    · rw [h1] at hk; exact h.apart hk
    · rw [h1] at hk; simp only [Option.some.injEq] at hk; have := heap_lt h.top; simp at hk; omega
  · rcases hl1 with h1 | h1
    · exact .inl h1
    · exact .inr ⟨_, h1, by simp⟩
  · refine Fr.set (Fr.grown ((Fr.refl _ _).alloc _) hg1 ?_) _ (.inl (by simp)) _
    intro k hk
    left; simp [hk]
end Go.Proofs.Ytekimoblmcbjlaa
