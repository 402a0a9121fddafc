/-
  Slices of records that the call owns: they grow, their cells are written.
-/
import Derived.Test.YtakobldhjndeiaaRecs
import Derived.Test.YtakobldhjndeiaaFr
namespace Go.Proofs.Ytakobldhjndeiaa
open Go.RowKit

section
variable {α : Type} {f : α → List Value} {P : Program} {t e : TypeId} {z : Value} {sz bytes : Nat}
/-- Records that the call owns. -/
def OwnL (e : TypeId) (sz : Nat) (f : α → List Value) (w : World) (B : Nat) (v : Value) (l : List α) : Prop := w.ownsRow B e sz v l.length (l.map f).flatten
theorem OwnL.nil (w : World) (B : Nat) : OwnL e sz f w B (.slice none 0 0) [] := World.ownsRow_nil w B _ _
theorem OwnL.keep {w w' : World} {B : Nat} {v : Value} {l : List α} (h : OwnL e sz f w B v l) (hb : Below w.heap.size w w') : OwnL e sz f w' B v l := own_keep h hb
theorem OwnL.base {w : World} {B B' : Nat} {v : Value} {l : List α} (h : OwnL e sz f w B v l) (hb : B' ≤ B) : OwnL e sz f w B' v l := own_base h hb
theorem OwnL.read {w : World} {B : Nat} {v : Value} {l : List α} (h : OwnL e sz f w B v l) : ∃ a cap, v = .slice a l.length cap ∧ Sl w a l.length cap sz (l.map f).flatten := Sl.of_own h
theorem OwnL.below {w w' : World} {B C : Nat} {v : Value} {l : List α} {w0 : World} (h : OwnL e sz f w B v l) (hb : Below C w0 w) (hg : w.grownBy w' v.ownBlock) (hC : C ≤ B) (hw : C ≤ w.heap.size) : Below C w0 w' := below_app hb h hg hC hw
theorem OwnL.belowA {w w' : World} {B C : Nat} {v : Value} {l : List α} {w0 : World} (h : OwnL e sz f w B v l) (hb : Below C w0 w) (o : Obj) (hg : (w.alloc o).grownBy w' v.ownBlock) (hC : C ≤ B) (hw : C ≤ w.heap.size) : Below C w0 w' :=
  below_app (hb.alloc hw o) (own_keep h ((Below.refl _ _).alloc (Nat.le_refl _) _)) hg hC (by simp; omega)
theorem OwnL.there {w : World} {B : Nat} {v : Value} {l : List α} (hf : ∀ x, (f x).length = sz) (hpos : 0 < sz) (h : OwnL e sz f w B v l) (hn : l ≠ []) : ∃ g cap, v = .slice (some ⟨g, 0, none⟩) l.length cap ∧ B ≤ g ∧ g < w.heap.size := by
  refine own_some h (fun e => hn ?_)
  have := congrArg List.length e
  rw [recs_len hf] at this
  have h2 : l.length = 0 := by
    rcases Nat.eq_zero_or_pos l.length with h0 | h0
    · exact h0
    · have h3 := Nat.mul_pos h0 hpos; rw [this] at h3; exact absurd h3 (by simp)
  exact List.eq_nil_of_length_eq_zero h2
theorem OwnL.lt {w : World} {B g n cap : Nat} {l : List α} (h : OwnL e sz f w B (.slice (some ⟨g, 0, none⟩) n cap) l) : B ≤ g ∧ g < w.heap.size := World.ownsRow.lt h g rfl
theorem OwnL.cells {w : World} {B g n cap : Nat} {l : List α} (hf : ∀ x, (f x).length = sz) (hpos : 0 < sz) (h : OwnL e sz f w B (.slice (some ⟨g, 0, none⟩) n cap) l) (j : Nat) (hj : j < l.length) (r : Nat) (hr : r < sz) :
    w.cell? ⟨g, j * sz + r, none⟩ = (f l[j])[r]? := by
  obtain ⟨a, c, e1, hs⟩ := h.read
  simp only [Value.slice.injEq] at e1
  obtain ⟨rfl, _⟩ := e1
  obtain ⟨b, off, e2, hc⟩ := Sl.rec_at hf hpos hs j hj
  simp only [Option.some.injEq, Addr.mk.injEq] at e2
  obtain ⟨rfl, rfl, _⟩ := e2
  have := hc r hr
  rwa [Nat.zero_add] at this
theorem OwnL.len {w : World} {B g n cap : Nat} {l : List α} (h : OwnL e sz f w B (.slice (some ⟨g, 0, none⟩) n cap) l) : n = l.length := by
  obtain ⟨a, c, e1, _⟩ := h.read
  simp only [Value.slice.injEq] at e1
  exact e1.2.1
theorem OwnL.free {w : World} {B g n cap : Nat} {l : List α} (h : OwnL e sz f w B (.slice (some ⟨g, 0, none⟩) n cap) l) (i : Nat) : w.frozen? ⟨g, i, none⟩ = false := by
  obtain rfl := h.len
  exact World.ownsRow.frozenAt h i

theorem flat_set (hf : ∀ x, (f x).length = sz) : ∀ (l : List α) (j r : Nat) (hj : j < l.length) (x : α) (u : Value), r < sz → f x = (f l[j]).set r u → ((l.set j x).map f).flatten = (l.map f).flatten.set (j * sz + r) u
  | [], j, _, hj, _, _, _, _ => by simp at hj
  | y :: l, 0, r, _, x, u, hr, h => by
    simp only [List.getElem_cons_zero] at h
    simp only [List.set_cons_zero, List.map_cons, List.flatten_cons, Nat.zero_mul, Nat.zero_add, h]
    rw [List.set_append_left _ _ (by rw [hf]; exact hr)]
  | y :: l, j + 1, r, hj, x, u, hr, h => by
    simp only [List.getElem_cons_succ] at h
    simp only [List.set_cons_succ, List.map_cons, List.flatten_cons]
    rw [flat_set hf l j r (by simpa using hj) x u hr h, List.set_append_right _ _ (by rw [hf, Nat.add_mul]; omega), hf, show (j + 1) * sz + r - sz = j * sz + r by rw [Nat.add_mul]; omega]
/-- One cell of a record is written. -/
theorem OwnL.store {w : World} {B g n cap : Nat} {l : List α} (hf : ∀ x, (f x).length = sz) (h : OwnL e sz f w B (.slice (some ⟨g, 0, none⟩) n cap) l) (j r : Nat) (hj : j < l.length) (hr : r < sz) (x : α) (u : Value) (hx : f x = (f l[j]).set r u) :
    OwnL e sz f (w.setCell ⟨g, j * sz + r, none⟩ u) B (.slice (some ⟨g, 0, none⟩) n cap) (l.set j x) := by
  obtain rfl := h.len
  have := (World.ownsRow.stored h (j * sz + r) u).1
  unfold OwnL
  rw [List.length_set, flat_set hf l j r hj x u hr hx]
  exact this

theorem oneCells {l : List α} (h1 : ∀ x, ∀ u ∈ f x, u.oneCell' = true) : ∀ u ∈ (l.map f).flatten, u.oneCell' = true := by
  intro u hu
  obtain ⟨c, hc, hu⟩ := List.mem_flatten.1 hu
  obtain ⟨x, _, rfl⟩ := List.mem_map.1 hc
  exact h1 x u hu
/-- 'append(x, y...)' of records. -/
theorem app_recs (hE : El P t e z sz bytes) (h1 : ∀ x, ∀ u ∈ f x, u.oneCell' = true) {w : World} {ops : Array Oper} {rest : List Oper} {o : Oper} {a : Act} {Q : Exit → Act → World → Prop} (hgd : o.guard = none) (s x : Operand)
    (ho : o.op = .call { callee := .builtin .append, args := #[s, x], argTypes := #[t, t] })
    {B : Nat} {v : Value} {xs : List α} (hs : a.eval s = v) (hown : OwnL e sz f w B v xs)
    {ad : Option Addr} {m c : Nat} {ys : List α} (hm : m = ys.length) (hx : a.eval x = .slice ad m c) (hsl : Sl w ad m c sz (ys.map f).flatten)
    (hB : bytes ≤ 1000) (h63 : xs.length + m ≤ 2000000) (hbase : B ≤ w.heap.size)
    (h : ∀ v' w', OwnL e sz f w' B v' (xs ++ ys) → w.grownBy w' v.ownBlock → (v'.ownBlock = v.ownBlock ∨ v'.ownBlock = some w.heap.size) → wpList P ops Q rest (a.put o.dst v') w') : wpList P ops Q (o :: rest) a w := by
  subst hm
  have := Nat.mul_le_mul h63 hB
  refine app_sl_at hE hgd s x ho hs hown hx hsl (oneCells h1) (by omega) (by omega) hbase ?_
  intro v' w' h2 h3 h4
  refine h v' w' ?_ h3 h4
  unfold OwnL
  rw [List.length_append, recs_append]
  exact h2
/-- 'append(x, y)' of one record. -/
theorem app_rec (hE : El P t e z sz bytes) (hf : ∀ x, (f x).length = sz) (h1 : ∀ x, ∀ u ∈ f x, u.oneCell' = true) (y : α) {w : World} {ops : Array Oper} {rest : List Oper} {o : Oper} {a : Act} {Q : Exit → Act → World → Prop} {cs : Array Value} {e' : TypeId} (hgd : o.guard = none) (s x : Operand)
    (ho : o.op = .call { callee := .builtin .append, args := #[s, x], argTypes := #[t, t] })
    {B g : Nat} {v : Value} {xs : List α} (hs : a.eval s = v) (hown : OwnL e sz f w B v xs)
    (hx : a.eval x = .slice (some ⟨g, 0, none⟩) 1 1) (hg : g = w.heap.size) (hcs : cs.toList = f y)
    (hB : bytes ≤ 1000) (h63 : xs.length ≤ 1000000) (hbase : B ≤ w.heap.size)
    (h : ∀ v' w', OwnL e sz f w' B v' (xs ++ [y]) → (w.alloc (.cells cs e')).grownBy w' v.ownBlock → (v'.ownBlock = v.ownBlock ∨ v'.ownBlock = some (w.heap.size + 1)) → wpList P ops Q rest (a.put o.dst v') w') : wpList P ops Q (o :: rest) a (w.alloc (.cells cs e')) := by
  subst hg
  refine app_recs hE h1 hgd s x ho hs (own_keep hown ((Below.refl _ _).alloc (Nat.le_refl _) _)) (ys := [y]) rfl hx (Sl.of_heap (heap_new w _) (by simp [hf]) ?_ (Nat.le_refl _) (by decide)) hB (by simp; omega) (by simp; omega) ?_
  · rw [hcs, List.take_of_length_le (by rw [hf]; simp)]; simp
  · intro v' w' h2 h3 h4
    exact h v' w' h2 h3 (by simpa using h4)
theorem OwnL.empty (w : World) (B : Nat) (hb : B ≤ w.heap.size) : OwnL e sz f (w.alloc (.cells #[] e)) B (.slice (some ⟨w.heap.size, 0, none⟩) 0 0) [] :=
  World.ownsRow_lit (base := B) (size := sz) (e := e) w #[] 0 hb (by simp) (by simp)
theorem OwnL.emptyAt (w : World) (B g : Nat) (hg : g = w.heap.size) (hb : B ≤ w.heap.size) : OwnL e sz f (w.alloc (.cells #[] e)) B (.slice (some ⟨g, 0, none⟩) 0 0) [] := by
  subst hg
  exact OwnL.empty w B hb
end
end Go.Proofs.Ytakobldhjndeiaa
