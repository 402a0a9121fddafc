/-
  Slices of whole numbers: read, and owned by a call (they grow).
-/
import Derived.Test.YtakobldhjndeiaaRows
import Derived.Test.YtakobldhjndeiaaApp
namespace Go.Proofs.Ytakobldhjndeiaa
open Go.RowKit

abbrev i64 (z : Int) : Value := .int .i64 z
/-- A slice of whole numbers that can be read. -/
def Ints (w : World) (a : Option Addr) (n cap : Nat) (zs : List Int) : Prop := Sl w a n cap 1 (zs.map i64)
theorem Ints.len {w : World} {a : Option Addr} {n cap : Nat} {zs : List Int} (h : Ints w a n cap zs) : zs.length = n := by have := Sl.len h; simpa using this
theorem Ints.keep {w w' : World} {a : Option Addr} {n cap : Nat} {zs : List Int} (h : Ints w a n cap zs) (hb : Below w.heap.size w w') : Ints w' a n cap zs := Sl.keep h hb
theorem Ints.at {w : World} {a : Option Addr} {n cap : Nat} {zs : List Int} (h : Ints w a n cap zs) (i : Nat) (hi : i < zs.length) : ∃ b off, a = some ⟨b, off, none⟩ ∧ w.cell? ⟨b, off + i, none⟩ = some (.int .i64 zs[i]) := by
  obtain ⟨b, off, h1, h2⟩ := Sl.at h i (by simpa using hi)
  exact ⟨b, off, h1, by simpa using h2⟩
theorem Ints.cell {w : World} {b off : Nat} {n cap : Nat} {zs : List Int} (h : Ints w (some ⟨b, off, none⟩) n cap zs) (i : Nat) (hi : i < zs.length) : w.cell? ⟨b, off + i, none⟩ = some (.int .i64 zs[i]) := by
  have := Sl.cell h i (by simpa using hi)
  simpa using this

theorem Ints.get {w : World} {a : Option Addr} {n cap : Nat} {zs : List Int} (h : Ints w a n cap zs) (i : Nat) (hi : i < zs.length) : ∃ b off x, a = some ⟨b, off, none⟩ ∧ Hid (x = zs.getD i 0) ∧ w.cell? ⟨b, off + i, none⟩ = some (.int .i64 x) := by
  obtain ⟨b, off, h1, h2⟩ := h.at i hi
  exact ⟨b, off, _, h1, by show zs[i] = _; simp [List.getD, hi], h2⟩
theorem Ints.more {w : World} {b off : Nat} {n cap : Nat} {zs : List Int} (h : Ints w (some ⟨b, off, none⟩) n cap zs) (i : Nat) (hi : i < zs.length) : ∃ x, Hid (x = zs.getD i 0) ∧ w.cell? ⟨b, off + i, none⟩ = some (.int .i64 x) :=
  ⟨_, by show zs[i] = _; simp [List.getD, hi], h.cell i hi⟩

theorem oneCell_i64 (zs : List Int) : ∀ u ∈ zs.map i64, u.oneCell' = true := by
  intro u hu
  obtain ⟨c, _, rfl⟩ := List.mem_map.1 hu
  rfl
theorem Try.elI64 : El Try.prog 31 3 (.int .i64 0) 1 8 := ⟨Try.underlying31, by kernel_rfl, rfl, by decide⟩

/-- Whole numbers that the call owns. -/
def OwnI (w : World) (B : Nat) (v : Value) (zs : List Int) : Prop := w.ownsRow B 3 1 v zs.length (zs.map i64)
theorem OwnI.nil (w : World) (B : Nat) : OwnI w B (.slice none 0 0) [] := World.ownsRow_nil w B _ _
theorem OwnI.ints {w : World} {B : Nat} {v : Value} {zs : List Int} (h : OwnI w B v zs) : ∃ a cap, v = .slice a zs.length cap ∧ Ints w a zs.length cap zs := Sl.of_own h
theorem OwnI.keep {w w' : World} {B : Nat} {v : Value} {zs : List Int} (h : OwnI w B v zs) (hb : Below w.heap.size w w') : OwnI w' B v zs := own_keep h hb
theorem OwnI.below {w w' : World} {B C : Nat} {v : Value} {zs : List Int} {w0 : World} (h : OwnI w B v zs) (hb : Below C w0 w) (hg : w.grownBy w' v.ownBlock) (hC : C ≤ B) (hw : C ≤ w.heap.size) : Below C w0 w' := below_app hb h hg hC hw

/-- 'append(x, y...)' of whole numbers. -/
theorem app_ints {w : World} {ops : Array Oper} {rest : List Oper} {o : Oper} {a : Act} {Q : Exit → Act → World → Prop} (hgd : o.guard = none) (s x : Operand)
    (ho : o.op = .call { callee := .builtin .append, args := #[s, x], argTypes := #[31, 31] })
    {B : Nat} {v : Value} {xs : List Int} (hs : a.eval s = v) (hown : OwnI w B v xs)
    {ad : Option Addr} {m c : Nat} {ys : List Int} (hx : a.eval x = .slice ad m c) (hsl : Ints w ad m c ys)
    (h63 : xs.length + m ≤ 140737488355328 / 8) (hbase : B ≤ w.heap.size)
    (h : ∀ v' w', OwnI w' B v' (xs ++ ys) → w.grownBy w' v.ownBlock → wpList Try.prog ops Q rest (a.put o.dst v') w') : wpList Try.prog ops Q (o :: rest) a w := by
  have hm := hsl.len
  subst hm
  refine app_sl Try.elI64 hgd s x ho hs hown hx hsl (oneCell_i64 ys) (by omega) (by omega) hbase ?_
  intro v' w' h2 h3
  refine h v' w' ?_ h3
  unfold OwnI
  rw [List.map_append, List.length_append]
  exact h2

/-- 'append(x, z)' of one whole number. -/
theorem app_int {w : World} {ops : Array Oper} {rest : List Oper} {o : Oper} {a : Act} {Q : Exit → Act → World → Prop} (hgd : o.guard = none) (s x : Operand)
    (ho : o.op = .call { callee := .builtin .append, args := #[s, x], argTypes := #[31, 31] })
    {B g : Nat} {v : Value} {l : List Int} {z : Int} {e : TypeId} (hs : a.eval s = v) (hown : OwnI w B v l) (hx : a.eval x = .slice (some ⟨g, 0, none⟩) 1 1) (hg : g = w.heap.size)
    (hb : B ≤ w.heap.size) (hl : l.length ≤ 1000000)
    (h : ∀ v' w', OwnI w' B v' (l ++ [z]) → (w.alloc (.cells #[.int .i64 z] e)).grownBy w' v.ownBlock → wpList Try.prog ops Q rest (a.put o.dst v') w') :
    wpList Try.prog ops Q (o :: rest) a (w.alloc (.cells #[.int .i64 z] e)) := by
  subst hg
  refine app_ints hgd s x ho hs (own_keep hown ((Below.refl _ _).alloc (Nat.le_refl _) _)) (ys := [z]) hx (Sl.of_heap (heap_new w _) rfl rfl (Nat.le_refl _) (by decide)) (by omega) (by simp; omega) h
theorem OwnI.belowA {w w' : World} {B C : Nat} {v : Value} {l : List Int} {w0 : World} (h : OwnI w B v l) (hb : Below C w0 w) (o : Obj) (hg : (w.alloc o).grownBy w' v.ownBlock) (hC : C ≤ B) (hw : C ≤ w.heap.size) : Below C w0 w' :=
  below_app (hb.alloc hw o) (own_keep h ((Below.refl _ _).alloc (Nat.le_refl _) _)) hg hC (by simp; omega)
end Go.Proofs.Ytakobldhjndeiaa
