/-
  The same at bytes.
-/
import Derived.Test.YtakobldhjndeiaaRows
import Derived.Test.YtakobldhjndeiaaApp
namespace Go.Proofs.Ytakobldhjndeiaa
open Go.RowKit

/-- One byte more. -/
theorem oneCell_u8 (bs : List UInt8) : ∀ u ∈ bs.map u8, u.oneCell' = true := by
  intro u hu
  obtain ⟨c, _, rfl⟩ := List.mem_map.1 hu
  rfl

theorem Try.elU8 : El Try.prog 22 5 (.int .u8 0) 1 1 := ⟨Try.underlying22, by kernel_rfl, rfl, by decide⟩

/-- Bytes that the call owns. -/
def OwnB (w : World) (B : Nat) (v : Value) (bs : List UInt8) : Prop := w.ownsRow B 5 1 v bs.length (bs.map u8)

theorem OwnB.nil (w : World) (B : Nat) : OwnB w B (.slice none 0 0) [] := World.ownsRow_nil w B _ _

theorem OwnB.lit (w : World) (cs : Array Value) (bs : List UInt8) (B : Nat) (hb : B ≤ w.heap.size) (hcs : cs.toList = bs.map u8) (hm : bs.length ≤ maxLen) :
    OwnB (w.alloc (.cells cs 5)) B (.slice (some ⟨w.heap.size, 0, none⟩) bs.length bs.length) bs := by
  have h := World.ownsRow_lit (base := B) (size := 1) (e := 5) w cs bs.length hb hm (by rw [← Array.length_toList, hcs]; simp)
  rw [hcs] at h
  exact h

theorem OwnB.empty (w : World) (B : Nat) (hb : B ≤ w.heap.size) : OwnB (w.alloc (.cells #[] 5)) B (.slice (some ⟨w.heap.size, 0, none⟩) 0 0) [] := OwnB.lit w #[] [] B hb rfl (by simp)

theorem OwnB.litAt (w : World) (cs : Array Value) (bs : List UInt8) (B g n : Nat) (hg : g = w.heap.size) (hn : n = bs.length) (hb : B ≤ w.heap.size) (hcs : cs.toList = bs.map u8) (hm : bs.length ≤ maxLen) :
    OwnB (w.alloc (.cells cs 5)) B (.slice (some ⟨g, 0, none⟩) n n) bs := by
  subst hg hn
  exact OwnB.lit w cs bs B hb hcs hm
theorem OwnB.emptyAt (w : World) (B g : Nat) (hg : g = w.heap.size) (hb : B ≤ w.heap.size) : OwnB (w.alloc (.cells #[] 5)) B (.slice (some ⟨g, 0, none⟩) 0 0) [] := by
  subst hg
  exact OwnB.empty w B hb

theorem OwnB.bytes {w : World} {B : Nat} {v : Value} {bs : List UInt8} (h : OwnB w B v bs) : ∃ a cap, v = .slice a bs.length cap ∧ Bytes w a bs.length cap bs := Sl.of_own h

/-- 'append(x, y...)' of bytes. -/
theorem app_bytes {w : World} {ops : Array Oper} {rest : List Oper} {o : Oper} {a : Act} {Q : Exit → Act → World → Prop} (hgd : o.guard = none) (s x : Operand)
    (ho : o.op = .call { callee := .builtin .append, args := #[s, x], argTypes := #[22, 22] })
    {B : Nat} {v : Value} {xs : List UInt8} (hs : a.eval s = v) (hown : OwnB w B v xs)
    {ad : Option Addr} {m c : Nat} {ys : List UInt8} (hx : a.eval x = .slice ad m c) (hsl : Bytes w ad m c ys)
    (h63 : xs.length + m ≤ 140737488355328) (hbase : B ≤ w.heap.size)
    (h : ∀ v' w', OwnB w' B v' (xs ++ ys) → w.grownBy w' v.ownBlock → wpList Try.prog ops Q rest (a.put o.dst v') w') : wpList Try.prog ops Q (o :: rest) a w := by
  have hm := hsl.len
  subst hm
  refine app_sl Try.elU8 hgd s x ho hs hown hx hsl (oneCell_u8 ys) h63 (by omega) hbase ?_
  intro v' w' h2 h3
  refine h v' w' ?_ h3
  unfold OwnB
  rw [List.map_append, List.length_append]
  exact h2

/-- One cell of the call's own bytes. -/
theorem OwnB.at {w : World} {B g n cap : Nat} {bs : List UInt8} (h : OwnB w B (.slice (some ⟨g, 0, none⟩) n cap) bs) (i : Nat) (hi : i < bs.length) : w.cell? ⟨g, i, none⟩ = some (.int .u8 (bs[i].toNat : Int)) := by
  have hn : n = bs.length := by
    obtain ⟨_, _, e, _⟩ := h.bytes
    simp only [Value.slice.injEq] at e
    exact e.2.1
  subst hn
  have := World.ownsRow.cellAt h i (by omega)
  rw [this]
  simp [hi]
theorem OwnB.free {w : World} {B g n cap : Nat} {bs : List UInt8} (h : OwnB w B (.slice (some ⟨g, 0, none⟩) n cap) bs) (i : Nat) : w.frozen? ⟨g, i, none⟩ = false := by
  have hn : n = bs.length := by
    obtain ⟨_, _, e, _⟩ := h.bytes
    simp only [Value.slice.injEq] at e
    exact e.2.1
  subst hn
  exact World.ownsRow.frozenAt h i
theorem OwnB.store {w : World} {B g n cap : Nat} {bs : List UInt8} (h : OwnB w B (.slice (some ⟨g, 0, none⟩) n cap) bs) (i : Nat) (c : UInt8) : OwnB (w.setCell ⟨g, i, none⟩ (.int .u8 (c.toNat : Int))) B (.slice (some ⟨g, 0, none⟩) n cap) (bs.set i c) := by
  have hn : n = bs.length := by
    obtain ⟨_, _, e, _⟩ := h.bytes
    simp only [Value.slice.injEq] at e
    exact e.2.1
  subst hn
  have := (World.ownsRow.stored h i (.int .u8 (c.toNat : Int))).1
  unfold OwnB
  rw [List.length_set, List.map_set]
  exact this
theorem OwnB.lt {w : World} {B g n cap : Nat} {bs : List UInt8} (h : OwnB w B (.slice (some ⟨g, 0, none⟩) n cap) bs) : B ≤ g ∧ g < w.heap.size := World.ownsRow.lt h g rfl
theorem OwnB.some {w : World} {B : Nat} {v : Value} {bs : List UInt8} (h : OwnB w B v bs) (hn : bs ≠ []) : ∃ g cap, v = .slice (some ⟨g, 0, none⟩) bs.length cap ∧ B ≤ g ∧ g < w.heap.size := own_some h (by simpa using hn)
theorem OwnB.keep {w w' : World} {B : Nat} {v : Value} {bs : List UInt8} (h : OwnB w B v bs) (hb : Below w.heap.size w w') : OwnB w' B v bs := own_keep h hb
theorem OwnB.below {w w' : World} {B C : Nat} {v : Value} {bs : List UInt8} {w0 : World} (h : OwnB w B v bs) (hb : Below C w0 w) (hg : w.grownBy w' v.ownBlock) (hC : C ≤ B) (hw : C ≤ w.heap.size) : Below C w0 w' := below_app hb h hg hC hw
end Go.Proofs.Ytakobldhjndeiaa
