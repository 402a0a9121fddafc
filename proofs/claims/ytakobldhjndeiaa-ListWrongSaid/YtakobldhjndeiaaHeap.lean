/-
  Memory, block by block: what a new block, a store, a draw do to it; slices of bytes that can be read.
-/
import Derived.WalkKit
import Derived.WalkSpells
import Derived.Deep.Quiet
namespace Go.Proofs.Ytakobldhjndeiaa
open Go.RowKit

theorem heap_new (w : World) (o : Obj) : (w.alloc o).heap[w.heap.size]? = some o := by
  show (w.heap.push o)[w.heap.size]? = _
  simp
theorem heap_old (w : World) (o : Obj) {k : Nat} (h : k < w.heap.size) : (w.alloc o).heap[k]? = w.heap[k]? := Below.heap_alloc w o k h
theorem heap_lt {w : World} {b : Nat} {o : Obj} (h : w.heap[b]? = some o) : b < w.heap.size := by
  rcases Nat.lt_or_ge b w.heap.size with h1 | h1
  · exact h1
  · rw [Array.getElem?_eq_none h1] at h; simp at h
theorem heap_keep {w : World} {b : Nat} {o : Obj} (h : w.heap[b]? = some o) (o' : Obj) : (w.alloc o').heap[b]? = some o := by rw [heap_old _ _ (heap_lt h)]; exact h
theorem heap_set {w : World} {a : Addr} {c : Array Value} {e : TypeId} {f : Nat × Nat} (h : w.heap[a.block]? = some (.cells c e f)) (hs : a.spot = none) (v : Value) :
    (w.setCell a v).heap[a.block]? = some (.cells (c.setIfInBounds a.off v) e f) := by
  simp [World.setCell, Array.getElem?_modify, h, hs]
theorem heap_set_ne (w : World) {a : Addr} {b : Nat} (h : b ≠ a.block) (v : Value) : (w.setCell a v).heap[b]? = w.heap[b]? := Below.heap_setCell w a v b h
theorem cell_at {w : World} {b : Nat} {c : Array Value} {e : TypeId} {f : Nat × Nat} (h : w.heap[b]? = some (.cells c e f)) (o : Nat) : w.cell? ⟨b, o, none⟩ = c[o]? := by
  simp [World.cell?, h]
theorem free_at {w : World} {b : Nat} {c : Array Value} {e : TypeId} (h : w.heap[b]? = some (.cells c e (0, 0))) (o : Nat) : w.frozen? ⟨b, o, none⟩ = false := by
  simp [World.frozen?, h]

/-- A slice that can be read: n elements of 'size' cells each, the cells xs in a row. -/
structure Sl (w : World) (a : Option Addr) (n cap size : Nat) (xs : List Value) : Prop where
  len : xs.length = n * size
  le : n ≤ cap
  max : cap ≤ maxLen
  nil : a = none → cap = 0
  row : xs ≠ [] → ∃ b off, a = some ⟨b, off, none⟩ ∧ b < w.heap.size ∧ ∀ i (h : i < xs.length), w.cell? ⟨b, off + i, none⟩ = some xs[i]

theorem Sl.keep {w w' : World} {a : Option Addr} {n cap size : Nat} {xs : List Value} (h : Sl w a n cap size xs) (hb : Below w.heap.size w w') : Sl w' a n cap size xs :=
  ⟨h.len, h.le, h.max, h.nil, fun hx => by
    obtain ⟨b, off, h1, h2, h3⟩ := h.row hx
    exact ⟨b, off, h1, Nat.lt_of_lt_of_le h2 hb.size, fun i hi => by rw [hb.cell (p := ⟨b, off + i, none⟩) h2]; exact h3 i hi⟩⟩
theorem below_draws (B : Nat) (w : World) (n : Nat) : Below B w (w.drewN n) := ⟨rfl, rfl, rfl, Nat.le_refl _, fun _ _ => rfl⟩
theorem Sl.drew {w : World} {a : Option Addr} {n cap size : Nat} {xs : List Value} (h : Sl w a n cap size xs) : Sl w.drew a n cap size xs := h.keep (Below.refl _ _).drew
theorem Sl.drewN {w : World} {a : Option Addr} {n cap size : Nat} {xs : List Value} (h : Sl w a n cap size xs) (k : Nat) : Sl (w.drewN k) a n cap size xs := h.keep (below_draws _ _ _)
theorem Sl.nil_any (w : World) (size : Nat) : Sl w none 0 0 size [] := ⟨by simp, Nat.le_refl _, by simp, fun _ => rfl, fun h => absurd rfl h⟩
theorem Sl.big {w : World} {a : Option Addr} {n cap size : Nat} {xs : List Value} (h : Sl w a n cap size xs) : cap ≤ 9223372036854775807 := by have := h.max; unfold maxLen at this; omega
/-- Where a slice has cells its address is known. -/
theorem Sl.at {w : World} {a : Option Addr} {n cap size : Nat} {xs : List Value} (h : Sl w a n cap size xs) (i : Nat) (hi : i < xs.length) : ∃ b off, a = some ⟨b, off, none⟩ ∧ w.cell? ⟨b, off + i, none⟩ = some xs[i] := by
  obtain ⟨b, off, h1, h2, h3⟩ := h.row (by intro e; subst e; simp at hi)
  exact ⟨b, off, h1, h3 i hi⟩
theorem Sl.cell {w : World} {b off : Nat} {n cap size : Nat} {xs : List Value} (h : Sl w (some ⟨b, off, none⟩) n cap size xs) (i : Nat) (hi : i < xs.length) : w.cell? ⟨b, off + i, none⟩ = some xs[i] := by
  obtain ⟨b', off', h1, h3⟩ := h.at i hi
  simp only [Option.some.injEq, Addr.mk.injEq] at h1
  obtain ⟨rfl, rfl, _⟩ := h1
  exact h3
/-- The first elements. -/
theorem Sl.front {w : World} {a : Option Addr} {n cap size : Nat} {xs : List Value} (h : Sl w a n cap size xs) (k : Nat) (hk : k ≤ n) : Sl w a k cap size (xs.take (k * size)) := by
  have hl : k * size ≤ xs.length := by rw [h.len]; exact Nat.mul_le_mul_right _ hk
  refine ⟨by simp [Nat.min_eq_left hl], Nat.le_trans hk h.le, h.max, h.nil, fun hx => ?_⟩
  obtain ⟨b, off, h1, h2, h3⟩ := h.row (by intro e; subst e; simp at hx)
  exact ⟨b, off, h1, h2, fun i hi => by rw [h3 i (by simp at hi; omega)]; simp⟩

theorem add_addr (b off j : Nat) : (⟨b, off, none⟩ : Addr).add j = ⟨b, off + j, none⟩ := by
  unfold Addr.add
  split
  · rename_i h; subst h; rfl
  · rfl
/-- The last elements. -/
theorem Sl.back {w : World} {b off : Nat} {n cap size : Nat} {xs : List Value} (h : Sl w (some ⟨b, off, none⟩) n cap size xs) (k : Nat) (hk : k ≤ n) : Sl w (some ⟨b, off + k * size, none⟩) (n - k) (cap - k) size (xs.drop (k * size)) := by
  have hl := h.len
  refine ⟨by rw [List.length_drop, hl, Nat.sub_mul], by have := h.le; omega, by have := h.max; omega, fun e => by simp at e, fun hx => ?_⟩
  have hne : xs ≠ [] := by intro e; subst e; simp at hx
  obtain ⟨b', off', h1, h2, h3⟩ := h.row hne
  simp only [Option.some.injEq, Addr.mk.injEq] at h1
  obtain ⟨rfl, rfl, _⟩ := h1
  exact ⟨b, _, rfl, h2, fun i hi => by
    rw [Nat.add_assoc, h3 (k * size + i) (by simp at hi; omega)]
    simp⟩

/-- A byte in memory. -/
abbrev u8 (c : UInt8) : Value := .int .u8 (c.toNat : Int)
/-- A slice of bytes that can be read. -/
def Bytes (w : World) (a : Option Addr) (n cap : Nat) (bs : List UInt8) : Prop := Sl w a n cap 1 (bs.map u8)
theorem Bytes.len {w : World} {a : Option Addr} {n cap : Nat} {bs : List UInt8} (h : Bytes w a n cap bs) : bs.length = n := by have := Sl.len h; simpa using this
theorem Bytes.keep {w w' : World} {a : Option Addr} {n cap : Nat} {bs : List UInt8} (h : Bytes w a n cap bs) (hb : Below w.heap.size w w') : Bytes w' a n cap bs := Sl.keep h hb
theorem Bytes.drew {w : World} {a : Option Addr} {n cap : Nat} {bs : List UInt8} (h : Bytes w a n cap bs) : Bytes w.drew a n cap bs := Sl.drew h
theorem Bytes.drewN {w : World} {a : Option Addr} {n cap : Nat} {bs : List UInt8} (h : Bytes w a n cap bs) (k : Nat) : Bytes (w.drewN k) a n cap bs := Sl.drewN h k
theorem Bytes.at {w : World} {a : Option Addr} {n cap : Nat} {bs : List UInt8} (h : Bytes w a n cap bs) (i : Nat) (hi : i < bs.length) : ∃ b off, a = some ⟨b, off, none⟩ ∧ w.cell? ⟨b, off + i, none⟩ = some (.int .u8 (bs[i].toNat : Int)) := by
  obtain ⟨b, off, h1, h2⟩ := Sl.at h i (by simpa using hi)
  exact ⟨b, off, h1, by simpa using h2⟩
theorem Bytes.cell {w : World} {b off : Nat} {n cap : Nat} {bs : List UInt8} (h : Bytes w (some ⟨b, off, none⟩) n cap bs) (i : Nat) (hi : i < bs.length) : w.cell? ⟨b, off + i, none⟩ = some (.int .u8 (bs[i].toNat : Int)) := by
  have := Sl.cell h i (by simpa using hi)
  simpa using this
theorem Bytes.front {w : World} {a : Option Addr} {n cap : Nat} {bs : List UInt8} (h : Bytes w a n cap bs) (k : Nat) (hk : k ≤ n) : Bytes w a k cap (bs.take k) := by
  have := Sl.front h k hk
  rw [Nat.mul_one, ← List.map_take] at this
  exact this

theorem Bytes.back {w : World} {b off : Nat} {n cap : Nat} {bs : List UInt8} (h : Bytes w (some ⟨b, off, none⟩) n cap bs) (k : Nat) (hk : k ≤ n) : Bytes w (some ⟨b, off + k, none⟩) (n - k) (cap - k) (bs.drop k) := by
  have := Sl.back h k hk
  rw [Nat.mul_one, ← List.map_drop] at this
  exact this

/-- A row of bytes, as memory holds it. -/
def bytesArr (l : List UInt8) : Array Value := (l.map u8).toArray
theorem bytesArr_size (l : List UInt8) : (bytesArr l).size = l.length := by simp [bytesArr]
theorem bytesArr_get (l : List UInt8) (i : Nat) (h : i < l.length) : (bytesArr l)[i]? = some (.int .u8 (l[i].toNat : Int)) := by simp [bytesArr, h]
theorem bytesArr_set (l : List UInt8) (i : Nat) (c : UInt8) : (bytesArr l).setIfInBounds i (.int .u8 (c.toNat : Int)) = bytesArr (l.set i c) := by
  simp [bytesArr, List.map_set]
theorem bytes_cell {w : World} {g : Nat} {l : List UInt8} {e : TypeId} {f : Nat × Nat} (h : w.heap[g]? = some (.cells (bytesArr l) e f)) (i : Nat) (hi : i < l.length) :
    w.cell? ⟨g, i, none⟩ = some (.int .u8 (l[i].toNat : Int)) := by rw [cell_at h, bytesArr_get l i hi]

/-- A slice over the head of a block. -/
theorem Sl.of_heap {w : World} {g : Nat} {c : Array Value} {e : TypeId} {f : Nat × Nat} (h : w.heap[g]? = some (.cells c e f)) {n cap size : Nat} {xs : List Value} (hx : xs.length = n * size) (hc : c.toList.take (n * size) = xs) (hn : n ≤ cap) (hm : cap ≤ maxLen) :
    Sl w (some ⟨g, 0, none⟩) n cap size xs := by
  refine ⟨hx, hn, hm, fun e => by simp at e, fun _ => ⟨g, 0, rfl, heap_lt h, fun i hi => ?_⟩⟩
  rw [cell_at h, Nat.zero_add]
  subst hc
  simp
theorem Bytes.of_heap {w : World} {g : Nat} {l : List UInt8} {e : TypeId} {f : Nat × Nat} (h : w.heap[g]? = some (.cells (bytesArr l) e f)) {n cap : Nat} (hn : n = l.length) (hc : l.length ≤ cap) (hm : cap ≤ maxLen) :
    Bytes w (some ⟨g, 0, none⟩) n cap l := by
  subst hn
  exact Sl.of_heap h (by simp) (by rw [Nat.mul_one, List.take_of_length_le (by simp [bytesArr])]; simp [bytesArr]) hc hm
theorem Bytes.new (w : World) (cs : Array Value) (T : Nat) (fz : Nat × Nat) (bs : List UInt8) (hcs : cs.toList = bs.map u8) (hm : bs.length ≤ maxLen) :
    Bytes (w.alloc (.cells cs T fz)) (some ⟨w.heap.size, 0, none⟩) bs.length bs.length bs :=
  Sl.of_heap (heap_new w _) (by simp) (by rw [hcs, List.take_of_length_le (by simp)]) (Nat.le_refl _) hm

theorem Bytes.newAt (w : World) (cs : Array Value) (T : Nat) (fz : Nat × Nat) (bs : List UInt8) (g n : Nat) (hg : g = w.heap.size) (hn : n = bs.length) (hcs : cs.toList = bs.map u8) (hm : bs.length ≤ maxLen) :
    Bytes (w.alloc (.cells cs T fz)) (some ⟨g, 0, none⟩) n n bs := by
  subst hg hn
  exact Bytes.new w cs T fz bs hcs hm

/-- 'make([]byte, n)'. -/
theorem run_make_bytes {P : Program} (w : World) (t e : TypeId) (i : TypeInfo) (ht : P.underlying t = some (.slice e)) (hi : P.info? e = some i) (hz : i.zero = some (.int .u8 0)) (hs : i.size = 1) (hb : i.bytes = 1)
    (n : Nat) (hn : n ≤ 140737488355328) :
    (Instr.makeSlice t (.int .i64 (n : Int)) (.int .i64 (n : Int))).run P w = .ok (.slice (some ⟨w.heap.size, 0, none⟩) n n) (w.alloc (.cells (bytesArr (List.replicate n 0)) e)) := by
  have h := run_make w t e i _ ht hi hz .i64 .i64 (n : Int) n (by omega) (by omega) (by rw [hb]; omega) (by omega)
  rw [h, hs, Int.toNat_natCast]
  have : madeCells (Value.int .u8 0).cells (n * 1) = bytesArr (List.replicate n 0) := by
    apply Array.toList_inj.1
    rw [Nat.mul_one]
    show (madeCells #[Value.int .u8 0] n).toList = _
    rw [toList_madeCells_one]
    simp [bytesArr]
  rw [this]

end Go.Proofs.Ytakobldhjndeiaa
