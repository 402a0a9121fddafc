/-
  The writer of bytes: what it is in memory, and its calls.
-/
import Derived.Test.YtmholpploaecgaaRows
import Derived.Test.YtmholpploaecgaaFr
import Derived.Test.YtmholpploaecgaaAppB
import Derived.Test.YtmholpploaecgaaNum
import Derived.WalkLawsBesides
namespace Go.Proofs.Ytmholpploaecgaa
open Go.RowKit

/-- 'append(x, y...)' of bytes, with where the new row lies. -/
theorem app_bytes_at {w : World} {ops : Array Oper} {rest : List Oper} {o : Oper} {a : Act} {Q : Exit → Act → World → Prop} (hgd : o.guard = none) (s x : Operand)
    (ho : o.op = .call { callee := .builtin .append, args := #[s, x], argTypes := #[49, 49] })
    {B : Nat} {v : Value} {xs : List UInt8} (hs : a.eval s = v) (hown : OwnB w B v xs)
    {ad : Option Addr} {m c : Nat} {ys : List UInt8} (hx : a.eval x = .slice ad m c) (hsl : Bytes w ad m c ys)
    (h63 : xs.length + m ≤ 140737488355328) (hbase : B ≤ w.heap.size)
    (h : ∀ v' w', OwnB w' B v' (xs ++ ys) → w.grownBy w' v.ownBlock → (v'.ownBlock = v.ownBlock ∨ v'.ownBlock = some w.heap.size) → wpList Try.prog ops Q rest (a.put o.dst v') w') : wpList Try.prog ops Q (o :: rest) a w := by
  have hm := hsl.len
  subst hm
  refine app_sl_at Try.elU8 hgd s x ho hs hown hx hsl (oneCell_u8 ys) h63 (by omega) hbase ?_
  intro v' w' h2 h3 h4
  refine h v' w' ?_ h3 h4
  unfold OwnB
  rw [List.map_append, List.length_append]
  exact h2

theorem OwnB.shape {w : World} {B : Nat} {v : Value} {bs : List UInt8} (h : OwnB w B v bs) : ∃ a n cap, v = .slice a n cap := by
  obtain ⟨a, cap, e, _⟩ := h.bytes
  exact ⟨a, _, cap, e⟩

/-- A writer in block g that holds the bytes bs; S: its blocks. -/
def Wr (w : World) (g : Nat) (S : List Nat) (bs : List UInt8) : Prop := ∃ v T, w.heap[g]? = some (.cells #[v] T (0, 0)) ∧ OwnB w 0 v bs ∧ v.ownBlock ≠ some g ∧ S = g :: v.ownBlock.toList

theorem Wr.fr {S S' : List Nat} {w w' : World} {g : Nat} {bs : List UInt8} (h : Wr w g S bs) (hf : Fr S' w w') (hn : ∀ k ∈ S, k ∉ S') : Wr w' g S bs := by
  obtain ⟨v, T, h1, h2, h3, rfl⟩ := h
  exact ⟨v, T, hf.heap h1 (hn _ (by simp)), own_fr h2 hf (fun g hg => hn g (by simp [hg])), h3, rfl⟩
theorem Wr.lt {S : List Nat} {w : World} {g : Nat} {bs : List UInt8} (h : Wr w g S bs) : ∀ k ∈ S, k < w.heap.size := by
  obtain ⟨v, T, h1, h2, h3, rfl⟩ := h
  intro k hk
  simp only [List.mem_cons, Option.mem_toList] at hk
  rcases hk with rfl | hk
  · exact heap_lt h1
  · exact (World.ownsRow.lt h2 k hk).2

/-- What a write of the writer's does: the row grows, its slice is laid into the writer's cell. -/
theorem Wr.grow {w w1 : World} {g : Nat} {v v1 : Value} {T : TypeId} {bs' : List UInt8} (h1 : w.heap[g]? = some (.cells #[v] T (0, 0))) (h3 : v.ownBlock ≠ some g) (ho : OwnB w1 0 v1 bs') (hg : w.grownBy w1 v.ownBlock) (hl : v1.ownBlock = v.ownBlock ∨ v1.ownBlock = some w.heap.size) :
    ∃ S', Wr (w1.setCell ⟨g, 0, none⟩ v1) g S' bs' ∧ Grows (g :: v.ownBlock.toList) w S' ∧ Fr (g :: v.ownBlock.toList) w (w1.setCell ⟨g, 0, none⟩ v1) := by
  have hh : w1.heap[g]? = some (.cells #[v] T (0, 0)) := by rw [hg.block g (heap_lt h1) (fun e => h3 e.symm)]; exact h1
  have hset := heap_set (a := ⟨g, 0, none⟩) hh rfl v1
  have hv1 : v1.ownBlock ≠ some g := by
    rcases hl with h | h
    · rw [h]; exact h3
    · rw [h]; simp only [ne_eq, Option.some.injEq]; have := heap_lt h1; omega
  refine ⟨g :: v1.ownBlock.toList, ⟨v1, T, hset, ?_, hv1, rfl⟩, ?_, ?_⟩
  · refine own_fr ho (Fr.set (S := [g]) (Fr.refl _ _) _ (.inl (by simp)) _) ?_
    intro k hk
    simp only [List.mem_singleton]
    rintro rfl
    exact hv1 hk
  · intro k hk
    simp only [List.mem_cons, Option.mem_toList] at hk ⊢
    rcases hk with rfl | hk
    · exact .inl (.inl rfl)
    · rcases hl with h | h
      · exact .inl (.inr (by rw [← h]; exact hk))
      · right; rw [h] at hk; simp at hk; omega
  · refine Fr.set (Fr.grown (Fr.refl _ _) hg ?_) _ (.inl (by simp)) _
    intro k hk
    left
    simp [hk]

/-- The same where a block was laid ahead (what is appended). -/
theorem Wr.grow1 {w w1 : World} {g : Nat} {v v1 : Value} {T : TypeId} {bs' : List UInt8} (o : Obj) (h1 : w.heap[g]? = some (.cells #[v] T (0, 0))) (h3 : v.ownBlock ≠ some g) (ho : OwnB w1 0 v1 bs') (hg : (w.alloc o).grownBy w1 v.ownBlock) (hl : v1.ownBlock = v.ownBlock ∨ v1.ownBlock = some (w.alloc o).heap.size) :
    ∃ S', Wr (w1.setCell ⟨g, 0, none⟩ v1) g S' bs' ∧ Grows (g :: v.ownBlock.toList) w S' ∧ Fr (g :: v.ownBlock.toList) w (w1.setCell ⟨g, 0, none⟩ v1) := by
  obtain ⟨S', a1, a2, a3⟩ := Wr.grow (w := w.alloc o) (heap_keep h1 o) h3 ho hg hl
  have hal : Fr (g :: v.ownBlock.toList) w (w.alloc o) := (Fr.refl _ _).alloc o
  exact ⟨S', a1, fun k hk => (a2 k hk).imp id (fun h => Nat.le_trans hal.size h), hal.trans a3 (Grows.refl _ _)⟩

/-- What the store into the writer's cell asks. -/
theorem Wr.there {w w1 : World} {g : Nat} {v : Value} {T : TypeId} (h1 : w.heap[g]? = some (.cells #[v] T (0, 0))) (h3 : v.ownBlock ≠ some g) (hg : w.grownBy w1 v.ownBlock) : w1.cell? ⟨g, 0, none⟩ = some v ∧ w1.frozen? ⟨g, 0, none⟩ = false := by
  have hh : w1.heap[g]? = some (.cells #[v] T (0, 0)) := by rw [hg.block g (heap_lt h1) (fun e => h3 e.symm)]; exact h1
  exact ⟨cell_at hh 0, free_at hh 0⟩

/-- 'append(x, c)' of one byte. -/
theorem app_byte_at {w : World} {ops : Array Oper} {rest : List Oper} {o : Oper} {a : Act} {Q : Exit → Act → World → Prop} (hgd : o.guard = none) (s x : Operand)
    (ho : o.op = .call { callee := .builtin .append, args := #[s, x], argTypes := #[49, 49] })
    {B g : Nat} {v : Value} {l : List UInt8} {c : UInt8} {z : Int} {e : TypeId} (hs : a.eval s = v) (hown : OwnB w B v l) (hx : a.eval x = .slice (some ⟨g, 0, none⟩) 1 1) (hg : g = w.heap.size)
    (hb : B ≤ w.heap.size) (hl : l.length ≤ 1000000) (hz : z = (c.toNat : Int))
    (h : ∀ v' w', OwnB w' B v' (l ++ [c]) → (w.alloc (.cells #[.int .u8 z] e)).grownBy w' v.ownBlock → (v'.ownBlock = v.ownBlock ∨ v'.ownBlock = some (w.alloc (.cells #[.int .u8 z] e)).heap.size) → wpList Try.prog ops Q rest (a.put o.dst v') w') :
    wpList Try.prog ops Q (o :: rest) a (w.alloc (.cells #[.int .u8 z] e)) := by
  subst hg hz
  exact app_bytes_at hgd s x ho hs (own_keep hown ((Below.refl _ _).alloc (Nat.le_refl _) _)) (ys := [c]) hx (Sl.of_heap (heap_new w _) rfl rfl (Nat.le_refl _) (by decide)) (by omega) (by simp; omega) h

theorem byte_calls {w : World} {g : Nat} {S : List Nat} {bs : List UInt8} (h : Wr w g S bs) (b : UInt8) (hl : bs.length ≤ 1000000) :
    Calls Try.prog 34 #[.pointer (some ⟨g, 0, none⟩), .int .u8 (b.toNat : Int)] w fun e w' => e = .returned (.tuple #[]) ∧ ∃ S', Wr w' g S' (bs ++ [b]) ∧ Grows S w S' ∧ Fr S w w' := by
  obtain ⟨v, T, h1, h2, h3, rfl⟩ := h
  have c0 := cell_at h1 0
  have lt := heap_lt h1
  obtain ⟨x, hx⟩ : ∃ x, x = (b.toNat : Int) := ⟨_, rfl⟩
  rw [← hx]
  have HX : Hid _ := hx
  clear hx
  go_enter Try.func34, Try.ntmps34
  go_wp2_with (at_builtin; refine app_byte_at rfl _ _ rfl rfl h2 rfl rfl (Nat.zero_le _) hl HX.out ?_; intro v1 w1 ho1 hg1 hl1; obtain ⟨a1, n1, k1, rfl⟩ := ho1.shape; obtain ⟨c1, f1⟩ := Wr.there (heap_keep h1 _) h3 hg1)
  go_end0
  exact ⟨rfl, Wr.grow1 _ h1 h3 ho1 hg1 hl1⟩

theorem wbytes_calls {w : World} {g : Nat} {S : List Nat} {bs : List UInt8} (h : Wr w g S bs) (hl : bs.length ≤ 1000000) :
    Calls Try.prog 16 #[.pointer (some ⟨g, 0, none⟩)] w fun e w' => ∃ v, e = .returned v ∧ OwnB w' w.heap.size v bs ∧ Below w.heap.size w w' := by
  obtain ⟨v, T, h1, h2, h3, rfl⟩ := h
  obtain ⟨a, cap, rfl, hb⟩ := h2.bytes
  have c0 := cell_at h1 0
  have c1 := cell_at (heap_keep h1 (.cells #[] 5)) 0
  have hb1 : Bytes (w.alloc (.cells #[] 5)) a bs.length cap bs := hb.keep ((Below.refl _ _).alloc (Nat.le_refl _) _)
  go_enter Try.func16, Try.ntmps16
  go_wp2_with (at_builtin; refine app_bytes_at rfl _ _ rfl rfl (OwnB.emptyAt w w.heap.size _ (by simp) (Nat.le_refl _)) rfl hb1 (by simp; omega) (by simp) ?_; intro v1 w1 ho1 hg1 hl1)
  go_ret
  exact ⟨_, rfl, by simpa using ho1, ((Below.refl _ _).alloc (Nat.le_refl _) _).grown hg1 (by simp) (fun j hj => by cases hj; exact Nat.le_refl _)⟩
end Go.Proofs.Ytmholpploaecgaa
