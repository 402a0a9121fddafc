/-
  What a call leaves as it was, where it writes some blocks that were there before: 'Fr S w w''.
-/
import Derived.Test.YtakobldhjndeiaaApp
import Derived.Maps.AppendAt
namespace Go.Proofs.Ytakobldhjndeiaa
open Go.RowKit

/-- All blocks of w but those of S are in w' as they were. -/
structure Fr (S : List Nat) (w w' : World) : Prop where
  os : w'.os = w.os
  tape : w'.tape = w.tape
  output : w'.output = w.output
  size : w.heap.size ≤ w'.heap.size
  block : ∀ k, k < w.heap.size → k ∉ S → w'.heap[k]? = w.heap[k]?
/-- S' is of S, and of what is new since w. -/
def Grows (S : List Nat) (w : World) (S' : List Nat) : Prop := ∀ k, k ∈ S' → k ∈ S ∨ w.heap.size ≤ k

theorem Grows.refl (S : List Nat) (w : World) : Grows S w S := fun _ h => .inl h
theorem Grows.trans {S S' S'' : List Nat} {w w' : World} (h : Grows S w S') (h' : Grows S' w' S'') (hs : w.heap.size ≤ w'.heap.size) : Grows S w S'' := fun k hk => by
  rcases h' k hk with h1 | h1
  · exact h k h1
  · exact .inr (Nat.le_trans hs h1)
theorem Fr.refl (S : List Nat) (w : World) : Fr S w w := ⟨rfl, rfl, rfl, Nat.le_refl _, fun _ _ _ => rfl⟩
theorem Fr.trans {S S' : List Nat} {a b c : World} (h : Fr S a b) (k : Fr S' b c) (hg : Grows S a S') : Fr S a c :=
  ⟨k.os.trans h.os, k.tape.trans h.tape, k.output.trans h.output, Nat.le_trans h.size k.size, fun i hi hn => by
    rw [k.block i (Nat.lt_of_lt_of_le hi h.size) (fun hm => (hg i hm).elim hn (fun h1 => by omega)), h.block i hi hn]⟩
theorem Fr.mono {S S' : List Nat} {a b : World} (h : Fr S a b) (hs : Grows S' a S) : Fr S' a b := ⟨h.os, h.tape, h.output, h.size, fun k hk hn => h.block k hk (fun hm => (hs k hm).elim hn (fun h1 => by omega))⟩
theorem Fr.alloc {S : List Nat} {a b : World} (h : Fr S a b) (o : Obj) : Fr S a (b.alloc o) :=
  ⟨h.os, h.tape, h.output, Nat.le_trans h.size (by simp), fun k hk hn => by rw [heap_old _ _ (Nat.lt_of_lt_of_le hk h.size), h.block k hk hn]⟩
theorem Fr.drewN {S : List Nat} {a b : World} (h : Fr S a b) (n : Nat) : Fr S a (b.drewN n) := ⟨h.os, h.tape, h.output, h.size, h.block⟩
theorem Fr.set {S : List Nat} {a b : World} (h : Fr S a b) (p : Addr) (hp : p.block ∈ S ∨ a.heap.size ≤ p.block) (v : Value) : Fr S a (b.setCell p v) := by
  refine ⟨h.os, h.tape, h.output, by have := h.size; simp [World.setCell]; omega, fun k hk hn => ?_⟩
  rw [heap_set_ne b (by rintro rfl; exact hp.elim hn (fun h1 => by omega)), h.block k hk hn]
theorem Fr.grown {S : List Nat} {a b c : World} (h : Fr S a b) {row : Option Nat} (hg : b.grownBy c row) (hr : ∀ g, row = some g → g ∈ S ∨ a.heap.size ≤ g) : Fr S a c :=
  ⟨hg.os.trans h.os, hg.tape.trans h.tape, hg.output.trans h.output, Nat.le_trans h.size hg.size, fun k hk hn => by
    rw [hg.block k (Nat.lt_of_lt_of_le hk h.size) (fun e => (hr k e.symm).elim hn (fun h1 => by omega)), h.block k hk hn]⟩
theorem Fr.below {S : List Nat} {C : Nat} {w0 a b : World} (hb : Below C w0 a) (h : Fr S a b) (hS : ∀ k ∈ S, C ≤ k) (hC : C ≤ a.heap.size) : Below C w0 b :=
  ⟨h.os.trans hb.os, h.tape.trans hb.tape, h.output.trans hb.output, Nat.le_trans hb.size h.size, fun k hk => by
    rw [h.block k (by omega) (fun hm => by have := hS k hm; omega), hb.block k hk]⟩
theorem Fr.toBelow {S : List Nat} {C : Nat} {a b : World} (h : Fr S a b) (hS : ∀ k ∈ S, C ≤ k) (hC : C ≤ a.heap.size) : Below C a b := Fr.below (Below.refl _ _) h hS hC
theorem Fr.ofBelow {a b : World} (h : Below a.heap.size a b) : Fr [] a b := ⟨h.os, h.tape, h.output, h.size, fun k hk _ => h.block k hk⟩
theorem Fr.heap {S : List Nat} {a b : World} (h : Fr S a b) {k : Nat} {o : Obj} (ho : a.heap[k]? = some o) (hn : k ∉ S) : b.heap[k]? = some o := by rw [h.block k (heap_lt ho) hn]; exact ho
theorem Fr.nilMono {S : List Nat} {a b : World} (h : Fr [] a b) : Fr S a b := h.mono (fun _ h => by cases h)

theorem Sl.fr {S : List Nat} {w w' : World} {a : Option Addr} {n cap size : Nat} {xs : List Value} (h : Sl w a n cap size xs) (hf : Fr S w w') (hn : ∀ p, a = some p → p.block ∉ S) : Sl w' a n cap size xs :=
  ⟨h.len, h.le, h.max, h.nil, fun hx => by
    obtain ⟨b, off, h1, h2, h3⟩ := h.row hx
    refine ⟨b, off, h1, Nat.lt_of_lt_of_le h2 hf.size, fun i hi => ?_⟩
    have := h3 i hi
    unfold World.cell? at this ⊢
    rw [hf.block b h2 (hn _ h1)]; exact this⟩
theorem own_fr {S : List Nat} {w w' : World} {B : Nat} {e : TypeId} {size : Nat} {v : Value} {n : Nat} {xs : List Value} (h : w.ownsRow B e size v n xs) (hf : Fr S w w') (hn : ∀ g, v.ownBlock = some g → g ∉ S) : w'.ownsRow B e size v n xs := by
  obtain ⟨h1, h2⟩ := h
  refine ⟨h1, ?_⟩
  rcases h2 with h2 | ⟨g, cap, cur, rfl, hg, hh, r⟩
  · exact .inl h2
  · exact .inr ⟨g, cap, cur, rfl, hg, hf.heap hh (hn g rfl), r⟩

/-- 'append(x, y...)', with where the new slice lies. -/
theorem app_sl_at {P : Program} {t e : TypeId} {z : Value} {size bytes : Nat} (hE : El P t e z size bytes) {w : World} {ops : Array Oper} {rest : List Oper} {o : Oper} {a : Act} {Q : Exit → Act → World → Prop} (hgd : o.guard = none) (s x : Operand)
    (ho : o.op = .call { callee := .builtin .append, args := #[s, x], argTypes := #[t, t] })
    {B : Nat} {v : Value} {n : Nat} {xs : List Value} (hs : a.eval s = v) (hown : w.ownsRow B e size v n xs)
    {ad : Option Addr} {m c : Nat} {ys : List Value} (hx : a.eval x = .slice ad m c) (hsl : Sl w ad m c size ys) (h1 : ∀ u ∈ ys, u.oneCell' = true)
    (h63 : n + m ≤ 140737488355328) (hbytes : (n + m) * bytes ≤ 140737488355328) (hbase : B ≤ w.heap.size)
    (h : ∀ v' w', w'.ownsRow B e size v' (n + m) (xs ++ ys) → w.grownBy w' v.ownBlock → (v'.ownBlock = v.ownBlock ∨ v'.ownBlock = some w.heap.size) → wpList P ops Q rest (a.put o.dst v') w') : wpList P ops Q (o :: rest) a w := by
  obtain ⟨i, hi, hz0, hz1, hz2⟩ := info_parts hE.hi
  cases ad with
  | none =>
    have hc := hsl.nil rfl
    subst hc
    have hm : m = 0 := by have := hsl.le; omega
    subst hm
    have hy : ys = [] := by have := hsl.len; simpa using this
    subst hy
    refine wpList_append_own_none hgd s x t ho B e i size hE.ht hi v n xs hs hown hx ?_
    exact h v w (by simpa using hown) ⟨rfl, rfl, rfl, Nat.le_refl _, fun _ _ _ => rfl⟩ (.inl rfl)
  | some ad =>
    refine wpList_append_own_at w hgd s x t ho B e i z size bytes hE.ht hi hz0 hz1 hz2 hE.hz hE.pos v n xs hs hown ad m c ys hx hsl.len ?_ h1 (by unfold maxLen; omega) hbytes hbase ?_
    · intro j u hu
      have hj : j < ys.length := by
        rcases Nat.lt_or_ge j ys.length with h | h
        · exact h
        · rw [List.getElem?_eq_none h] at hu; simp at hu
      obtain ⟨b, off, h2, h3⟩ := hsl.at j hj
      simp only [Option.some.injEq] at h2
      subst h2
      rw [add_addr, h3, ← hu]
      simp [hj]
    · intro v' w' h2 h3 _ h5
      exact h v' w' h2 h3 h5
end Go.Proofs.Ytakobldhjndeiaa
