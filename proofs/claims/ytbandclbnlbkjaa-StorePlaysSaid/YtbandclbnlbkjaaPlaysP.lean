/-
  StorePlays: the plan that the law makes, and its own map of blocks.
-/
import Derived.Test.YtbandclbnlbkjaaDevPlan
import Derived.Test.YtbandclbnlbkjaaDevExact
import Derived.Test.YtbandclbnlbkjaaBent06
import Derived.Test.YtbandclbnlbkjaaBlockLong
import Derived.Test.YtbandclbnlbkjaaOpenAct6
import Derived.Test.YtbandclbnlbkjaaDevAwake
import Derived.Test.YtbandclbnlbkjaaStr
import Derived.Test.YtbandclbnlbkjaaRecs
namespace Go.Proofs.Ytbandclbnlbkjaa
open Go.RowKit
set_option linter.unusedVariables false
set_option linter.unusedSimpArgs false

theorem app_int_at {w : World} {ops : Array Oper} {rest : List Oper} {o : Oper} {a : Act} {Q : Exit → Act → World → Prop} (hgd : o.guard = none) (s x : Operand)
    (ho : o.op = .call { callee := .builtin .append, args := #[s, x], argTypes := #[28, 28] })
    {B g : Nat} {v : Value} {l : List Int} {z : Int} {e : TypeId} (hs : a.eval s = v) (hown : OwnI w B v l) (hx : a.eval x = .slice (some ⟨g, 0, none⟩) 1 1) (hg : g = w.heap.size)
    (hb : B ≤ w.heap.size) (hl : l.length ≤ 1000000)
    (h : ∀ v' w', OwnI w' B v' (l ++ [z]) → (w.alloc (.cells #[.int .i64 z] e)).grownBy w' v.ownBlock → (v'.ownBlock = v.ownBlock ∨ v'.ownBlock = some (w.alloc (.cells #[.int .i64 z] e)).heap.size) → wpList Try.prog ops Q rest (a.put o.dst v') w') :
    wpList Try.prog ops Q (o :: rest) a (w.alloc (.cells #[.int .i64 z] e)) := by
  subst hg
  have hsl : Sl (w.alloc (.cells #[.int .i64 z] e)) (some ⟨w.heap.size, 0, none⟩) 1 1 1 [.int .i64 z] := Sl.of_heap (heap_new w _) rfl rfl (Nat.le_refl _) (by decide)
  refine app_sl_at Try.elI64 hgd s x ho hs (own_keep hown ((Below.refl _ _).alloc (Nat.le_refl _) _)) hx hsl (oneCell_i64 [z]) (by omega) (by omega) (by simp; omega) ?_
  intro v' w' h2 h3 h4
  refine h v' w' ?_ h3 h4
  unfold OwnI
  rw [List.map_append, List.length_append]
  exact h2
theorem own_mem {v : Value} {k : Nat} (hk : k ∈ v.ownBlock.toList) : v.ownBlock = some k := by
  cases hv : v.ownBlock with
  | none => rw [hv] at hk; simp at hk
  | some x => rw [hv] at hk; simp at hk; subst hk; rfl

/-- The plan in memory, while it is made. -/
structure Pre (w0 w : World) (PB M : Nat) (v1 v2 : Value) (fu fa : List Int) (L : List (Int × Value)) : Prop where
  top : w.heap[PB]? = some (.cells #[v1, v2, .map (some M)] 30 (0, 0))
  o1 : OwnI w w0.heap.size v1 fu
  o2 : OwnI w w0.heap.size v2 fa
  d1 : v1.ownBlock ≠ some PB ∧ v2.ownBlock ≠ some PB ∧ v1.ownBlock ≠ some M ∧ v2.ownBlock ≠ some M
  d2 : ∀ x, v1.ownBlock = some x → v2.ownBlock ≠ some x
  map : DictAt w M L
  low : w0.heap.size ≤ M ∧ M < PB
  below : Below w0.heap.size w0 w
section
variable {w0 w w1 : World} {PB M : Nat} {v1 v2 v3 : Value} {fu fa fx : List Int} {L L1 : List (Int × Value)}
theorem Pre.base (h : Pre w0 w PB M v1 v2 fu fa L) : w0.heap.size ≤ w.heap.size := h.below.size
theorem Pre.keep (h : Pre w0 w PB M v1 v2 fu fa L) (hb : Below w.heap.size w w1) : Pre w0 w1 PB M v1 v2 fu fa L :=
  ⟨(Fr.ofBelow hb).heap h.top (by simp), h.o1.keep hb, h.o2.keep hb, h.d1, h.d2, h.map.keep hb, h.low, h.below.trans (hb.mono h.base)⟩
theorem Pre.app1 (h : Pre w0 w PB M v1 v2 fu fa L) (ho : OwnI w1 w0.heap.size v3 fx) (hg : w.grownBy w1 v1.ownBlock) (hl : v3.ownBlock = v1.ownBlock ∨ v3.ownBlock = some w.heap.size) : w1.cell? ⟨PB, 0, none⟩ = some v1 ∧ w1.frozen? ⟨PB, 0, none⟩ = false ∧ Pre w0 (w1.setCell ⟨PB, 0, none⟩ v3) PB M v3 v2 fx fa L := by
  have hf : Fr v1.ownBlock.toList w w1 := (Fr.refl _ _).grown hg (fun g hg => .inl (by rw [hg]; simp))
  have ht := hf.heap h.top (fun hm => h.d1.1 (own_mem hm))
  have hp := heap_lt h.top
  have hM := h.map.lt
  have hl2 : ∀ x, v2.ownBlock = some x → x < w.heap.size := fun x hx => (World.ownsRow.lt h.o2 x hx).2
  have hs := (Fr.refl [PB] w1).set ⟨PB, 0, none⟩ (.inl (by simp)) v3
  have hd1 : v3.ownBlock ≠ some PB := fun e => hl.elim (fun h1 => h.d1.1 (h1 ▸ e)) (fun h1 => by rw [h1] at e; simp at e; omega)
  have hbl := OwnI.below h.o1 h.below hg (Nat.le_refl _) h.base
  refine ⟨cell_at ht 0, free_at ht 0, heap_set (a := ⟨PB, 0, none⟩) ht rfl v3, own_fr ho hs (fun g hg hm => hd1 (by rw [hg, List.mem_singleton.1 hm])), own_fr (own_fr h.o2 hf (fun g hg hm => h.d2 g (own_mem hm) hg)) hs (fun g hg hm => h.d1.2.1 (by rw [hg, List.mem_singleton.1 hm])), ⟨hd1, h.d1.2.1, fun e => hl.elim (fun h1 => h.d1.2.2.1 (h1 ▸ e)) (fun h1 => by rw [h1] at e; simp at e; omega), h.d1.2.2.2⟩, ?_, (h.map.fr hf (fun hm => h.d1.2.2.1 (own_mem hm))).fr hs (by have := h.low; simp; omega), h.low, hbl.setCell (by show _ ≤ PB; have := h.low; omega) _⟩
  intro x hx hx2
  rcases hl with h1 | h1
  · exact h.d2 x (h1 ▸ hx) hx2
  · have := hl2 x hx2
    rw [h1] at hx; cases hx; omega
theorem Pre.app2 (h : Pre w0 w PB M v1 v2 fu fa L) (ho : OwnI w1 w0.heap.size v3 fx) (hg : w.grownBy w1 v2.ownBlock) (hl : v3.ownBlock = v2.ownBlock ∨ v3.ownBlock = some w.heap.size) : w1.cell? ⟨PB, 1, none⟩ = some v2 ∧ w1.frozen? ⟨PB, 1, none⟩ = false ∧ Pre w0 (w1.setCell ⟨PB, 1, none⟩ v3) PB M v1 v3 fu fx L := by
  have hf : Fr v2.ownBlock.toList w w1 := (Fr.refl _ _).grown hg (fun g hg => .inl (by rw [hg]; simp))
  have ht := hf.heap h.top (fun hm => h.d1.2.1 (own_mem hm))
  have hp := heap_lt h.top
  have hM := h.map.lt
  have hl2 : ∀ x, v1.ownBlock = some x → x < w.heap.size := fun x hx => (World.ownsRow.lt h.o1 x hx).2
  have hs := (Fr.refl [PB] w1).set ⟨PB, 1, none⟩ (.inl (by simp)) v3
  have hd1 : v3.ownBlock ≠ some PB := fun e => hl.elim (fun h1 => h.d1.2.1 (h1 ▸ e)) (fun h1 => by rw [h1] at e; simp at e; omega)
  have hbl := OwnI.below h.o2 h.below hg (Nat.le_refl _) h.base
  refine ⟨cell_at ht 1, free_at ht 1, heap_set (a := ⟨PB, 1, none⟩) ht rfl v3, own_fr (own_fr h.o1 hf (fun g hg hm => h.d2 g hg (own_mem hm))) hs (fun g hg hm => h.d1.1 (by rw [hg, List.mem_singleton.1 hm])), own_fr ho hs (fun g hg hm => hd1 (by rw [hg, List.mem_singleton.1 hm])), ⟨h.d1.1, hd1, h.d1.2.2.1, fun e => hl.elim (fun h1 => h.d1.2.2.2 (h1 ▸ e)) (fun h1 => by rw [h1] at e; simp at e; omega)⟩, ?_, (h.map.fr hf (fun hm => h.d1.2.2.2 (own_mem hm))).fr hs (by have := h.low; simp; omega), h.low, hbl.setCell (by show _ ≤ PB; have := h.low; omega) _⟩
  intro x hx hx2
  rcases hl with h1 | h1
  · exact h.d2 x hx (h1 ▸ hx2)
  · have := hl2 x hx
    rw [h1] at hx2; cases hx2; omega
theorem Pre.more (h : Pre w0 w PB M v1 v2 fu fa L) (hd : DictAt w1 M L1) (hf : Fr [M] w w1) : Pre w0 w1 PB M v1 v2 fu fa L1 :=
  ⟨hf.heap h.top (fun hm => by have := h.low; have := List.mem_singleton.1 hm; omega), own_fr h.o1 hf (fun g hg hm => h.d1.2.2.1 (by rw [hg, List.mem_singleton.1 hm])), own_fr h.o2 hf (fun g hg hm => h.d1.2.2.2 (by rw [hg, List.mem_singleton.1 hm])), h.d1, h.d2, hd, h.low, Fr.below h.below hf (fun k hk => by rw [List.mem_singleton.1 hk]; exact h.low.1) h.base⟩
end

/-- A block of 64 bytes from block B on. -/
def BlockG (w : World) (B : Nat) (v : Value) (bs : List UInt8) : Prop := ∃ h c, v = .slice (some ⟨h, 0, none⟩) 64 c ∧ B ≤ h ∧ bs.length = 64 ∧ Bytes w (some ⟨h, 0, none⟩) 64 c bs
def RowsG (w : World) (B : Nat) : List (Int × Value) → List (Int × List UInt8) → Prop
  | [], [] => True
  | p :: V, q :: L => p.1 = q.1 ∧ BlockG w B p.2 q.2 ∧ RowsG w B V L
  | _, _ => False
theorem BlockG.fr {w w' : World} {B : Nat} {v : Value} {bs : List UInt8} {S : List Nat} (h : BlockG w B v bs) (hf : Fr S w w') (hS : ∀ k ∈ S, k < B) : BlockG w' B v bs := by
  obtain ⟨b, c, rfl, h1, h2, h3⟩ := h
  exact ⟨b, c, rfl, h1, h2, Sl.fr2 h3 hf (fun _ p hp hm => by cases hp; have h4 : b < B := hS _ hm; omega)⟩
theorem rowsG_fr {w w' : World} {B : Nat} {S : List Nat} (hf : Fr S w w') (hS : ∀ k ∈ S, k < B) : ∀ {V : List (Int × Value)} {L : List (Int × List UInt8)}, RowsG w B V L → RowsG w' B V L
  | [], [], _ => trivial
  | _ :: _, _ :: _, h => ⟨h.1, h.2.1.fr hf hS, rowsG_fr hf hS h.2.2⟩
  | [], _ :: _, h => h.elim
  | _ :: _, [], h => h.elim
theorem rowsG_keys {w : World} {B : Nat} : ∀ {V : List (Int × Value)} {L : List (Int × List UInt8)}, RowsG w B V L → V.map (·.1) = L.map (·.1)
  | [], [], _ => rfl
  | _ :: _, _ :: _, h => by rw [List.map_cons, List.map_cons, h.1, rowsG_keys h.2.2]
  | [], _ :: _, h => h.elim
  | _ :: _, [], h => h.elim
theorem rowsG_len {w : World} {B : Nat} {V : List (Int × Value)} {L : List (Int × List UInt8)} (h : RowsG w B V L) : V.length = L.length := by
  have := congrArg List.length (rowsG_keys h)
  simpa using this
theorem rowsG_none {w : World} {B : Nat} {V : List (Int × Value)} {L : List (Int × List UInt8)} (h : RowsG w B V L) {z : Int} (hz : ∀ q ∈ L, q.1 ≠ z) : ∀ p ∈ V, p.1 ≠ z := by
  intro p hp e
  have h1 : z ∈ V.map (·.1) := List.mem_map.2 ⟨p, hp, e⟩
  rw [rowsG_keys h] at h1
  obtain ⟨q, hq, e2⟩ := List.mem_map.1 h1
  exact hz q hq e2
theorem rowsG_get {w : World} {B : Nat} {z : Int} {bs : List UInt8} : ∀ {V : List (Int × Value)} {L : List (Int × List UInt8)}, RowsG w B V L → (z, bs) ∈ L → ∃ v, (z, v) ∈ V ∧ BlockG w B v bs
  | [], [], _, hm => by cases hm
  | (a, v) :: V, (b, bs') :: L, h, hm => by
    rcases List.mem_cons.1 hm with e | hm
    · have e1 : a = z := by have := h.1; simp only at this; rw [this]; exact (congrArg Prod.fst e).symm
      have e2 : bs' = bs := (congrArg Prod.snd e).symm
      subst e1; subst e2
      exact ⟨v, by simp, h.2.1⟩
    · obtain ⟨v', h1, h2⟩ := rowsG_get h.2.2 hm
      exact ⟨v', List.mem_cons_of_mem _ h1, h2⟩
  | [], _ :: _, h, _ => h.elim
  | _ :: _, [], h, _ => h.elim
theorem rowsG_filter {w : World} {B : Nat} (z : Int) : ∀ {V : List (Int × Value)} {L : List (Int × List UInt8)}, RowsG w B V L → RowsG w B (V.filter (fun p => !(p.1 == z))) (L.filter (fun p => !(p.1 == z)))
  | [], [], _ => trivial
  | (a, v) :: V, (b, bs) :: L, h => by
    have e : a = b := h.1
    subst e
    have ih := rowsG_filter z h.2.2
    by_cases hz : a = z
    · simpa [hz] using ih
    · simpa [hz] using ⟨rfl, h.2.1, ih⟩
  | [], _ :: _, h => h.elim
  | _ :: _, [], h => h.elim
theorem rowsG_snoc {w : World} {B : Nat} {z : Int} {v : Value} {bs : List UInt8} (hv : BlockG w B v bs) : ∀ {V : List (Int × Value)} {L : List (Int × List UInt8)}, RowsG w B V L → RowsG w B (V ++ [(z, v)]) (L ++ [(z, bs)])
  | [], [], _ => ⟨rfl, hv, trivial⟩
  | _ :: _, _ :: _, h => ⟨h.1, h.2.1, rowsG_snoc hv h.2.2⟩
  | [], _ :: _, h => h.elim
  | _ :: _, [], h => h.elim
/-- A slice whose block is none of S. -/
def Off (S : List Nat) (v : Value) (zs : List Int) : Prop := ∀ a n c, v = .slice a n c → zs ≠ [] → ∀ p, a = some p → p.block ∉ S
theorem Dvx.frQ {w w' : World} {g mb bb : Nat} {v1 v2 : Value} {V : List (Int × Value)} {d : Dev} {S : List Nat} (h : Dvx w g mb bb v1 v2 V d) (hf : Fr S w w') (hS : g ∉ S ∧ mb ∉ S ∧ bb ∉ S) (hV : ∀ p ∈ V, ∀ k, p.2.ownBlock = some k → k ∉ S) (h1 : Off S v1 d.fu) (h2 : Off S v2 d.fa) : Dvx w' g mb bb v1 v2 V d := by
  obtain ⟨a1, n1, c1, rfl, s1, o1⟩ := h.full
  obtain ⟨a2, n2, c2, rfl, s2, o2⟩ := h.fail
  exact ⟨hf.heap h.top hS.1, h.map.fr hf hS.2.1, rows_fr hf h.rows hV, ⟨_, _, _, rfl, Sl.fr2 s1 hf (fun hne p hp => h1 _ _ _ rfl (by intro e; rw [e] at hne; simp at hne) p hp), o1⟩, ⟨_, _, _, rfl, Sl.fr2 s2 hf (fun hne p hp => h2 _ _ _ rfl (by intro e; rw [e] at hne; simp at hne) p hp), o2⟩, h.bends.fr hf hS.2.2, h.apart, h.nums, h.room4⟩
theorem off_new {w : World} {g mb bb : Nat} {v1 v2 : Value} {V : List (Int × Value)} {d : Dev} (h : Dvx w g mb bb v1 v2 V d) : Off [w.heap.size] v1 d.fu ∧ Off [w.heap.size] v2 d.fa := by
  obtain ⟨a1, n1, c1, rfl, s1, o1⟩ := h.full
  obtain ⟨a2, n2, c2, rfl, s2, o2⟩ := h.fail
  constructor
  · rintro a n c e hne p rfl hm
    simp only [Value.slice.injEq] at e
    obtain ⟨rfl, rfl, rfl⟩ := e
    obtain ⟨b, off, e, hl, _⟩ := s1.row (by intro e; apply hne; simpa using e)
    cases e
    have := List.mem_singleton.1 hm
    simp only at this
    omega
  · rintro a n c e hne p rfl hm
    simp only [Value.slice.injEq] at e
    obtain ⟨rfl, rfl, rfl⟩ := e
    obtain ⟨b, off, e, hl, _⟩ := s2.row (by intro e; apply hne; simpa using e)
    cases e
    have := List.mem_singleton.1 hm
    simp only at this
    omega
theorem lt_of_pre {w0 w : World} {PB M : Nat} {v1 v2 : Value} {fu fa : List Int} {L : List (Int × Value)} (h : Pre w0 w PB M v1 v2 fu fa L) : PB < w.heap.size ∧ M < w.heap.size ∧ (∀ k, v1.ownBlock = some k → k < w.heap.size) ∧ (∀ k, v2.ownBlock = some k → k < w.heap.size) :=
  ⟨heap_lt h.top, h.map.lt, fun k hk => (World.ownsRow.lt h.o1 k hk).2, fun k hk => (World.ownsRow.lt h.o2 k hk).2⟩
/-- The plan stays as it was made. -/
theorem plan_stays {w0 W0 : World} {PB M g mb bb mm B n1 c1 n2 c2 : Nat} {a1 a2 : Option Addr} {fu fa : List Int} {L : List (Int × Value)} (h : Pre w0 W0 PB M (.slice a1 n1 c1) (.slice a2 n2 c2) fu fa L)
    (hl : PB < B ∧ M < B ∧ (∀ k, (Value.slice a1 n1 c1).ownBlock = some k → k < B) ∧ (∀ k, (Value.slice a2 n2 c2).ownBlock = some k → k < B)) (hg : B ≤ g ∧ B ≤ mb ∧ B ≤ bb) (hm : B ≤ mm) :
    ∀ w', Fr [g, mb, mm] W0 w' → w'.heap[PB]? = some (.cells #[.slice a1 n1 c1, .slice a2 n2 c2, .map (some M)] 30 (0, 0)) ∧ Ints w' a1 n1 c1 fu ∧ Ints w' a2 n2 c2 fa ∧ DictAt w' M L := by
  intro w' hf
  have k1 := own_fr h.o1 hf (fun k hk hm => by have := hl.2.2.1 k hk; simp at hm; omega)
  have k2 := own_fr h.o2 hf (fun k hk hm => by have := hl.2.2.2 k hk; simp at hm; omega)
  obtain ⟨x1, y1, e1, i1⟩ := OwnI.ints k1
  obtain ⟨x2, y2, e2, i2⟩ := OwnI.ints k2
  simp only [Value.slice.injEq] at e1 e2
  obtain ⟨rfl, rfl, rfl⟩ := e1
  obtain ⟨rfl, rfl, rfl⟩ := e2
  exact ⟨hf.heap h.top (by simp; omega), i1, i2, h.map.fr hf (by simp; omega)⟩
/-- The device and the law's map, side by side. -/
structure Inv (W0 w : World) (g mb bb mm : Nat) (u1 u2 : Value) (d : Dev) (V V' : List (Int × Value)) (LL : List (Int × List UInt8)) : Prop where
  dv : Dvx w g mb bb u1 u2 V d
  mp : DictAt w mm V'
  rows : RowsG w W0.heap.size V' LL
  new : ∀ p ∈ V, ∀ x, p.2.ownBlock = some x → W0.heap.size ≤ x
  low : g < W0.heap.size ∧ mb < W0.heap.size ∧ mm < W0.heap.size ∧ mm ≠ g ∧ mm ≠ mb ∧ mm ≠ bb
  fr : Fr [g, mb, mm] W0 w
section
variable {W0 w w1 : World} {g mb bb mm : Nat} {u1 u2 : Value} {d d1 : Dev} {V V1 V' V1' : List (Int × Value)} {LL LL1 : List (Int × List UInt8)}
theorem Inv.dev (h : Inv W0 w g mb bb mm u1 u2 d V V' LL) (hd : Dvx w1 g mb bb u1 u2 V1 d1) (hf : Fr [g, mb] w w1) (hn : ∀ p ∈ V1, ∀ x, p.2.ownBlock = some x → W0.heap.size ≤ x) : Inv W0 w1 g mb bb mm u1 u2 d1 V1 V' LL := by
  have hl := h.low
  refine ⟨hd, h.mp.fr hf (by simp; omega), rowsG_fr hf (fun k hk => by simp at hk; omega) h.rows, hn, hl, h.fr.trans (hf.mono (S' := [g, mb, mm]) (fun k hk => .inl (by simp at hk ⊢; omega))) (Grows.refl _ _)⟩
theorem Inv.mapped (h : Inv W0 w g mb bb mm u1 u2 d V V' LL) (hm : DictAt w1 mm V1') (hr : RowsG w W0.heap.size V1' LL1) (hf : Fr [mm] w w1) (h1 : Off [mm] u1 d.fu) (h2 : Off [mm] u2 d.fa) : Inv W0 w1 g mb bb mm u1 u2 d V V1' LL1 := by
  have hl := h.low
  refine ⟨h.dv.frQ hf ⟨by simp; omega, by simp; omega, by simp; omega⟩ (fun p hp k hk => by have := h.new p hp k hk; simp; omega) h1 h2, hm, rowsG_fr hf (fun k hk => by simp at hk; omega) hr, h.new, hl, h.fr.trans (hf.mono (S' := [g, mb, mm]) (fun k hk => .inl (by simp at hk ⊢; omega))) (Grows.refl _ _)⟩
theorem Inv.keep (h : Inv W0 w g mb bb mm u1 u2 d V V' LL) (hb : Below w.heap.size w w1) : Inv W0 w1 g mb bb mm u1 u2 d V V' LL :=
  ⟨h.dv.keep hb, h.mp.keep hb, rowsG_fr (Fr.ofBelow hb) (fun k hk => by cases hk) h.rows, h.new, h.low, h.fr.trans (Fr.ofBelow hb) (fun k hk => by cases hk)⟩
end
theorem filter_new {V : List (Int × Value)} {B : Nat} (h : ∀ p ∈ V, ∀ x, p.2.ownBlock = some x → B ≤ x) (z : Int) : ∀ p ∈ V.filter (fun p => !(p.1 == z)), ∀ x, p.2.ownBlock = some x → B ≤ x := fun p hp => h p (List.mem_filter.1 hp).1
theorem filter_none {α : Type} {V : List (Int × α)} {z : Int} (h : ∀ p ∈ V, p.1 ≠ z) : V.filter (fun p => !(p.1 == z)) = V := by
  rw [List.filter_eq_self]
  intro p hp
  simpa using h p hp
/-- A look into the law's map. -/
theorem glook_some {w : World} {mm B : Nat} {V' : List (Int × Value)} {LL : List (Int × List UInt8)} (h : DictAt w mm V') (hr : RowsG w B V' LL) {z : Int} {bs : List UInt8} (hz : (z, bs) ∈ LL) (wz : -9223372036854775808 ≤ z ∧ z < 9223372036854775808) :
    ∃ b c, (Instr.lookup 44 (.map (some mm)) (.int .i64 z) true).run Try.prog w = .ok (.tuple #[.slice (some ⟨b, 0, none⟩) 64 c, .bool true]) w ∧ B ≤ b ∧ bs.length = 64 ∧ Bytes w (some ⟨b, 0, none⟩) 64 c bs := by
  obtain ⟨v, hv, b, c, rfl, h1, h2, h3⟩ := rowsG_get hr hz
  have hl := h.look (P := Try.prog) Try.underlying44 Try.underlying3 (zero_bytes w) true (z := z) (WalkArith.wf_i64 (by omega))
  obtain ⟨e1, e2⟩ := dget_some h.nodup hv (.slice none 0 0)
  rw [e1, e2] at hl
  exact ⟨b, c, hl, h1, h2, h3⟩
theorem glook_none {w : World} {mm B : Nat} {V' : List (Int × Value)} {LL : List (Int × List UInt8)} (h : DictAt w mm V') (hr : RowsG w B V' LL) {z : Int} (hz : ∀ q ∈ LL, q.1 ≠ z) (wz : -9223372036854775808 ≤ z ∧ z < 9223372036854775808) :
    (Instr.lookup 44 (.map (some mm)) (.int .i64 z) true).run Try.prog w = .ok (.tuple #[.slice none 0 0, .bool false]) w := by
  have hl := h.look (P := Try.prog) Try.underlying44 Try.underlying3 (zero_bytes w) true (z := z) (WalkArith.wf_i64 (by omega))
  obtain ⟨e1, e2⟩ := dget_none (rowsG_none hr hz) (.slice none 0 0)
  rw [e1, e2] at hl
  exact hl
def bendAt (l : List BendR) (i : Nat) : BendR := (l[i]?).getD ⟨0, 0⟩
def bendsL0 (l : List BendR) (k : Nat) : List (Int × Value) := (List.range k).map (fun i : Nat => (3 * (i : Int), bv (bendAt l i).from_ (bendAt l i).mask))
theorem bendsL0_mem {l : List BendR} {k : Nat} {p : Int × Value} : p ∈ bendsL0 l k ↔ ∃ i, i < k ∧ p = (3 * (i : Int), bv (bendAt l i).from_ (bendAt l i).mask) := by
  unfold bendsL0
  rw [List.mem_map]
  constructor
  · rintro ⟨i, hi, rfl⟩; exact ⟨i, List.mem_range.1 hi, rfl⟩
  · rintro ⟨i, hi, rfl⟩; exact ⟨i, List.mem_range.2 hi, rfl⟩
/-- What a take with a bend tells. -/
def TookBent (w w' : World) (bs Y : List UInt8) (v : Value) (ez : Int) : Prop := (rightB Y = false ∧ v = .slice none 0 0 ∧ ez = 10) ∨ (rightB Y = true ∧ ez = 0 ∧ OwnB w' w.heap.size v bs)
theorem dtake_exact2 {w : World} {g mb bb : Nat} {v1 v2 : Value} {V : List (Int × Value)} {d : Dev} (h : Dvx w g mb bb v1 v2 V d) {z : Int} {bs : List UInt8} (hz : (z, bs) ∈ d.L) (wz : -9223372036854775808 ≤ z ∧ z < 9223372036854775808)
    (htk : d.takes < 1000000) (hfa : (d.takes : Int) ∉ d.fa) {f : Int} {m : Crc.B32} (wf : -9223372036854775808 ≤ f ∧ f < 9223372036854775808) (hbe : ((d.takes : Int), Value.agg #[.int .i64 f, .int .u32 (m.toNat : Int)]) ∈ d.be) :
    Calls Try.prog 10 #[.pointer (some ⟨g, 0, none⟩), .int .i64 z] w fun e w' => ∃ gv ez Y, e = .returned (.tuple #[gv, .int .i64 ez]) ∧ BentI (bs ++ Crc.be (Crc.sum bs)) Y f m 32 ∧ TookBent w w' bs Y gv ez ∧ Dvx w' g mb bb v1 v2 (V.filter (fun p => !(p.1 == z))) (d.took z) ∧ Fr [g, mb] w w' :=
  (dtake_exact h hz wz htk hfa wf hbe).mono (fun e w' h => by
    obtain ⟨Y, hY, hc, hd, hf⟩ := h
    rcases hc with ⟨hR, rfl⟩ | ⟨hR, v, rfl, hv⟩
    · exact ⟨_, _, Y, rfl, hY, .inl ⟨hR, rfl, rfl⟩, hd, hf⟩
    · exact ⟨_, _, Y, rfl, hY, .inr ⟨hR, rfl, hv⟩, hd, hf⟩)
/-- What the plan says of a take. -/
theorem plan_look {Lb : List (Int × Value)} {l : List BendR} {n : Nat} (hL : bendsL0 l n = Lb) (hg : ∀ x ∈ l, x.good) (hn : n ≤ l.length) (z : Int) (wz : -9223372036854775808 ≤ z ∧ z < 9223372036854775808) :
    ∃ (fz : Int) (m : Crc.B32) (isb : Bool), (∀ w M, DictAt w M Lb → (Instr.lookup 27 (.map (some M)) (.int .i64 z) true).run Try.prog w = .ok (.tuple #[.agg #[.int .i64 fz, .int .u32 (m.toNat : Int)], .bool isb]) w) ∧ (-9223372036854775808 ≤ fz ∧ fz < 9223372036854775808) ∧ ((isb = false ∧ ∀ p ∈ Lb, p.1 ≠ z) ∨ (isb = true ∧ (z, Value.agg #[.int .i64 fz, .int .u32 (m.toNat : Int)]) ∈ Lb)) := by
  by_cases h : ∃ p ∈ Lb, p.1 = z
  · obtain ⟨p, hp, rfl⟩ := h
    rw [← hL] at hp
    obtain ⟨i, hi, hpe⟩ := bendsL0_mem.1 hp
    have hx : bendAt l i ∈ l := by unfold bendAt; rw [List.getElem?_eq_getElem (by omega)]; exact List.getElem_mem _
    have hgx := hg _ hx
    have wf := bounds_i64 hgx.1
    have wm := bounds_u32 hgx.2
    have hm : (bendAt l i).mask = (((BitVec.ofNat 32 (bendAt l i).mask.toNat).toNat : Nat) : Int) := by
      rw [BitVec.toNat_ofNat, Nat.mod_eq_of_lt (by omega)]; omega
    have hin : (p.1, Value.agg #[.int .i64 (bendAt l i).from_, .int .u32 (((BitVec.ofNat 32 (bendAt l i).mask.toNat).toNat : Nat) : Int)]) ∈ Lb := by
      rw [← hm, ← hL]
      refine bendsL0_mem.2 ⟨i, hi, ?_⟩
      rw [hpe]; rfl
    exact ⟨(bendAt l i).from_, BitVec.ofNat 32 (bendAt l i).mask.toNat, true, fun w M hd => bend_found hd hin wz, by omega, .inr ⟨rfl, hin⟩⟩
  · have hno : ∀ p ∈ Lb, p.1 ≠ z := fun p hp e => h ⟨p, hp, e⟩
    exact ⟨0, 0#32, false, fun w M hd => bend_none hd hno wz, by omega, .inl ⟨rfl, hno⟩⟩
set_option maxRecDepth 10000 in
theorem ddrop_exact {w : World} {g mb bb : Nat} {v1 v2 : Value} {V : List (Int × Value)} {d : Dev} (h : Dvx w g mb bb v1 v2 V d) {z : Int} {bs : List UInt8} (hz : (z, bs) ∈ d.L) (wz : -9223372036854775808 ≤ z ∧ z < 9223372036854775808) :
    Calls Try.prog 17 #[.pointer (some ⟨g, 0, none⟩), .int .i64 z] w fun e w' => e = .returned (.int .i64 0) ∧ Dvx w' g mb bb v1 v2 (V.filter (fun p => !(p.1 == z))) (d.less z) ∧ Fr [g, mb] w w' := by
  have c0 := cell_at h.top 0
  obtain ⟨b, c, hl, hX, h64, hB⟩ := dlook_some h hz wz
  obtain ⟨w1, e1, hm1, f1⟩ := h.map.drop (P := Try.prog) Try.underlying44 Try.underlying3 (z := z) (WalkArith.wf_i64 (by omega)) 0
  have ff : Fr [g, mb] w w1 := f1.mono (fun k hk => .inl (by simp at hk; simp [hk]))
  go_enter Try.func17, Try.ntmps17
  go_wp2
  go_ret
  refine ⟨rfl, h.turn (d' := d.less z) ff (f1.heap h.top (by have := h.apart; simp; omega)) hm1 (rows_filter z (Rows.frX ff h.rows)) rfl rfl rfl rfl (fun p hp => h.nums p (List.mem_filter.1 hp).1), ff⟩

end Go.Proofs.Ytbandclbnlbkjaa
