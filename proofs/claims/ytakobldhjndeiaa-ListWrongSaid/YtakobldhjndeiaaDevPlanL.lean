/-
  Making a device with a plan.
-/
import Derived.Test.YtakobldhjndeiaaDevBent
import Derived.Test.YtakobldhjndeiaaDictIter
import Derived.Deep.RegionHeldLaw
import Derived.Deep.Upon
import Derived.ArgAppend
namespace Go.Proofs.Ytakobldhjndeiaa
open Go.RowKit

/-- What an append to an empty slice gives. -/
def AppEmpty (w w' : World) (v : Value) (ys : List Int) : Prop := (∃ a n c, v = .slice a n c ∧ Ints w' a n c ys ∧ (ys ≠ [] → ∀ p, a = some p → w.heap.size ≤ p.block)) ∧ Below w.heap.size w w'
theorem step_app_empty {w : World} {ops : Array Oper} {o : Oper} {a : Act} {K : Act → World → Prop} {Q : Exit → Act → World → Prop} {E : Prop} (hgd : o.guard = none) (s x : Operand)
    (ho : o.op = .call { callee := .builtin .append, args := #[s, x], argTypes := #[31, 31] }) {b0 : Nat} (hs : a.eval s = .slice (some ⟨b0, 0, none⟩) 0 0) {ad : Option Addr} {m c : Nat} {ys : List Int} (hx : a.eval x = .slice ad m c) (hsl : Ints w ad m c ys) (hm : m ≤ 1000)
    (h : ∀ v' w', AppEmpty w w' v' ys → K (a.put o.dst v') w') : if Region.wanted o (yielded ops a.tmps) = true then Oper.wp Try.prog o a w K Q else E := by
  have hw : Region.wanted o (yielded ops a.tmps) = true := by simp [Region.wanted, hgd]
  rw [if_pos hw]
  obtain ⟨i, hi, hz0, hz1, hz2⟩ := info_parts Try.elI64.hi
  have hl := hsl.len
  subst hl
  by_cases h0 : ys.length = 0
  · obtain rfl : ys = [] := List.eq_nil_of_length_eq_zero h0
    have hsrc : Src Try.prog i.size 31 (.slice ad 0 c) 0 [] w := by
      cases ad with
      | none => exact Src.ofNil w Try.elI64.ht c
      | some ad => exact Src.ofSlice w Try.elI64.ht ad 0 c [] (by simp) (fun j u h => by simp at h) (fun _ h => by cases h)
    have hrun := run_append_nothing (P := Try.prog) w 31 31 o.type 3 i Try.elI64.ht hi (some ⟨b0, 0, none⟩) 0 0 (Nat.le_refl _) _ hsrc
    unfold Oper.wp
    simp [execOp, ho, resolve, invoke, builtin, hs, hx, hrun, Result.andThen]
    exact h _ w ⟨⟨_, 0, 0, rfl, sl_zero _ _, fun h => absurd rfl h⟩, Below.refl _ _⟩
  · obtain ⟨b, off, rfl, _⟩ := hsl.at 0 (by omega)
    obtain ⟨v', w', hrun, hown, hg⟩ := run_append_arg_grows (P := Try.prog) (w := w) 31 o.type 3 i (.int .i64 0) 1 8 Try.elI64.ht hi hz0 hz1 hz2 Try.elI64.hz (by omega) ⟨b0, 0, none⟩ 0 0 [] rfl (fun j u h => by simp at h) ⟨b, off, none⟩ ys.length c (ys.map i64) (by simp) (by
      intro j u hj
      have hjl : j < ys.length := by
        rcases Nat.lt_or_ge j ys.length with h | h
        · exact h
        · rw [List.getElem?_eq_none (by simpa using h)] at hj; cases hj
      rw [add_addr, hsl.cell j hjl, ← hj]
      simp [hjl]) (by omega) (by unfold maxLen; omega) (by omega)
    unfold Oper.wp
    simp [execOp, ho, resolve, invoke, builtin, hs, hx, hrun, Result.andThen]
    rw [Nat.zero_add, List.nil_append] at hown
    obtain ⟨a', c', rfl, hI⟩ := OwnI.ints (show OwnI w' w.heap.size v' ys from hown)
    exact h _ w' ⟨⟨a', ys.length, c', rfl, hI, fun _ p hp => (World.ownsRow.lt hown p.block (by rw [hp]; rfl)).1⟩, (Below.refl _ _).grown hg (Nat.le_refl _) (fun k hk => by cases hk)⟩

/-- A cell, whatever it holds. -/
def val (w : World) (a : Addr) : Value := (w.cell? a).getD undef
theorem val_of {w : World} {a : Addr} {v : Value} (h : w.cell? a = some v) : w.cell? a = some (val w a) := by rw [val, h]; rfl
/-- What the making of a device reads and writes. -/
@[reducible] def PlanS (W0 : World) (B pb g : Nat) (v1 v2 : Value) (w' : World) : Prop :=
  w'.cell? ⟨pb, 0, none⟩ = some v1 ∧ w'.cell? ⟨pb, 1, none⟩ = some v2 ∧ w'.cell? ⟨g, 6, none⟩ = some (val w' ⟨g, 6, none⟩) ∧ w'.cell? ⟨g, 7, none⟩ = some (val w' ⟨g, 7, none⟩) ∧ w'.cell? ⟨g, 8, none⟩ = some (val w' ⟨g, 8, none⟩) ∧
  w'.frozen? ⟨g, 6, none⟩ = false ∧ w'.frozen? ⟨g, 7, none⟩ = false ∧ w'.frozen? ⟨g, 8, none⟩ = false ∧ Below B W0 w'

theorem plan_below {W0 : World} {B pb g : Nat} {v1 v2 : Value} {w1 w2 : World} (hb : Below w1.heap.size w1 w2) (h : PlanS W0 B pb g v1 v2 w1) (hB : B ≤ w1.heap.size) : PlanS W0 B pb g v1 v2 w2 := by
  obtain ⟨h1, h2, h3, h4, h5, h6, h7, h8, h9⟩ := h
  have lp : pb < w1.heap.size := World.block_lt_of_cell? w1 (a := ⟨pb, 0, none⟩) h1
  have lg : g < w1.heap.size := World.block_lt_of_cell? w1 (a := ⟨g, 6, none⟩) h3
  have fz : ∀ o, w2.frozen? ⟨g, o, none⟩ = w1.frozen? ⟨g, o, none⟩ := fun o => by unfold World.frozen?; rw [hb.block g lg]
  refine ⟨by rw [hb.cell (p := ⟨pb, 0, none⟩) lp]; exact h1, by rw [hb.cell (p := ⟨pb, 1, none⟩) lp]; exact h2, val_of (v := val w1 ⟨g, 6, none⟩) (by rw [hb.cell (p := ⟨g, 6, none⟩) lg]; exact h3), val_of (v := val w1 ⟨g, 7, none⟩) (by rw [hb.cell (p := ⟨g, 7, none⟩) lg]; exact h4), val_of (v := val w1 ⟨g, 8, none⟩) (by rw [hb.cell (p := ⟨g, 8, none⟩) lg]; exact h5), by rw [fz]; exact h6, by rw [fz]; exact h7, by rw [fz]; exact h8, h9.trans (hb.mono hB)⟩
theorem plan_size {W0 : World} {B pb g : Nat} {v1 v2 : Value} {w1 : World} (hB : B = pb) (h : PlanS W0 B pb g v1 v2 w1) : B ≤ w1.heap.size := by
  have lp : pb < w1.heap.size := World.block_lt_of_cell? w1 (a := ⟨pb, 0, none⟩) h.1
  omega
theorem plan_alloc {W0 : World} {pb g : Nat} {v1 v2 : Value} {w1 : World} (h : PlanS W0 pb pb g v1 v2 w1) (o : Obj) : PlanS W0 pb pb g v1 v2 (w1.alloc o) := plan_below ((Below.refl _ _).alloc (Nat.le_refl _) o) h (plan_size rfl h)
theorem plan_on {W0 : World} {pb g : Nat} {v1 v2 : Value} {w1 w2 : World} (hb : Below w1.heap.size w1 w2) (h : PlanS W0 pb pb g v1 v2 w1) : PlanS W0 pb pb g v1 v2 w2 := plan_below hb h (plan_size rfl h)
theorem plan_ints {w : World} {a : Option Addr} {n c : Nat} {zs : List Int} (HI : Ints w a n c zs) {pb g : Nat} {v1 v2 : Value} {w1 : World} (hp : w.heap.size = pb) (h : PlanS w pb pb g v1 v2 w1) : Ints w1 a n c zs := HI.keep (by rw [hp]; exact h.2.2.2.2.2.2.2.2)

theorem plan_set {W0 : World} {pb g : Nat} {v1 v2 : Value} {w1 : World} (hpg : pb < g) (h : PlanS W0 pb pb g v1 v2 w1) (o : Nat) (x : Value) : PlanS W0 pb pb g v1 v2 (w1.setCell ⟨g, o, none⟩ x) := by
  have hB := plan_size rfl h
  obtain ⟨h1, h2, h3, h4, h5, h6, h7, h8, h9⟩ := h
  have fz : ∀ q, (w1.setCell ⟨g, o, none⟩ x).frozen? ⟨g, q, none⟩ = w1.frozen? ⟨g, q, none⟩ := fun q => by simp
  refine ⟨?_, ?_, ?_, ?_, ?_, by rw [fz]; exact h6, by rw [fz]; exact h7, by rw [fz]; exact h8, h9.setCell (by show pb ≤ g; omega) _⟩
  · rw [World.cell?_setCell_far _ _ _ _ (by show g ≠ pb; omega)]; exact h1
  · rw [World.cell?_setCell_far _ _ _ _ (by show g ≠ pb; omega)]; exact h2
  · obtain ⟨u, hu⟩ := RowKit.cell?_setCell_some (p := ⟨g, o, none⟩) (x := x) h3; exact val_of hu
  · obtain ⟨u, hu⟩ := RowKit.cell?_setCell_some (p := ⟨g, o, none⟩) (x := x) h4; exact val_of hu
  · obtain ⟨u, hu⟩ := RowKit.cell?_setCell_some (p := ⟨g, o, none⟩) (x := x) h5; exact val_of hu
theorem plan_store {W0 : World} {pb g : Nat} {v1 v2 : Value} {w1 : World} (hpg : pb < g) (h : PlanS W0 pb pb g v1 v2 w1) (x y z : Value) : PlanS W0 pb pb g v1 v2 (((w1.setCell ⟨g, 6, none⟩ x).setCell ⟨g, 7, none⟩ y).setCell ⟨g, 8, none⟩ z) := plan_set hpg (plan_set hpg (plan_set hpg h 6 x) 7 y) 8 z

end Go.Proofs.Ytakobldhjndeiaa
