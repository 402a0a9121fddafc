/-
  How chapter 17's acts read.
-/
import Derived.Test.YtakobldhjndeiaaRows
import Derived.Test.YtakobldhjndeiaaOpenS
import Derived.Test.YtakobldhjndeiaaLsAny
namespace Go.Proofs.Ytakobldhjndeiaa
open Go.ChangeShapes Go.WideShapes Go.ChangeAt Go.RowKit

theorem rd_act17 {H : Type} {enc : TypeId × Value → H} {W : World} {fuel : Nat} {c : List Value} {y : DataW H × List MemPlace} (hc : c.length = 4) (h : DataW.trod enc Try.prog W 0 (fun _ => true) true fuel 39 c = some y) : ∃ x : Act17, c = x.cells ∧ x.good := by
  obtain ⟨xs, n, _, _, _, hx, hf⟩ := DataW.trod_struct Try.underlying39 h
  match xs, hx with
  | [y0, y1, y2, y3], _ =>
    have f0 := hf 0 _ rfl
    have f1 := hf 1 _ rfl
    have f2 := hf 2 _ rfl
    have f3 := hf 3 _ rfl
    match c, hc with
    | [c0, c1, c2, c3], _ =>
      obtain ⟨n0, e0, _, w0⟩ := DataW.trod_int Try.underlying5 f0
      obtain ⟨n1, e1, _, w1⟩ := DataW.trod_int Try.underlying5 f1
      obtain ⟨n2, e2, _, w2⟩ := DataW.trod_int Try.underlying5 f2
      obtain ⟨n3, e3, _, w3⟩ := DataW.trod_int Try.underlying5 f3
      have r0 : c0 = .int .u8 n0 := by have : [c0] = [Value.int .u8 n0] := e0; simpa using this
      have r1 : c1 = .int .u8 n1 := by have : [c1] = [Value.int .u8 n1] := e1; simpa using this
      have r2 : c2 = .int .u8 n2 := by have : [c2] = [Value.int .u8 n2] := e2; simpa using this
      have r3 : c3 = .int .u8 n3 := by have : [c3] = [Value.int .u8 n3] := e3; simpa using this
      subst r0 r1 r2 r3
      exact ⟨⟨n0, n1, n2, n3⟩, rfl, w0, w1, w2, w3⟩
theorem rd_acts17 {H : Type} {enc : TypeId × Value → H} {W : World} {base : Nat} {v : Value} {d : DataW H} {p : List MemPlace} {r : Reach}
    (hok : Value.okWide Try.prog W r base 23 v) (h : DataW.Trod enc Try.prog W 0 (fun _ => true) true 23 v d p) :
    ∃ a n cap, ∃ l : List Act17, v = .slice a n cap ∧ Acts17 W a n cap l := by
  obtain ⟨a, n, cap, rows, rfl, h1, h2, h3, h4⟩ := rd_slice 4 Try.underlying23 (by kernel_rfl) (by decide) hok h
  have hl : ∃ l : List Act17, rows = l.map Act17.cells ∧ ∀ x ∈ l, x.good := by
    clear h1 h3
    induction rows with
    | nil => exact ⟨[], rfl, fun _ h => by cases h⟩
    | cons c rows ih =>
      obtain ⟨l, e, hl⟩ := ih (fun c' hc' => h2 c' (List.mem_cons_of_mem _ hc')) (fun c' hc' => h4 c' (List.mem_cons_of_mem _ hc'))
      obtain ⟨fuel, y, hy⟩ := h4 c (by simp)
      obtain ⟨x, hx, hg⟩ := rd_act17 (h2 c (by simp)) hy
      refine ⟨x :: l, by rw [List.map_cons, ← hx, ← e], fun z hz => ?_⟩
      rcases List.mem_cons.1 hz with rfl | hz
      · exact hg
      · exact hl z hz
  obtain ⟨l, rfl, hg⟩ := hl
  exact ⟨a, n, cap, l, rfl, by simpa using h1, h3, hg⟩
end Go.Proofs.Ytakobldhjndeiaa
