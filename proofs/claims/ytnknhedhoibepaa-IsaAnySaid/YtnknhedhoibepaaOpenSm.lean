/-
  How chapter 7's small instructions read.
-/
import Derived.Test.YtnknhedhoibepaaIsaMake
namespace Go.Proofs.Ytnknhedhoibepaa
open Go.ChangeShapes Go.WideShapes Go.ChangeAt Go.RowKit Isa

theorem rd_sm {H : Type} {enc : TypeId × Value → H} {W : World} {fuel : Nat} {c : List Value} {y : DataW H × List MemPlace} (hc : c.length = 6) (h : DataW.trod enc Try.prog W 0 (fun _ => true) true fuel 52 c = some y) : ∃ x : Sm, c = x.cells ∧ x.good := by
  obtain ⟨xs, n, _, _, _, hx, hf⟩ := DataW.trod_struct Try.underlying52 h
  match xs, hx with
  | [y0, y1, y2, y3, y4, y5], _ =>
    have f0 := hf 0 _ rfl
    have f1 := hf 1 _ rfl
    have f2 := hf 2 _ rfl
    have f3 := hf 3 _ rfl
    have f4 := hf 4 _ rfl
    have f5 := hf 5 _ rfl
    match c, hc with
    | [c0, c1, c2, c3, c4, c5], _ =>
      obtain ⟨n0, e0, _, w0⟩ := DataW.trod_int Try.underlying5 f0
      obtain ⟨n1, e1, _, w1⟩ := DataW.trod_int Try.underlying5 f1
      obtain ⟨n2, e2, _, w2⟩ := DataW.trod_int Try.underlying5 f2
      obtain ⟨n3, e3, _, w3⟩ := DataW.trod_int Try.underlying5 f3
      obtain ⟨n4, e4, _, w4⟩ := DataW.trod_int Try.underlying28 f4
      obtain ⟨n5, e5, _⟩ := DataW.trod_bool Try.underlying4 f5
      have r0 : c0 = .int .u8 n0 := by have : [c0] = [Value.int .u8 n0] := e0; simpa using this
      have r1 : c1 = .int .u8 n1 := by have : [c1] = [Value.int .u8 n1] := e1; simpa using this
      have r2 : c2 = .int .u8 n2 := by have : [c2] = [Value.int .u8 n2] := e2; simpa using this
      have r3 : c3 = .int .u8 n3 := by have : [c3] = [Value.int .u8 n3] := e3; simpa using this
      have r4 : c4 = .int .i16 n4 := by have : [c4] = [Value.int .i16 n4] := e4; simpa using this
      have r5 : c5 = .bool n5 := by have : [c5] = [Value.bool n5] := e5; simpa using this
      subst r0 r1 r2 r3 r4 r5
      have b0 := bounds_u8 w0
      have b1 := bounds_u8 w1
      have b2 := bounds_u8 w2
      have b3 := bounds_u8 w3
      have b4 := bounds_i16 w4
      refine ⟨⟨n0, n1, n2, n3, n4, n5⟩, rfl, ?_⟩
      unfold Sm.good
      simp only
      omega
theorem rd_sms {H : Type} {enc : TypeId × Value → H} {W : World} {base : Nat} {v : Value} {d : DataW H} {p : List MemPlace} {r : Reach}
    (hok : Value.okWide Try.prog W r base 22 v) (h : DataW.Trod enc Try.prog W 0 (fun _ => true) true 22 v d p) :
    ∃ a n cap, ∃ l : List Sm, v = .slice a n cap ∧ Sms W a n cap l := by
  obtain ⟨a, n, cap, rows, rfl, h1, h2, h3, h4⟩ := rd_slice 6 Try.underlying22 (by kernel_rfl) (by decide) hok h
  have hl : ∃ l : List Sm, rows = l.map Sm.cells ∧ ∀ x ∈ l, x.good := by
    clear h1 h3
    induction rows with
    | nil => exact ⟨[], rfl, fun _ h => by cases h⟩
    | cons c rows ih =>
      obtain ⟨l, e, hl⟩ := ih (fun c' hc' => h2 c' (List.mem_cons_of_mem _ hc')) (fun c' hc' => h4 c' (List.mem_cons_of_mem _ hc'))
      obtain ⟨fuel, y, hy⟩ := h4 c (by simp)
      obtain ⟨x, hx, hg⟩ := rd_sm (h2 c (by simp)) hy
      refine ⟨x :: l, by rw [List.map_cons, ← hx, ← e], fun z hz => ?_⟩
      rcases List.mem_cons.1 hz with rfl | hz
      · exact hg
      · exact hl z hz
  obtain ⟨l, rfl, hg⟩ := hl
  exact ⟨a, n, cap, l, rfl, by simpa using h1, h3, hg⟩
end Go.Proofs.Ytnknhedhoibepaa
