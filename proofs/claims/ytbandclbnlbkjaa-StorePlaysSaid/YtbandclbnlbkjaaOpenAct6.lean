/-
  How chapter 6's acts and bends read.
-/
import Derived.Test.YtbandclbnlbkjaaRows
import Derived.Test.YtbandclbnlbkjaaOpenS
import Derived.Test.YtbandclbnlbkjaaOpenBend
namespace Go.Proofs.Ytbandclbnlbkjaa
open Go.ChangeShapes Go.WideShapes Go.ChangeAt Go.RowKit

structure ActR where
  kind : Int
  num : Int
  seed : Int
  long : Bool
def ActR.cells (x : ActR) : List Value := [.int .u8 x.kind, .int .u8 x.num, .int .u8 x.seed, .bool x.long]
def ActR.good (_ : World) (x : ActR) : Prop := (Lit.int .u8 x.kind).wf = true ∧ (Lit.int .u8 x.num).wf = true ∧ (Lit.int .u8 x.seed).wf = true
def Acts (W : World) (a : Option Addr) (n cap : Nat) (l : List ActR) : Prop := l.length = n ∧ Sl W a n cap 4 (l.map ActR.cells).flatten ∧ ∀ x ∈ l, x.good W

theorem rd_act {H : Type} {enc : TypeId × Value → H} {W : World} {fuel : Nat} {c : List Value} {y : DataW H × List MemPlace} (hc : c.length = 4) (h : DataW.trod enc Try.prog W 0 (fun _ => true) true fuel 46 c = some y) : ∃ x : ActR, c = x.cells ∧ x.good W := by
  obtain ⟨xs, n, _, _, _, hx, hf⟩ := DataW.trod_struct Try.underlying46 h
  match xs, hx with
  | [y0, y1, y2, y3], _ =>
    have f0 := hf 0 _ rfl
    have f1 := hf 1 _ rfl
    have f2 := hf 2 _ rfl
    have f3 := hf 3 _ rfl
    match c, hc with
    | [c0, c1, c2, c3], _ =>
      obtain ⟨n0, e0, _, w0⟩ := DataW.trod_int Try.underlying5 f0
      obtain ⟨n1, e1, _, w1⟩ := DataW.trod_int Try.underlying5 f1
      obtain ⟨n2, e2, _, w2⟩ := DataW.trod_int Try.underlying5 f2
      obtain ⟨n3, e3, _⟩ := DataW.trod_bool Try.underlying4 f3
      have r0 : c0 = .int .u8 n0 := by have : [c0] = [Value.int .u8 n0] := e0; simpa using this
      have r1 : c1 = .int .u8 n1 := by have : [c1] = [Value.int .u8 n1] := e1; simpa using this
      have r2 : c2 = .int .u8 n2 := by have : [c2] = [Value.int .u8 n2] := e2; simpa using this
      have r3 : c3 = .bool n3 := by have : [c3] = [Value.bool n3] := e3; simpa using this
      subst r0 r1 r2 r3
      exact ⟨⟨n0, n1, n2, n3⟩, rfl, w0, w1, w2⟩
theorem rd_acts {H : Type} {enc : TypeId × Value → H} {W : World} {base : Nat} {v : Value} {d : DataW H} {p : List MemPlace} {r : Reach}
    (hok : Value.okWide Try.prog W r base 43 v) (h : DataW.Trod enc Try.prog W 0 (fun _ => true) true 43 v d p) :
    ∃ a n cap, ∃ l : List ActR, v = .slice a n cap ∧ Acts W a n cap l := by
  obtain ⟨a, n, cap, rows, rfl, h1, h2, h3, h4⟩ := rd_slice 4 Try.underlying43 (by kernel_rfl) (by decide) hok h
  have hl : ∃ l : List ActR, rows = l.map ActR.cells ∧ ∀ x ∈ l, x.good W := by
    clear h1 h3
    induction rows with
    | nil => exact ⟨[], rfl, fun _ h => by cases h⟩
    | cons c rows ih =>
      obtain ⟨l, e, hl⟩ := ih (fun c' hc' => h2 c' (List.mem_cons_of_mem _ hc')) (fun c' hc' => h4 c' (List.mem_cons_of_mem _ hc'))
      obtain ⟨fuel, y, hy⟩ := h4 c (by simp)
      obtain ⟨x, hx, hg⟩ := rd_act (h2 c (by simp)) hy
      refine ⟨x :: l, by rw [List.map_cons, ← hx, ← e], fun z hz => ?_⟩
      rcases List.mem_cons.1 hz with rfl | hz
      · exact hg
      · exact hl z hz
  obtain ⟨l, rfl, hg⟩ := hl
  exact ⟨a, n, cap, l, rfl, by simpa using h1, h3, hg⟩
def BendR.cells (x : BendR) : List Value := [.int .i64 x.from_, .int .u32 x.mask]
def Bends (W : World) (a : Option Addr) (n cap : Nat) (l : List BendR) : Prop := l.length = n ∧ Sl W a n cap 2 (l.map BendR.cells).flatten ∧ ∀ x ∈ l, x.good
theorem rd_bend0 {H : Type} {enc : TypeId × Value → H} {W : World} {fuel : Nat} {c : List Value} {y : DataW H × List MemPlace} (hc : c.length = 2) (h : DataW.trod enc Try.prog W 0 (fun _ => true) true fuel 25 c = some y) : ∃ x : BendR, c = x.cells ∧ x.good := by
  obtain ⟨xs, n, _, _, _, hx, hf⟩ := DataW.trod_struct Try.underlying25 h
  match xs, hx with
  | [y0, y1], _ =>
    have f0 := hf 0 _ rfl
    have f1 := hf 1 _ rfl
    match c, hc with
    | [c0, c1], _ =>
      obtain ⟨n0, e0, _, w0⟩ := DataW.trod_int Try.underlying3 f0
      obtain ⟨n1, e1, _, w1⟩ := DataW.trod_int Try.underlying23 f1
      have r0 : c0 = .int .i64 n0 := by have : [c0] = [Value.int .i64 n0] := e0; simpa using this
      have r1 : c1 = .int .u32 n1 := by have : [c1] = [Value.int .u32 n1] := e1; simpa using this
      subst r0 r1
      exact ⟨⟨n0, n1⟩, rfl, w0, w1⟩
theorem rd_bends {H : Type} {enc : TypeId × Value → H} {W : World} {base : Nat} {v : Value} {d : DataW H} {p : List MemPlace} {r : Reach}
    (hok : Value.okWide Try.prog W r base 42 v) (h : DataW.Trod enc Try.prog W 0 (fun _ => true) true 42 v d p) :
    ∃ a n cap, ∃ l : List BendR, v = .slice a n cap ∧ Bends W a n cap l := by
  obtain ⟨a, n, cap, rows, rfl, h1, h2, h3, h4⟩ := rd_slice 2 Try.underlying42 (by kernel_rfl) (by decide) hok h
  have hl : ∃ l : List BendR, rows = l.map BendR.cells ∧ ∀ x ∈ l, x.good := by
    clear h1 h3
    induction rows with
    | nil => exact ⟨[], rfl, fun _ h => by cases h⟩
    | cons c rows ih =>
      obtain ⟨l, e, hl⟩ := ih (fun c' hc' => h2 c' (List.mem_cons_of_mem _ hc')) (fun c' hc' => h4 c' (List.mem_cons_of_mem _ hc'))
      obtain ⟨fuel, y, hy⟩ := h4 c (by simp)
      obtain ⟨x, hx, hg⟩ := rd_bend0 (h2 c (by simp)) hy
      refine ⟨x :: l, by rw [List.map_cons, ← hx, ← e], fun z hz => ?_⟩
      rcases List.mem_cons.1 hz with rfl | hz
      · exact hg
      · exact hl z hz
  obtain ⟨l, rfl, hg⟩ := hl
  exact ⟨a, n, cap, l, rfl, by simpa using h1, h3, hg⟩
end Go.Proofs.Ytbandclbnlbkjaa
