/-
  How a Bend reads that came in.
-/
import Derived.Test.YtakobldhjndeiaaRows
import Derived.Test.YtakobldhjndeiaaOpenS
namespace Go.Proofs.Ytakobldhjndeiaa
open Go.ChangeShapes Go.WideShapes Go.ChangeAt Go.RowKit

structure BendR where
  from_ : Int
  mask : Int
def BendR.val (x : BendR) : Value := .agg #[.int .i64 x.from_, .int .u32 x.mask]
def BendR.good (x : BendR) : Prop := (Lit.int .i64 x.from_).wf = true ∧ (Lit.int .u32 x.mask).wf = true
theorem rd_bend {H : Type} {enc : TypeId × Value → H} {W : World} {base : Nat} {v : Value} {d : DataW H} {p : List MemPlace} {r : Reach}
    (hok : Value.okWide Try.prog W r base 49 v) (h : DataW.Trod enc Try.prog W 0 (fun _ => true) true 49 v d p) : ∃ x : BendR, v = x.val ∧ x.good := by
  obtain ⟨cs, rfl, hcs⟩ := okWide_struct Try.underlying49 hok
  obtain ⟨fuel, hf⟩ := h
  obtain ⟨xs, n, _, _, hl, hx, hfs⟩ := DataW.trod_struct Try.underlying49 hf
  have hl2 : cs.toList.length = 2 := hl
  match xs, hx with
  | [y0, y1], _ =>
    have f0 := hfs 0 _ rfl
    have f1 := hfs 1 _ rfl
    obtain ⟨l, hl3⟩ : ∃ l, cs.toList = l := ⟨_, rfl⟩
    have e : cs = l.toArray := by rw [← hl3]
    subst e
    match l, hl2 with
    | [c0, c1], _ =>
      obtain ⟨n0, e0, _, w0⟩ := DataW.trod_int Try.underlying3 f0
      obtain ⟨n1, e1, _, w1⟩ := DataW.trod_int Try.underlying47 f1
      have r0 : c0 = .int .i64 n0 := by have : [c0] = [Value.int .i64 n0] := e0; simpa using this
      have r1 : c1 = .int .u32 n1 := by have : [c1] = [Value.int .u32 n1] := e1; simpa using this
      subst r0 r1
      exact ⟨⟨n0, n1⟩, rfl, w0, w1⟩
end Go.Proofs.Ytakobldhjndeiaa
