/-
  How a triangle reads that came in, and one by small numbers.
-/
import Derived.Test.YtmholpploaecgaaRows
import Derived.Test.YtmholpploaecgaaOpenS
import Derived.Test.YtmholpploaecgaaRecLaw
namespace Go.Proofs.Ytmholpploaecgaa
open Go.ChangeShapes Go.WideShapes Go.ChangeAt Go.RowKit

def IsK (k : IntKind) (v : Value) : Prop := ∃ n, v = .int k n ∧ (Lit.int k n).wf = true
section
variable {H : Type} {enc : TypeId × Value → H} {P : Program} {W : World} {base : Nat} {spare : Nat → Bool} {held : Bool}
theorem all_int {t : TypeId} {k : IntKind} {fuel : Nat} {cs : List Value} {x : DataW H × List MemPlace} (ht : P.underlying t = some (.int k)) (h : DataW.trod enc P W base spare held fuel t cs = some x) : ∀ v ∈ cs, IsK k v := by
  obtain ⟨n, rfl, _, hw⟩ := DataW.trod_int ht h
  intro v hv
  rw [List.mem_singleton] at hv
  exact ⟨n, hv, hw⟩
theorem all_arr {t e : TypeId} {k : IntKind} {n m : Nat} {fuel : Nat} {cs : List Value} {x : DataW H × List MemPlace} (ht : P.underlying t = some (.array n e)) (hm : P.cellsOf e = m) (hm0 : 0 < m) (hc : P.cellsOf t = n * m)
    (he : ∀ (f : Nat) (c : List Value) (y : DataW H × List MemPlace), DataW.trod enc P W base spare held f e c = some y → ∀ v ∈ c, IsK k v) (h : DataW.trod enc P W base spare held fuel t cs = some x) : ∀ v ∈ cs, IsK k v := by
  obtain ⟨xs, f, _, _, hl, hx, hf⟩ := DataW.trod_array ht h
  intro v hv
  obtain ⟨j, hj, rfl⟩ := List.getElem_of_mem hv
  rw [hl, hc] at hj
  have hi : j / m < n := by rw [Nat.div_lt_iff_lt_mul hm0]; exact hj
  have h1 := hf (j / m) hi
  obtain ⟨y, hy⟩ : ∃ y, xs[j / m]? = some y := ⟨_, List.getElem?_eq_getElem (by omega)⟩
  rw [hy, hm] at h1
  refine he _ _ _ h1 _ ?_
  have hmod := Nat.mod_lt j hm0
  have hdm := Nat.div_add_mod j m
  have hdm2 : j / m * m + j % m = j := by rw [Nat.mul_comm]; exact hdm
  refine List.mem_of_getElem? (i := j % m) ?_
  rw [List.getElem?_take_of_lt hmod, List.getElem?_drop, hdm2]
  exact List.getElem?_eq_getElem _
end
/-- Small numbers of a triangle. -/
structure SmallR where
  p : Nat → Int
def SmallR.val (x : SmallR) : Value := .agg (smRow x.p)
def SmallR.good (x : SmallR) : Prop := SmOk x.p
theorem rd_small0 {H : Type} {enc : TypeId × Value → H} {W : World} {fuel : Nat} {cs : List Value} {y : DataW H × List MemPlace} (hl : cs.length = 25)
    (h : DataW.trod enc Try.prog W 0 (fun _ => true) true fuel 31 cs = some y) : ∃ x : SmallR, cs = (smRow x.p).toList ∧ x.good := by
  obtain ⟨xs, n, _, _, _, hx, hfs⟩ := DataW.trod_struct Try.underlying31 h
  match xs, hx with
  | [y0, y1, y2, y3, y4], _ =>
    have f0 := hfs 0 _ rfl
    have f1 := hfs 1 _ rfl
    have f2 := hfs 2 _ rfl
    have f3 := hfs 3 _ rfl
    have f4 := hfs 4 _ rfl
    have g0 : ∀ v ∈ (cs.drop 0).take (Try.prog.cellsOf 25), IsK .i8 v := all_arr (k := .i8) (m := 2) Try.underlying25 (by kernel_rfl) (by decide) (by kernel_rfl) (fun f c y h => all_arr (m := 1) Try.underlying23 (by kernel_rfl) (by decide) (by kernel_rfl) (fun f c y h => all_int Try.underlying22 h) h) f0
    have g1 : ∀ v ∈ (cs.drop 6).take (Try.prog.cellsOf 27), IsK .u16 v := all_arr (k := .u16) (m := 1) Try.underlying27 (by kernel_rfl) (by decide) (by kernel_rfl) (fun f c y h => all_int Try.underlying26 h) f1
    have g2 : ∀ v ∈ (cs.drop 9).take (Try.prog.cellsOf 27), IsK .u16 v := all_arr (k := .u16) (m := 1) Try.underlying27 (by kernel_rfl) (by decide) (by kernel_rfl) (fun f c y h => all_int Try.underlying26 h) f2
    have g3 : ∀ v ∈ (cs.drop 12).take (Try.prog.cellsOf 29), IsK .u16 v := all_arr (k := .u16) (m := 4) Try.underlying29 (by kernel_rfl) (by decide) (by kernel_rfl) (fun f c y h => all_arr (m := 1) Try.underlying28 (by kernel_rfl) (by decide) (by kernel_rfl) (fun f c y h => all_int Try.underlying26 h) h) f3
    have g4 : ∀ v ∈ (cs.drop 24).take (Try.prog.cellsOf 5), IsK .u8 v := all_int Try.underlying5 f4
    rw [show Try.prog.cellsOf 25 = 6 by kernel_rfl] at g0
    rw [show Try.prog.cellsOf 27 = 3 by kernel_rfl] at g1 g2
    rw [show Try.prog.cellsOf 29 = 12 by kernel_rfl] at g3
    rw [show Try.prog.cellsOf 5 = 1 by kernel_rfl] at g4
    clear f0 f1 f2 f3 f4 hfs h
    match cs, hl with
    | [c0, c1, c2, c3, c4, c5, c6, c7, c8, c9, c10, c11, c12, c13, c14, c15, c16, c17, c18, c19, c20, c21, c22, c23, c24], _ =>
      obtain ⟨n0, rfl, w0⟩ := g0 c0 (by simp)
      obtain ⟨n1, rfl, w1⟩ := g0 c1 (by simp)
      obtain ⟨n2, rfl, w2⟩ := g0 c2 (by simp)
      obtain ⟨n3, rfl, w3⟩ := g0 c3 (by simp)
      obtain ⟨n4, rfl, w4⟩ := g0 c4 (by simp)
      obtain ⟨n5, rfl, w5⟩ := g0 c5 (by simp)
      obtain ⟨n6, rfl, w6⟩ := g1 c6 (by simp)
      obtain ⟨n7, rfl, w7⟩ := g1 c7 (by simp)
      obtain ⟨n8, rfl, w8⟩ := g1 c8 (by simp)
      obtain ⟨n9, rfl, w9⟩ := g2 c9 (by simp)
      obtain ⟨n10, rfl, w10⟩ := g2 c10 (by simp)
      obtain ⟨n11, rfl, w11⟩ := g2 c11 (by simp)
      obtain ⟨n12, rfl, w12⟩ := g3 c12 (by simp)
      obtain ⟨n13, rfl, w13⟩ := g3 c13 (by simp)
      obtain ⟨n14, rfl, w14⟩ := g3 c14 (by simp)
      obtain ⟨n15, rfl, w15⟩ := g3 c15 (by simp)
      obtain ⟨n16, rfl, w16⟩ := g3 c16 (by simp)
      obtain ⟨n17, rfl, w17⟩ := g3 c17 (by simp)
      obtain ⟨n18, rfl, w18⟩ := g3 c18 (by simp)
      obtain ⟨n19, rfl, w19⟩ := g3 c19 (by simp)
      obtain ⟨n20, rfl, w20⟩ := g3 c20 (by simp)
      obtain ⟨n21, rfl, w21⟩ := g3 c21 (by simp)
      obtain ⟨n22, rfl, w22⟩ := g3 c22 (by simp)
      obtain ⟨n23, rfl, w23⟩ := g3 c23 (by simp)
      obtain ⟨n24, rfl, w24⟩ := g4 c24 (by simp)
      refine ⟨⟨fun j => [n0, n1, n2, n3, n4, n5, n6, n7, n8, n9, n10, n11, n12, n13, n14, n15, n16, n17, n18, n19, n20, n21, n22, n23, n24][j]?.getD 0⟩, rfl, ⟨?_, ?_, ?_⟩⟩
      · intro j hj
        match j, hj with
        | 0, _ => exact bounds_i8 w0
        | 1, _ => exact bounds_i8 w1
        | 2, _ => exact bounds_i8 w2
        | 3, _ => exact bounds_i8 w3
        | 4, _ => exact bounds_i8 w4
        | 5, _ => exact bounds_i8 w5
        | j + 6, hj => omega
      · intro j h6 hj
        match j, h6, hj with
        | 0, h, _ => omega
        | 1, h, _ => omega
        | 2, h, _ => omega
        | 3, h, _ => omega
        | 4, h, _ => omega
        | 5, h, _ => omega
        | 6, _, _ => exact bounds_u16 w6
        | 7, _, _ => exact bounds_u16 w7
        | 8, _, _ => exact bounds_u16 w8
        | 9, _, _ => exact bounds_u16 w9
        | 10, _, _ => exact bounds_u16 w10
        | 11, _, _ => exact bounds_u16 w11
        | 12, _, _ => exact bounds_u16 w12
        | 13, _, _ => exact bounds_u16 w13
        | 14, _, _ => exact bounds_u16 w14
        | 15, _, _ => exact bounds_u16 w15
        | 16, _, _ => exact bounds_u16 w16
        | 17, _, _ => exact bounds_u16 w17
        | 18, _, _ => exact bounds_u16 w18
        | 19, _, _ => exact bounds_u16 w19
        | 20, _, _ => exact bounds_u16 w20
        | 21, _, _ => exact bounds_u16 w21
        | 22, _, _ => exact bounds_u16 w22
        | 23, _, _ => exact bounds_u16 w23
        | j + 24, _, hj => omega
      · exact bounds_u8 w24
theorem rd_small {H : Type} {enc : TypeId × Value → H} {W : World} {base : Nat} {v : Value} {d : DataW H} {p : List MemPlace} {r : Reach}
    (hok : Value.okWide Try.prog W r base 31 v) (h : DataW.Trod enc Try.prog W 0 (fun _ => true) true 31 v d p) : ∃ x : SmallR, v = x.val ∧ x.good := by
  obtain ⟨cs, rfl, hcs⟩ := okWide_struct Try.underlying31 hok
  obtain ⟨fuel, hf⟩ := h
  obtain ⟨x, hx, hg⟩ := rd_small0 (cs := cs.toList) (by simpa using hcs.trans (show Try.prog.cellsOf 31 = 25 by kernel_rfl)) hf
  refine ⟨x, ?_, hg⟩
  show Value.agg cs = .agg (smRow x.p)
  congr 1
  exact Array.toList_inj.1 hx
/-- Any triangle's numbers. -/
structure TriR where
  x : Nat → Int
def TriR.val (x : TriR) : Value := .agg (triRow x.x)
def TriR.good (x : TriR) : Prop := ∀ n, n < 24 → -9223372036854775808 ≤ x.x n ∧ x.x n ≤ 9223372036854775807
theorem rd_tri {H : Type} {enc : TypeId × Value → H} {W : World} {base : Nat} {v : Value} {d : DataW H} {p : List MemPlace} {r : Reach}
    (hok : Value.okWide Try.prog W r base 41 v) (h : DataW.Trod enc Try.prog W 0 (fun _ => true) true 41 v d p) : ∃ x : TriR, v = x.val ∧ x.good := by
  obtain ⟨cs, rfl, hcs⟩ := okWide_struct Try.underlying41 hok
  obtain ⟨fuel, h⟩ := h
  have hl : cs.toList.length = 24 := by simpa using hcs.trans (show Try.prog.cellsOf 41 = 24 by kernel_rfl)
  obtain ⟨l, hl3⟩ : ∃ l, cs.toList = l := ⟨_, rfl⟩
  have e : cs = l.toArray := by rw [← hl3]
  subst e
  clear hl3 hcs hok
  obtain ⟨xs, n, _, _, _, hx, hfs⟩ := DataW.trod_struct Try.underlying41 h
  match xs, hx with
  | [y0, y1, y2, y3], _ =>
    have f0 := hfs 0 _ rfl
    have f1 := hfs 1 _ rfl
    have f2 := hfs 2 _ rfl
    have f3 := hfs 3 _ rfl
    have g0 : ∀ v ∈ (l.drop 0).take (Try.prog.cellsOf 35), IsK .i64 v := all_arr (k := .i64) (m := 2) Try.underlying35 (by kernel_rfl) (by decide) (by kernel_rfl) (fun f c y h => (by
      obtain ⟨zs, n2, _, _, hl2, hx2, hf2⟩ := DataW.trod_struct Try.underlying33 h
      match zs, hx2 with
      | [z0, z1], _ =>
        have q0 : ∀ v ∈ (c.drop 0).take (Try.prog.cellsOf 3), IsK .i64 v := all_int Try.underlying3 (hf2 0 _ rfl)
        have q1 : ∀ v ∈ (c.drop 1).take (Try.prog.cellsOf 3), IsK .i64 v := all_int Try.underlying3 (hf2 1 _ rfl)
        rw [show Try.prog.cellsOf 3 = 1 by kernel_rfl] at q0 q1
        rw [show Try.prog.cellsOf 33 = 2 by kernel_rfl] at hl2
        match c, hl2 with
        | [c0, c1], _ =>
          intro v hv
          simp only [List.mem_cons, List.not_mem_nil, or_false] at hv
          rcases hv with rfl | rfl
          · exact q0 _ (by simp)
          · exact q1 _ (by simp))) f0
    have g1 : ∀ v ∈ (l.drop 6).take (Try.prog.cellsOf 36), IsK .i64 v := all_arr (k := .i64) (m := 1) Try.underlying36 (by kernel_rfl) (by decide) (by kernel_rfl) (fun f c y h => all_int Try.underlying3 h) f1
    have g2 : ∀ v ∈ (l.drop 9).take (Try.prog.cellsOf 36), IsK .i64 v := all_arr (k := .i64) (m := 1) Try.underlying36 (by kernel_rfl) (by decide) (by kernel_rfl) (fun f c y h => all_int Try.underlying3 h) f2
    have g3 : ∀ v ∈ (l.drop 12).take (Try.prog.cellsOf 39), IsK .i64 v := all_arr (k := .i64) (m := 4) Try.underlying39 (by kernel_rfl) (by decide) (by kernel_rfl) (fun f c y h => all_arr (m := 1) Try.underlying38 (by kernel_rfl) (by decide) (by kernel_rfl) (fun f c y h => all_int Try.underlying3 h) h) f3
    rw [show Try.prog.cellsOf 35 = 6 by kernel_rfl] at g0
    rw [show Try.prog.cellsOf 36 = 3 by kernel_rfl] at g1 g2
    rw [show Try.prog.cellsOf 39 = 12 by kernel_rfl] at g3
    clear f0 f1 f2 f3 hfs h
    match l, hl with
    | [c0, c1, c2, c3, c4, c5, c6, c7, c8, c9, c10, c11, c12, c13, c14, c15, c16, c17, c18, c19, c20, c21, c22, c23], _ =>
      obtain ⟨n0, rfl, w0⟩ := g0 c0 (by simp)
      obtain ⟨n1, rfl, w1⟩ := g0 c1 (by simp)
      obtain ⟨n2, rfl, w2⟩ := g0 c2 (by simp)
      obtain ⟨n3, rfl, w3⟩ := g0 c3 (by simp)
      obtain ⟨n4, rfl, w4⟩ := g0 c4 (by simp)
      obtain ⟨n5, rfl, w5⟩ := g0 c5 (by simp)
      obtain ⟨n6, rfl, w6⟩ := g1 c6 (by simp)
      obtain ⟨n7, rfl, w7⟩ := g1 c7 (by simp)
      obtain ⟨n8, rfl, w8⟩ := g1 c8 (by simp)
      obtain ⟨n9, rfl, w9⟩ := g2 c9 (by simp)
      obtain ⟨n10, rfl, w10⟩ := g2 c10 (by simp)
      obtain ⟨n11, rfl, w11⟩ := g2 c11 (by simp)
      obtain ⟨n12, rfl, w12⟩ := g3 c12 (by simp)
      obtain ⟨n13, rfl, w13⟩ := g3 c13 (by simp)
      obtain ⟨n14, rfl, w14⟩ := g3 c14 (by simp)
      obtain ⟨n15, rfl, w15⟩ := g3 c15 (by simp)
      obtain ⟨n16, rfl, w16⟩ := g3 c16 (by simp)
      obtain ⟨n17, rfl, w17⟩ := g3 c17 (by simp)
      obtain ⟨n18, rfl, w18⟩ := g3 c18 (by simp)
      obtain ⟨n19, rfl, w19⟩ := g3 c19 (by simp)
      obtain ⟨n20, rfl, w20⟩ := g3 c20 (by simp)
      obtain ⟨n21, rfl, w21⟩ := g3 c21 (by simp)
      obtain ⟨n22, rfl, w22⟩ := g3 c22 (by simp)
      obtain ⟨n23, rfl, w23⟩ := g3 c23 (by simp)
      refine ⟨⟨fun j => [n0, n1, n2, n3, n4, n5, n6, n7, n8, n9, n10, n11, n12, n13, n14, n15, n16, n17, n18, n19, n20, n21, n22, n23][j]?.getD 0⟩, rfl, ?_⟩
      intro j hj
      match j, hj with
      | 0, _ => exact bounds_i64 w0
      | 1, _ => exact bounds_i64 w1
      | 2, _ => exact bounds_i64 w2
      | 3, _ => exact bounds_i64 w3
      | 4, _ => exact bounds_i64 w4
      | 5, _ => exact bounds_i64 w5
      | 6, _ => exact bounds_i64 w6
      | 7, _ => exact bounds_i64 w7
      | 8, _ => exact bounds_i64 w8
      | 9, _ => exact bounds_i64 w9
      | 10, _ => exact bounds_i64 w10
      | 11, _ => exact bounds_i64 w11
      | 12, _ => exact bounds_i64 w12
      | 13, _ => exact bounds_i64 w13
      | 14, _ => exact bounds_i64 w14
      | 15, _ => exact bounds_i64 w15
      | 16, _ => exact bounds_i64 w16
      | 17, _ => exact bounds_i64 w17
      | 18, _ => exact bounds_i64 w18
      | 19, _ => exact bounds_i64 w19
      | 20, _ => exact bounds_i64 w20
      | 21, _ => exact bounds_i64 w21
      | 22, _ => exact bounds_i64 w22
      | 23, _ => exact bounds_i64 w23
      | j + 24, hj => omega
end Go.Proofs.Ytmholpploaecgaa
