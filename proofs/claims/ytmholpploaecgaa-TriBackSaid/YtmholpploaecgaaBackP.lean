/-
  Records one behind the other: a slice of them, their bytes in a writer and in a slice; how long one is.
-/
import Derived.Test.YtmholpploaecgaaLawBytes
import Derived.Test.YtmholpploaecgaaRecPlain
import Derived.Test.YtmholpploaecgaaOpenTri
import Derived.Test.YtmholpploaecgaaRecsOwn
import Derived.Test.YtmholpploaecgaaHeldG
import Derived.Test.YtmholpploaecgaaStr
import Derived.Test.YtmholpploaecgaaRowG
import Derived.Test.YtmholpploaecgaaHeldVal
namespace Go.Proofs.Ytmholpploaecgaa
open Go.RowKit Go.ChangeShapes Go.WideShapes Go.ChangeAt
set_option linter.unusedVariables false
set_option linter.unusedSimpArgs false

theorem Sl.fr2 {S : List Nat} {w w' : World} {a : Option Addr} {n cap size : Nat} {xs : List Value} (h : Sl w a n cap size xs) (hf : Fr S w w') (hn : xs ≠ [] → ∀ p, a = some p → p.block ∉ S) : Sl w' a n cap size xs :=
  ⟨h.len, h.le, h.max, h.nil, fun hx => by
    obtain ⟨b, off, h1, h2, h3⟩ := h.row hx
    refine ⟨b, off, h1, Nat.lt_of_lt_of_le h2 hf.size, fun i hi => ?_⟩
    have := h3 i hi
    unfold World.cell? at this ⊢
    rw [hf.block b h2 (hn hx _ h1)]; exact this⟩
theorem Sl.lt {w : World} {a : Option Addr} {n cap size : Nat} {xs : List Value} (h : Sl w a n cap size xs) (hx : xs ≠ []) (p : Addr) (hp : a = some p) : p.block < w.heap.size := by
  obtain ⟨b, off, h1, h2, _⟩ := h.row hx
  rw [h1] at hp
  cases hp
  exact h2
theorem OwnB.read {w : World} {B n cap : Nat} {a : Option Addr} {bs : List UInt8} (h : OwnB w B (.slice a n cap) bs) : Bytes w a n cap bs := by
  obtain ⟨a', c', e, hb⟩ := h.bytes
  simp only [Value.slice.injEq] at e
  obtain ⟨rfl, rfl, rfl⟩ := e
  exact hb
theorem lawbytes_calls (a : Int) (s : Bool) (x : Nat → Int) (hc : chkRec a s x = 0) (w : World) :
    Calls Try.prog 14 #[.agg (recRow a s x)] w fun e w' => ∃ v, e = .returned v ∧ OwnB w' w.heap.size v (recBytes a s x) ∧ Below w.heap.size w w' := by
  cases s with
  | false => exact lawbytes_none a x hc w
  | true => exact lawbytes_tri a x hc w

section
variable {P : Program} {ops : Array Oper} {rest : List Oper} {o : Oper} {a : Act} {w : World} {Q : Exit → Act → World → Prop} {md : Region.Mode} {Sx : World → Prop}
theorem wpList_valW (hgd : o.guard = none) (dst : Option Tmp) (hd : o.dst = dst) (v : Value) (w' : World) (hr : (execOp a.eval o).run P w = .ok (.value v) w') (h : wpList P ops Q rest (a.put dst v) w') : wpList P ops Q (o :: rest) a w :=
  wpList_plain hgd fun K hK => by
    subst hd
    unfold Oper.wp
    rw [hr]
    exact hK _ _ h
theorem held_two {i j : Nat} {fuel : Nat} {listed : Array Bool} (hr : Region.ready md ops listed = [i, j])
    (hi : wpOp P ops Q i (fun a' w' => Sx w' ∧ wpAnyH P md ops Q Sx fuel (listed.setIfInBounds i true) a' w') a w)
    (hj : wpOp P ops Q j (fun a' w' => Sx w' ∧ wpAnyH P md ops Q Sx fuel (listed.setIfInBounds j true) a' w') a w) : wpAnyH P md ops Q Sx (fuel + 1) listed a w :=
  wpAnyH_all hr (by simp) (fun k hk => by
    rcases List.mem_cons.1 hk with rfl | hk
    · exact hi
    · obtain rfl := List.mem_singleton.1 hk
      exact hj)
theorem wpOp_call {K : Act → World → Prop} {i : Nat} (hi : ops[i]? = some o) (hw : Region.wanted o (yielded ops a.tmps) = true) (dst : Option Tmp) (hdst : o.dst = dst)
    (f : FuncId) (args : Array Value) (hrun : (execOp a.eval o).run P w = .ok (.enter f args) w) (R : Value → World → Prop) (hc : Calls P f args w fun e w'' => ∃ v, e = .returned v ∧ R v w'')
    (h : ∀ v w'', R v w'' → K (a.put dst v) w'') : wpOp P ops Q i K a w := by
  subst hdst
  refine wpOp_step hi (fun K' hK => ?_)
  rw [if_pos hw]
  unfold Oper.wp
  rw [hrun, Oper.upon_enter]
  refine hc.mono fun e w'' hh => ?_
  obtain ⟨v, rfl, hR⟩ := hh
  exact hK _ _ (h _ _ hR)
theorem wpOp_val {K : Act → World → Prop} {i : Nat} (hi : ops[i]? = some o) (hw : Region.wanted o (yielded ops a.tmps) = true) (dst : Option Tmp) (hdst : o.dst = dst)
    (v : Value) (w' : World) (hrun : (execOp a.eval o).run P w = .ok (.value v) w') (h : K (a.put dst v) w') : wpOp P ops Q i K a w := by
  subst hdst
  refine wpOp_step hi (fun K' hK => ?_)
  rw [if_pos hw]
  unfold Oper.wp
  rw [hrun]
  exact hK _ _ h
end

theorem run_execOp_bin {P : Program} {a : Act} {o : Oper} {w : World} {op : BinOp} {t t' : TypeId} {x y : Operand} {v : Value} (ho : o.op = .binOp op t x y t') (hg : (eqGuard op t x y (a.eval x) (a.eval y)).run P w = .ok () w) (h : (binOp op t (a.eval x) (a.eval y)).run P w = .ok v w) : (execOp a.eval o).run P w = .ok (.value v) w := by
  unfold execOp
  simp only [ho, Sem.run_bind, hg, h, Result.andThen_ok, Sem.run_pure]

/-- One record. -/
structure RecT where
  a : Int
  s : Bool
  x : Nat → Int
def RecT.row (r : RecT) : Array Value := recRow r.a r.s r.x
def RecT.cells (r : RecT) : List Value := r.row.toList
def RecT.bytes (r : RecT) : List UInt8 := recBytes r.a r.s r.x
def RecT.ok (r : RecT) : Prop := chkRec r.a r.s r.x = 0
def flatR (rs : List RecT) : List UInt8 := rs.flatMap RecT.bytes
theorem rec_sz (r : RecT) : r.cells.length = 26 := rfl
theorem rec_one (r : RecT) : ∀ u ∈ r.cells, u.oneCell' = true := fun u hu => (Array.all_eq_true_iff_forall_mem.1 (recRow_one r.a r.s r.x)) u (by simpa [RecT.cells, RecT.row] using hu)
theorem Try.elRec : El Try.prog 58 44 (.agg (recRow 0 false (fun _ => 0))) 26 208 := ⟨Try.underlying58, by kernel_rfl, rfl, by decide⟩

theorem rec_len {r : RecT} (hc : r.ok) : 0 < r.bytes.length ∧ r.bytes.length ≤ 100 := by
  obtain ⟨a, s, x⟩ := r
  unfold RecT.ok RecT.bytes at *
  simp only at *
  obtain ⟨ha, ht, _⟩ := chkRec_ok hc
  cases s with
  | false =>
    have e : (encN (2 * a).toNat).length = 1 := enc1 (by omega)
    show 0 < (encN (2 * a).toNat).length ∧ (encN (2 * a).toNat).length ≤ 100
    rw [e]; decide
  | true =>
    have e : (encN (2 * a + 1).toNat).length = 1 := enc1 (by omega)
    have e2 := tri_len (ht rfl) 3 (Nat.le_refl _)
    show 0 < (encN (2 * a + 1).toNat ++ triBytes x 3).length ∧ (encN (2 * a + 1).toNat ++ triBytes x 3).length ≤ 100
    rw [List.length_append, e]
    exact ⟨Nat.lt_of_lt_of_le Nat.one_pos (Nat.le_add_right _ _), Nat.le_trans (Nat.add_le_add_left e2 1) (by decide)⟩
theorem flatR_len : ∀ {rs : List RecT}, (∀ r ∈ rs, r.ok) → (flatR rs).length ≤ 100 * rs.length
  | [], _ => by simp [flatR]
  | r :: rs, h => by
    have h1 := rec_len (h r (by simp))
    have h2 := flatR_len (rs := rs) (fun q hq => h q (List.mem_cons_of_mem _ hq))
    unfold flatR at *
    rw [List.flatMap_cons, List.length_append, List.length_cons]
    omega
theorem flatR_snoc (rs : List RecT) (r : RecT) : flatR (rs ++ [r]) = flatR rs ++ r.bytes := by simp [flatR]
theorem flatR_drop (rs : List RecT) (k : Nat) (h : k < rs.length) : (flatR rs).drop (flatR (rs.take k)).length = rs[k].bytes ++ flatR (rs.drop (k + 1)) := by
  conv => lhs; rw [show rs = rs.take k ++ rs.drop k from (List.take_append_drop k rs).symm]
  rw [List.take_append_of_le_length (by simp; omega), List.take_take, Nat.min_self]
  unfold flatR
  rw [List.flatMap_append, List.drop_append, List.drop_of_length_le (Nat.le_refl _), Nat.sub_self, List.drop_zero, List.nil_append, List.drop_eq_getElem_cons h, List.flatMap_cons]
theorem flatR_take (rs : List RecT) (k : Nat) (h : k < rs.length) : (flatR (rs.take (k + 1))).length = (flatR (rs.take k)).length + rs[k].bytes.length := by
  rw [List.take_succ_eq_append_getElem h, flatR_snoc, List.length_append]
/-- Numbers that a small triangle may have: few bytes. -/
theorem num_small {x : Nat → Int} (h : ∀ n, n < 24 → smN n (x n)) {i k : Nat} (hi : i < 3) (hk : k = 0 ∨ k = 1 ∨ k = 3) : -412 ≤ num x i k ∧ num x i k ≤ 1024 := by
  have g := fun n (hn : n < 24) => h n hn
  unfold smN at g
  rcases hk with rfl | rfl | rfl
  · have := g (2 * i) (by omega)
    rw [if_pos (by omega)] at this
    show -412 ≤ x (2 * i) ∧ x (2 * i) ≤ 1024
    omega
  · have := g (2 * i + 1) (by omega)
    rw [if_pos (by omega)] at this
    show -412 ≤ x (2 * i + 1) ∧ x (2 * i + 1) ≤ 1024
    omega
  · have := g (9 + i) (by omega)
    rw [if_neg (by omega), if_neg (by omega), if_pos (by omega)] at this
    show -412 ≤ x (9 + i) ∧ x (9 + i) ≤ 1024
    omega
theorem enc_small {x : Nat → Int} (h : ∀ n, n < 24 → smN n (x n)) {i k : Nat} (hi : i < 3) (hk : k = 0 ∨ k = 1 ∨ k = 3) : (encN (zig (dif x i k))).length ≤ 2 := by
  have h1 := num_small h hi hk
  have h2 : -412 ≤ last x i k ∧ last x i k ≤ 1024 := by
    unfold last
    split
    · omega
    · exact num_small h (by omega) hk
  refine enc2 ?_
  have h3 : -1436 ≤ dif x i k ∧ dif x i k ≤ 1436 := by unfold dif; omega
  unfold zig
  split <;> omega
theorem corner_small {x : Nat → Int} (h : ∀ n, n < 24 → smN n (x n)) (hc : chkTri x = 0) {i : Nat} (hi : i < 3) : (cornerBytes x i 8).length ≤ 21 := by
  have e0 := enc_small h hi (k := 0) (by omega)
  have e1 := enc_small h hi (k := 1) (by omega)
  have e3 := enc_small h hi (k := 3) (by omega)
  have e2 := enc_dif hc hi (show 2 < 8 by omega)
  have e4 := enc_dif hc hi (show 4 < 8 by omega)
  have e5 := enc_dif hc hi (show 5 < 8 by omega)
  have e6 := enc_dif hc hi (show 6 < 8 by omega)
  have e7 := enc_dif hc hi (show 7 < 8 by omega)
  simp only [cornerBytes_succ, List.length_append]
  simp only [cornerBytes, List.range_zero, List.map_nil, List.flatten_nil, List.length_nil]
  omega
theorem rec_small {r : RecT} (hc : r.ok) (h : r.s = true → ∀ n, n < 24 → smN n (r.x n)) : r.bytes.length ≤ 70 := by
  obtain ⟨a, s, x⟩ := r
  unfold RecT.ok RecT.bytes at *
  simp only at *
  obtain ⟨ha, ht, _⟩ := chkRec_ok hc
  cases s with
  | false =>
    have e : (encN (2 * a).toNat).length = 1 := enc1 (by omega)
    show (encN (2 * a).toNat).length ≤ 70
    rw [e]; decide
  | true =>
    have e : (encN (2 * a + 1).toNat).length = 1 := enc1 (by omega)
    have c0 := corner_small (h rfl) (ht rfl) (show 0 < 3 by omega)
    have c1 := corner_small (h rfl) (ht rfl) (show 1 < 3 by omega)
    have c2 := corner_small (h rfl) (ht rfl) (show 2 < 3 by omega)
    show (encN (2 * a + 1).toNat ++ triBytes x 3).length ≤ 70
    have e3 : (triBytes x 3).length = (cornerBytes x 0 8).length + (cornerBytes x 1 8).length + (cornerBytes x 2 8).length := by
      rw [triBytes_succ, triBytes_succ, triBytes_succ]; simp only [List.length_append]; simp [triBytes]
    rw [List.length_append, e, e3]
    omega

/-- A slice of records, their bytes in a writer and in a slice: apart from each other, made by the call. -/
structure Three (w0 w : World) (B g : Nat) (S : List Nat) (vl vw : Value) (ls : List RecT) (bs cs : List UInt8) : Prop where
  wr : Wr w g S bs
  l : OwnL 44 26 RecT.cells w B vl ls
  own : OwnB w B vw cs
  d1 : ∀ x, vl.ownBlock = some x → x ∉ S
  d2 : ∀ x, vw.ownBlock = some x → x ∉ S
  d3 : ∀ x, vl.ownBlock = some x → vw.ownBlock ≠ some x
  far : ∀ k ∈ S, B ≤ k
  below : Below B w0 w
  base : B ≤ w.heap.size
section
variable {w0 w w1 : World} {B g : Nat} {S S1 : List Nat} {vl vw v1 : Value} {ls ls1 : List RecT} {bs cs bs1 cs1 : List UInt8}
theorem Three.keep (h : Three w0 w B g S vl vw ls bs cs) (hb : Below w.heap.size w w1) : Three w0 w1 B g S vl vw ls bs cs :=
  ⟨h.wr.fr (Fr.ofBelow hb) (fun _ _ hm => by cases hm), h.l.keep hb, h.own.keep hb, h.d1, h.d2, h.d3, h.far, h.below.trans (hb.mono h.base), Nat.le_trans h.base hb.size⟩
theorem Three.put (h : Three w0 w B g S vl vw ls bs cs) (hw : Wr w1 g S1 bs1) (hg : Grows S w S1) (hf : Fr S w w1) : Three w0 w1 B g S1 vl vw ls bs1 cs := by
  refine ⟨hw, own_fr h.l hf h.d1, own_fr h.own hf h.d2, ?_, ?_, h.d3, ?_, Fr.below h.below hf h.far h.base, Nat.le_trans h.base hf.size⟩
  · intro x hx hm
    have hl := (World.ownsRow.lt h.l x hx).2
    rcases hg x hm with h1 | h1
    · exact h.d1 x hx h1
    · omega
  · intro x hx hm
    have hl := (World.ownsRow.lt h.own x hx).2
    rcases hg x hm with h1 | h1
    · exact h.d2 x hx h1
    · omega
  · intro k hk
    rcases hg k hk with h1 | h1
    · exact h.far k h1
    · exact Nat.le_trans h.base h1
theorem Three.appL (h : Three w0 w B g S vl vw ls bs cs) (ho : OwnL 44 26 RecT.cells w1 B v1 ls1) (hg : w.grownBy w1 vl.ownBlock) (hl : v1.ownBlock = vl.ownBlock ∨ v1.ownBlock = some w.heap.size) : Three w0 w1 B g S v1 vw ls1 bs cs := by
  have hf : Fr vl.ownBlock.toList w w1 := (Fr.refl _ _).grown hg (fun g hg => .inl (by rw [hg]; simp))
  have hm : ∀ k, k ∈ vl.ownBlock.toList → vl.ownBlock = some k := fun k hk => by
    cases hv : vl.ownBlock with
    | none => rw [hv] at hk; simp at hk
    | some x => rw [hv] at hk; simp at hk; subst hk; rfl
  refine ⟨h.wr.fr hf (fun k hk hk2 => h.d1 k (hm k hk2) hk), ho, own_fr h.own hf (fun g hg hk => h.d3 g (hm g hk) hg), ?_, h.d2, ?_, h.far, below_app h.below h.l hg (Nat.le_refl _) h.base, Nat.le_trans h.base hg.size⟩
  · intro x hx hk
    rcases hl with h1 | h1
    · exact h.d1 x (h1 ▸ hx) hk
    · have := h.wr.lt x hk
      rw [h1] at hx; cases hx; omega
  · intro x hx hk
    rcases hl with h1 | h1
    · exact h.d3 x (h1 ▸ hx) hk
    · have := (World.ownsRow.lt h.own x hk).2
      rw [h1] at hx; cases hx; omega
theorem Three.appW (h : Three w0 w B g S vl vw ls bs cs) (ho : OwnB w1 B v1 cs1) (hg : w.grownBy w1 vw.ownBlock) (hl : v1.ownBlock = vw.ownBlock ∨ v1.ownBlock = some w.heap.size) : Three w0 w1 B g S vl v1 ls bs cs1 := by
  have hf : Fr vw.ownBlock.toList w w1 := (Fr.refl _ _).grown hg (fun g hg => .inl (by rw [hg]; simp))
  have hm : ∀ k, k ∈ vw.ownBlock.toList → vw.ownBlock = some k := fun k hk => by
    cases hv : vw.ownBlock with
    | none => rw [hv] at hk; simp at hk
    | some x => rw [hv] at hk; simp at hk; subst hk; rfl
  refine ⟨h.wr.fr hf (fun k hk hk2 => h.d2 k (hm k hk2) hk), own_fr h.l hf (fun g hg hk => h.d3 g hg (hm g hk)), ho, h.d1, ?_, ?_, h.far, OwnB.below h.own h.below hg (Nat.le_refl _) h.base, Nat.le_trans h.base hg.size⟩
  · intro x hx hk
    rcases hl with h1 | h1
    · exact h.d2 x (h1 ▸ hx) hk
    · have := h.wr.lt x hk
      rw [h1] at hx; cases hx; omega
  · intro x hx hk
    rcases hl with h1 | h1
    · exact h.d3 x hx (h1 ▸ hk)
    · have := (World.ownsRow.lt h.l x hx).2
      rw [h1] at hk; cases hk; omega
end

theorem smRow_one (p : Nat → Int) : (smRow p).all (·.oneCell') = true := by simp [smRow, Value.oneCell']
/-- Small triangles that came in; Booleans that came in. -/
def SmallR.cells (x : SmallR) : List Value := (smRow x.p).toList
theorem small_sz (x : SmallR) : x.cells.length = 25 := rfl
def Smalls (w : World) (a : Option Addr) (n cap : Nat) (l : List SmallR) : Prop := l.length = n ∧ Sl w a n cap 25 (l.map SmallR.cells).flatten ∧ ∀ x ∈ l, x.good
def Bools (w : World) (a : Option Addr) (n cap : Nat) (l : List Bool) : Prop := Sl w a n cap 1 (l.map Value.bool)
theorem rd_smalls {H : Type} {enc : TypeId × Value → H} {W : World} {base : Nat} {v : Value} {d : DataW H} {p : List MemPlace} {r : Reach}
    (hok : Value.okWide Try.prog W r base 56 v) (h : DataW.Trod enc Try.prog W 0 (fun _ => true) true 56 v d p) :
    ∃ a n cap, ∃ l : List SmallR, v = .slice a n cap ∧ Smalls W a n cap l := by
  obtain ⟨a, n, cap, rows, rfl, h1, h2, h3, h4⟩ := rd_slice 25 Try.underlying56 (by kernel_rfl) (by decide) hok h
  have hl : ∃ l : List SmallR, rows = l.map SmallR.cells ∧ ∀ x ∈ l, x.good := by
    clear h1 h3
    induction rows with
    | nil => exact ⟨[], rfl, fun _ h => by cases h⟩
    | cons c rows ih =>
      obtain ⟨l, e, hl⟩ := ih (fun c' hc' => h2 c' (List.mem_cons_of_mem _ hc')) (fun c' hc' => h4 c' (List.mem_cons_of_mem _ hc'))
      obtain ⟨fuel, y, hy⟩ := h4 c (by simp)
      obtain ⟨x, hx, hg⟩ := rd_small0 (h2 c (by simp)) hy
      refine ⟨x :: l, by rw [List.map_cons, hx, ← e]; rfl, fun z hz => ?_⟩
      rcases List.mem_cons.1 hz with rfl | hz
      · exact hg
      · exact hl z hz
  obtain ⟨l, rfl, hg⟩ := hl
  exact ⟨a, n, cap, l, rfl, by simpa using h1, h3, hg⟩
theorem rd_bools {H : Type} {enc : TypeId × Value → H} {W : World} {base : Nat} {v : Value} {d : DataW H} {p : List MemPlace} {r : Reach}
    (hok : Value.okWide Try.prog W r base 57 v) (h : DataW.Trod enc Try.prog W 0 (fun _ => true) true 57 v d p) :
    ∃ a n cap, ∃ l : List Bool, v = .slice a n cap ∧ Bools W a n cap l := by
  obtain ⟨a, n, cap, rows, rfl, h1, h2, h3, h4⟩ := rd_slice 1 Try.underlying57 (by kernel_rfl) (by decide) hok h
  have hl : ∃ l : List Bool, rows = l.map (fun b => [Value.bool b]) := by
    clear h1 h3
    induction rows with
    | nil => exact ⟨[], rfl⟩
    | cons c rows ih =>
      obtain ⟨l, e⟩ := ih (fun c' hc' => h2 c' (List.mem_cons_of_mem _ hc')) (fun c' hc' => h4 c' (List.mem_cons_of_mem _ hc'))
      obtain ⟨fuel, y, hy⟩ := h4 c (by simp)
      obtain ⟨n5, e5, _⟩ := DataW.trod_bool Try.underlying4 hy
      refine ⟨n5 :: l, by rw [List.map_cons, ← e]; congr 1⟩
  obtain ⟨l, rfl⟩ := hl
  refine ⟨a, n, cap, l, rfl, ?_⟩
  have e : (l.map (fun b => [Value.bool b])).flatten = l.map Value.bool := by
    clear h1 h2 h3 h4
    induction l with
    | nil => rfl
    | cons b l ih => rw [List.map_cons, List.flatten_cons, ih]; rfl
  rw [e] at h3
  exact h3
theorem Smalls.keep {w w' : World} {a : Option Addr} {n cap : Nat} {l : List SmallR} (h : Smalls w a n cap l) (hb : Below w.heap.size w w') : Smalls w' a n cap l := ⟨h.1, h.2.1.keep hb, h.2.2⟩
end Go.Proofs.Ytmholpploaecgaa
