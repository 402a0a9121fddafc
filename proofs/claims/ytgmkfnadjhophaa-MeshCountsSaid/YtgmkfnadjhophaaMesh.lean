/-
  Triangles of numbers: the plain list, and the walk of mesh.Triangles.
-/
import Derived.Test.YtgmkfnadjhophaaRows
import Derived.Test.YtgmkfnadjhophaaApp
import Derived.Test.YtgmkfnadjhophaaInts
import Derived.WalkLawsBesides
import Derived.Deep.RegionLaw
namespace Go.Proofs.Ytgmkfnadjhophaa
open Go.RowKit

structure T3 where
  a : Int
  b : Int
  c : Int
  deriving DecidableEq
def T3.cells (t : T3) : List Value := [i64 t.a, i64 t.b, i64 t.c]

/-- How many triangles so many numbers make. -/
def triCount (k : Int) (n : Nat) : Nat := if k = 0 then n / 3 else if k = 1 ∨ k = 2 then n - 2 else 0
/-- The j-th one. -/
def triAt (k : Int) (zs : List Int) (j : Nat) : T3 :=
  if k = 0 then ⟨zs.getD (3 * j) 0, zs.getD (3 * j + 1) 0, zs.getD (3 * j + 2) 0⟩
  else if k = 1 then if j % 2 = 1 then ⟨zs.getD (j + 1) 0, zs.getD j 0, zs.getD (j + 2) 0⟩ else ⟨zs.getD j 0, zs.getD (j + 1) 0, zs.getD (j + 2) 0⟩
  else ⟨zs.getD 0 0, zs.getD (j + 1) 0, zs.getD (j + 2) 0⟩
def tris (k : Int) (zs : List Int) : List T3 := (List.range (triCount k zs.length)).map (triAt k zs)
def trisTo (k : Int) (zs : List Int) (j : Nat) : List T3 := (List.range j).map (triAt k zs)
theorem trisTo_succ (k : Int) (zs : List Int) (j : Nat) : trisTo k zs (j + 1) = trisTo k zs j ++ [triAt k zs j] := by simp [trisTo, List.range_succ]

/-- Triangles that the call owns. -/
def OwnT (w : World) (B : Nat) (v : Value) (l : List T3) : Prop := w.ownsRow B 26 3 v l.length (l.flatMap T3.cells)

theorem Try.elT : El Try.prog 24 26 (.agg #[.int .i64 0, .int .i64 0, .int .i64 0]) 3 24 := ⟨Try.underlying24, by kernel_rfl, rfl, by decide⟩

theorem OwnT.keep {w w' : World} {B : Nat} {v : Value} {l : List T3} (h : OwnT w B v l) (hb : Below w.heap.size w w') : OwnT w' B v l := own_keep h hb
theorem OwnT.nil (w : World) (B : Nat) : OwnT w B (.slice none 0 0) [] := World.ownsRow_nil w B _ _

/-- 'append(x, t)' of a triangle. -/
theorem app_tri {w : World} {ops : Array Oper} {rest : List Oper} {o : Oper} {a : Act} {Q : Exit → Act → World → Prop} (hgd : o.guard = none) (s x : Operand)
    (ho : o.op = .call { callee := .builtin .append, args := #[s, x], argTypes := #[24, 24] })
    {B g : Nat} {v : Value} {l : List T3} {p q r : Int} {e : TypeId} (hs : a.eval s = v) (hown : OwnT w B v l) (hx : a.eval x = .slice (some ⟨g, 0, none⟩) 1 1) (hg : g = w.heap.size)
    (hb : B ≤ w.heap.size) (hl : l.length ≤ 1000000)
    (h : ∀ v' w', OwnT w' B v' (l ++ [⟨p, q, r⟩]) → (w.alloc (.cells #[.int .i64 p, .int .i64 q, .int .i64 r] e)).grownBy w' v.ownBlock → wpList Try.prog ops Q rest (a.put o.dst v') w') :
    wpList Try.prog ops Q (o :: rest) a (w.alloc (.cells #[.int .i64 p, .int .i64 q, .int .i64 r] e)) := by
  subst hg
  refine app_sl Try.elT hgd s x ho hs (own_keep hown ((Below.refl _ _).alloc (Nat.le_refl _) _)) (ys := T3.cells ⟨p, q, r⟩) hx (Sl.of_heap (heap_new w _) rfl rfl (Nat.le_refl _) (by decide)) (by simp [T3.cells, Value.oneCell']) (by omega) (by omega) (by simp; omega) ?_
  intro v' w' h2 h3
  refine h v' w' ?_ h3
  unfold OwnT
  rw [List.length_append, List.flatMap_append]
  simpa using h2

theorem step_app_tri {w : World} {ops : Array Oper} {o : Oper} {a : Act} {K : Act → World → Prop} {Q : Exit → Act → World → Prop} {E : Prop} (hgd : o.guard = none) (s x : Operand)
    (ho : o.op = .call { callee := .builtin .append, args := #[s, x], argTypes := #[24, 24] })
    {B g : Nat} {v : Value} {l : List T3} {p q r : Int} {e : TypeId} (hs : a.eval s = v) (hown : OwnT w B v l) (hx : a.eval x = .slice (some ⟨g, 0, none⟩) 1 1) (hg : g = w.heap.size)
    (hb : B ≤ w.heap.size) (hl : l.length ≤ 1000000)
    (h : ∀ v' w', OwnT w' B v' (l ++ [⟨p, q, r⟩]) → (w.alloc (.cells #[.int .i64 p, .int .i64 q, .int .i64 r] e)).grownBy w' v.ownBlock → K (a.put o.dst v') w') :
    if Region.wanted o (yielded ops a.tmps) = true then Oper.wp Try.prog o a (w.alloc (.cells #[.int .i64 p, .int .i64 q, .int .i64 r] e)) K Q else E := by
  subst hg
  refine step_app_sl Try.elT hgd s x ho hs (own_keep hown ((Below.refl _ _).alloc (Nat.le_refl _) _)) (ys := T3.cells ⟨p, q, r⟩) hx (Sl.of_heap (heap_new w _) rfl rfl (Nat.le_refl _) (by decide)) (by simp [T3.cells, Value.oneCell']) (by omega) (by omega) (by simp; omega) ?_
  intro v' w' h2 h3
  refine h v' w' ?_ h3
  unfold OwnT
  rw [List.length_append, List.flatMap_append]
  simpa using h2

theorem OwnT.below {w w' : World} {B C : Nat} {v : Value} {l : List T3} {w0 : World} (h : OwnT w B v l) (hb : Below C w0 w) (o : Obj) (hg : (w.alloc o).grownBy w' v.ownBlock) (hC : C ≤ B) (hw : C ≤ w.heap.size) : Below C w0 w' :=
  below_app (hb.alloc hw o) (own_keep h ((Below.refl _ _).alloc (Nat.le_refl _) _)) hg hC (by simp; omega)

set_option maxRecDepth 10000 in
set_option maxHeartbeats 1000000 in
theorem tri_list {a : Option Addr} {n cap : Nat} {zs : List Int} {w : World} (HZ : Ints w a n cap zs) (hn : n ≤ 1000) :
    Calls Try.prog 8 #[.int .u8 0, .slice a n cap] w fun e w' => ∃ v, e = .returned v ∧ OwnT w' w.heap.size v (tris 0 zs) ∧ Below w.heap.size w w' := by
  have hbig := Sl.big HZ
  have hle := Sl.le HZ
  have hlen := HZ.len
  subst hlen
  go_enter Try.func8, Try.ntmps8
  go_wp2
  go_loopw [5, 6] (fun v i wr => ∃ k : Nat, 3 * k ≤ zs.length ∧ i = .int .i64 ((3 * k : Nat) : Int) ∧ OwnT wr w.heap.size v (trisTo 0 zs k) ∧ Below w.heap.size w wr) (fun _ i _ => zs.length - (intOf i).toNat)
  case atStart => exact ⟨0, by omega, rfl, World.ownsRow_nil _ _ _ _, Below.refl _ _⟩
  case round =>
    obtain ⟨k, hk, rfl, ho, hb⟩ := hrel
    by_cases hlt : 3 * k + 2 < zs.length
    · obtain ⟨b, off, rfl, g0⟩ := (HZ.keep hb).at (3 * k) (by omega)
      have g1 := (HZ.keep hb).cell (3 * k + 1) (by omega)
      have g2 := (HZ.keep hb).cell (3 * k + 2) (by omega)
      rw [← Nat.add_assoc] at g1 g2
      have harr := fun (w : World) (a : Option Addr) (len cap : Nat) (h : 3 ≤ len) => run_arrayAt (P := Try.prog) Try.underlying26 w a len cap h
      have hl : (trisTo 0 zs k).length ≤ 1000000 := by simp [trisTo]; omega
      have ht : triAt 0 zs k = ⟨zs[3 * k], zs[3 * k + 1], zs[3 * k + 2]⟩ := by simp [triAt, List.getD, show 3 * k < zs.length by omega, show 3 * k + 1 < zs.length by omega, show 3 * k + 2 < zs.length by omega]
      have HT : Hid _ := ht
      have HL : Hid _ := hl
      clear ht hl
      go_wp2_with (at_builtin; refine app_tri rfl _ _ rfl rfl ho rfl rfl hb.size HL.out ?_; intro v1 w1 ho1 hg1)
      go_roundw
      case rel =>
        refine ⟨k + 1, by omega, by go_num, ?_, ho.below hb _ hg1 (Nat.le_refl _) hb.size⟩
        rw [trisTo_succ, HT.out]
        exact ho1
      case measure => simp [intOf]; omega
    · go_wp2
      go_ret
      refine ⟨_, rfl, ?_, hb⟩
      have : tris 0 zs = trisTo 0 zs k := by
        unfold tris trisTo triCount
        rw [if_pos rfl, show zs.length / 3 = k by omega]
      rw [this]
      exact ho

set_option maxRecDepth 10000 in
set_option maxHeartbeats 1000000 in
theorem tri_strip {a : Option Addr} {n cap : Nat} {zs : List Int} {w : World} (HZ : Ints w a n cap zs) (hn : n ≤ 1000) :
    Calls Try.prog 8 #[.int .u8 1, .slice a n cap] w fun e w' => ∃ v, e = .returned v ∧ OwnT w' w.heap.size v (tris 1 zs) ∧ Below w.heap.size w w' := by
  have hbig := Sl.big HZ
  have hle := Sl.le HZ
  have hlen := HZ.len
  subst hlen
  obtain ⟨m, hm, hm1, hm2⟩ : ∃ m : Nat, (if (0 : Int) > (zs.length : Int) - 2 then (0 : Int) else (zs.length : Int) - 2) = m ∧ m ≤ zs.length - 2 ∧ zs.length - 2 ≤ m := ⟨zs.length - 2, by split <;> omega, by omega, by omega⟩
  go_enter Try.func8, Try.ntmps8
  go_wp2
  clear hm
  go_loopw [5, 36] (fun v i wr => ∃ k : Nat, k ≤ m ∧ i = .int .i64 k ∧ OwnT wr w.heap.size v (trisTo 1 zs k) ∧ Below w.heap.size w wr) (fun _ i _ => m - (intOf i).toNat)
  case atStart => exact ⟨0, by omega, rfl, World.ownsRow_nil _ _ _ _, Below.refl _ _⟩
  case round =>
    obtain ⟨k, hk, rfl, ho, hb⟩ := hrel
    by_cases hlt : k < m
    · obtain ⟨b, off, x0, rfl, hx0, g0⟩ := (HZ.keep hb).get k (by omega)
      obtain ⟨x1, hx1, g1⟩ := (HZ.keep hb).more (k + 1) (by omega)
      obtain ⟨x2, hx2, g2⟩ := (HZ.keep hb).more (k + 2) (by omega)
      rw [← Nat.add_assoc] at g1 g2
      have harr := fun (w : World) (a : Option Addr) (len cap : Nat) (h : 3 ≤ len) => run_arrayAt (P := Try.prog) Try.underlying26 w a len cap h
      have HL : Hid ((trisTo 1 zs k).length ≤ 1000000) := by show _ ≤ _; simp [trisTo]; omega
      by_cases hodd : k % 2 = 1
      · have ho1 : ((k : Int) % 2 == 1) = true := by rw [beq_iff_eq]; omega
        have HT : Hid (triAt 1 zs k = ⟨x1, x0, x2⟩) := by show _ = _; rw [hx0.out, hx1.out, hx2.out]; simp only [triAt, hodd]; rfl
        clear hodd
        go_wp2_with (at_builtin; refine app_tri rfl _ _ rfl rfl (OwnT.keep ho ((Below.refl _ _).alloc (Nat.le_refl _) _)) rfl (by simp) (by have := hb.size; simp; omega) HL.out ?_; intro v1 w1 ho1 hg1)
        go_roundw
        case rel =>
          refine ⟨k + 1, by omega, by go_num, ?_, OwnT.below (OwnT.keep ho ((Below.refl _ _).alloc (Nat.le_refl _) _)) (hb.alloc hb.size _) _ hg1 (Nat.le_refl _) (by have := hb.size; simp; omega)⟩
          rw [trisTo_succ, HT.out]
          exact ho1
        case measure => simp [intOf]; omega
      · have ho1 : ((k : Int) % 2 == 1) = false := by rw [beq_eq_false_iff_ne]; omega
        have HT : Hid (triAt 1 zs k = ⟨x0, x1, x2⟩) := by show _ = _; rw [hx0.out, hx1.out, hx2.out]; simp only [triAt, hodd]; rfl
        clear hodd
        go_wp2_with (at_builtin; refine app_tri rfl _ _ rfl rfl (OwnT.keep ho ((Below.refl _ _).alloc (Nat.le_refl _) _)) rfl (by simp) (by have := hb.size; simp; omega) HL.out ?_; intro v1 w1 ho1 hg1)
        go_roundw
        case rel =>
          refine ⟨k + 1, by omega, by go_num, ?_, OwnT.below (OwnT.keep ho ((Below.refl _ _).alloc (Nat.le_refl _) _)) (hb.alloc hb.size _) _ hg1 (Nat.le_refl _) (by have := hb.size; simp; omega)⟩
          rw [trisTo_succ, HT.out]
          exact ho1
        case measure => simp [intOf]; omega
    · go_wp2
      go_ret
      refine ⟨_, rfl, ?_, hb⟩
      have : tris 1 zs = trisTo 1 zs k := by
        unfold tris trisTo triCount
        rw [if_neg (by decide), if_pos (.inl rfl), show zs.length - 2 = k by omega]
      rw [this]
      exact ho

set_option maxRecDepth 10000 in
set_option maxHeartbeats 1000000 in
theorem tri_fan {a : Option Addr} {n cap : Nat} {zs : List Int} {w : World} (HZ : Ints w a n cap zs) (hn : n ≤ 1000) :
    Calls Try.prog 8 #[.int .u8 2, .slice a n cap] w fun e w' => ∃ v, e = .returned v ∧ OwnT w' w.heap.size v (tris 2 zs) ∧ Below w.heap.size w w' := by
  have hbig := Sl.big HZ
  have hle := Sl.le HZ
  have hlen := HZ.len
  subst hlen
  go_enter Try.func8, Try.ntmps8
  go_wp2
  go_loopw [5, 9] (fun v i wr => ∃ k : Nat, k ≤ zs.length - 2 ∧ i = .int .i64 ((k + 1 : Nat) : Int) ∧ OwnT wr w.heap.size v (trisTo 2 zs k) ∧ Below w.heap.size w wr) (fun _ i _ => zs.length - (intOf i).toNat)
  case atStart => exact ⟨0, by omega, rfl, World.ownsRow_nil _ _ _ _, Below.refl _ _⟩
  case round =>
    obtain ⟨k, hk, rfl, ho, hb⟩ := hrel
    by_cases hlt : k + 2 < zs.length
    · have HW := (HZ.keep hb).keep ((Below.refl _ wr).drew)
      obtain ⟨b, off, x0, rfl, hx0, g0⟩ := HW.get 0 (by omega)
      obtain ⟨x1, hx1, g1⟩ := HW.more (k + 1) (by omega)
      obtain ⟨x2, hx2, g2⟩ := HW.more (k + 2) (by omega)
      rw [Nat.add_zero] at g0
      have g3 : wr.drew.cell? ⟨b, off + (k + 1 + 1), none⟩ = some (.int .i64 x2) := g2
      have HL : Hid ((trisTo 2 zs k).length ≤ 1000000) := by show _ ≤ _; simp [trisTo]; omega
      have HT : Hid (triAt 2 zs k = ⟨x0, x1, x2⟩) := by show _ = _; rw [hx0.out, hx1.out, hx2.out]; simp only [triAt]; rfl
      have m1 : (0 : Int) ≤ (k : Int) + 1 := by omega
      have m2 : (0 : Int) ≤ (k : Int) + 1 + 1 := by omega
      have n0 : 0 < zs.length := by omega
      have n3 : k + 1 < zs.length := by omega
      have n4 : k + 1 + 1 < zs.length := by omega
      have n1 : (k : Int) + 1 < (zs.length : Int) := by omega
      have n2 : (k : Int) + 1 + 1 < (zs.length : Int) := by omega
      have e1 : IntKind.i64.wrap ((k : Int) + 1 + 1) = (k : Int) + 1 + 1 := IntWalk.i64_in _ (by omega)
      have e2 : ((k : Int) + 1 + 1).toNat = k + 1 + 1 := by omega
      go_wp2
      go_region_law (refine step_app_tri rfl _ _ rfl rfl (OwnT.keep ho ((Below.refl _ _).drew)) rfl rfl hb.size HL.out ?_; intro v1 w1 ho1 hg1)
      all_goals
        clear e1 e2
        go_wp2
        go_roundw
        case rel =>
          refine ⟨k + 1, by omega, by go_num, ?_, OwnT.below (OwnT.keep ho ((Below.refl _ _).drew)) hb.drew _ hg1 (Nat.le_refl _) hb.size⟩
          rw [trisTo_succ, HT.out]
          exact ho1
        case measure => simp [intOf]; omega
    · go_wp2
      go_ret
      refine ⟨_, rfl, ?_, hb⟩
      have : tris 2 zs = trisTo 2 zs k := by
        unfold tris trisTo triCount
        rw [if_neg (by decide), if_pos (.inr rfl), show zs.length - 2 = k by omega]
      rw [this]
      exact ho
end Go.Proofs.Ytgmkfnadjhophaa
