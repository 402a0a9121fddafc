/-
  The walks of chapter 10's laws on triangles.
-/
import Derived.Test.YtgmkfnadjhophaaMesh
import Derived.Test.YtgmkfnadjhophaaEq
import Derived.BigRegion
import Derived.BigQuiet
import Derived.Deep.QuietTactic
import Derived.OpenShut
namespace Go.Proofs.Ytgmkfnadjhophaa
open Go.RowKit

set_option maxRecDepth 10000 in
set_option maxHeartbeats 1000000 in
theorem tri_other {k : Int} (hk : 3 ≤ k) {a : Option Addr} {n cap : Nat} {zs : List Int} {w : World} (_ : Ints w a n cap zs) :
    Calls Try.prog 8 #[.int .u8 k, .slice a n cap] w fun e w' => ∃ v, e = .returned v ∧ OwnT w' w.heap.size v (tris k zs) ∧ Below w.heap.size w w' := by
  have h0 : (k == 0) = false := by rw [beq_eq_false_iff_ne]; omega
  have h1 : (k == 1) = false := by rw [beq_eq_false_iff_ne]; omega
  have h2 : (k == 2) = false := by rw [beq_eq_false_iff_ne]; omega
  have HT : Hid (tris k zs = []) := by
    show _ = _
    unfold tris triCount
    rw [if_neg (by omega), if_neg (by omega)]; rfl
  go_enter Try.func8, Try.ntmps8
  go_wp2
  go_ret
  exact ⟨_, rfl, by rw [HT.out]; exact OwnT.nil _ _, Below.refl _ _⟩

theorem tri_calls {k : Int} (hk : 0 ≤ k) {a : Option Addr} {n cap : Nat} {zs : List Int} {w : World} (HZ : Ints w a n cap zs) (hn : n ≤ 1000) :
    Calls Try.prog 8 #[.int .u8 k, .slice a n cap] w fun e w' => ∃ v, e = .returned v ∧ OwnT w' w.heap.size v (tris k zs) ∧ Below w.heap.size w w' := by
  rcases (show k = 0 ∨ k = 1 ∨ k = 2 ∨ 3 ≤ k by omega) with rfl | rfl | rfl | h
  · exact tri_list HZ hn
  · exact tri_strip HZ hn
  · exact tri_fan HZ hn
  · exact tri_other h HZ

/-- Triangles that can be read. -/
def TS (w : World) (a : Option Addr) (n cap : Nat) (l : List T3) : Prop := Sl w a n cap 3 (l.flatMap T3.cells)
theorem OwnT.ts {w : World} {B : Nat} {v : Value} {l : List T3} (h : OwnT w B v l) : ∃ a cap, v = .slice a l.length cap ∧ TS w a l.length cap l := Sl.of_own h
theorem flat_len (l : List T3) : (l.flatMap T3.cells).length = 3 * l.length := by
  induction l with
  | nil => rfl
  | cons t l ih => simp only [List.flatMap_cons, List.length_append, ih, List.length_cons]; show 3 + _ = _; omega
theorem flat_get : ∀ (l : List T3) (i : Nat) (h : i < l.length) (j : Nat), j < 3 → (l.flatMap T3.cells)[3 * i + j]? = (T3.cells l[i])[j]?
  | [], i, h, _, _ => by simp at h
  | t :: l, 0, _, j, hj => by
    simp only [List.flatMap_cons, List.getElem_cons_zero]
    rw [Nat.mul_zero, Nat.zero_add, List.getElem?_append_left (by exact hj)]
  | t :: l, i + 1, h, j, hj => by
    simp only [List.flatMap_cons, List.getElem_cons_succ]
    rw [List.getElem?_append_right (by show 3 ≤ _; omega), show (T3.cells t).length = 3 from rfl, show 3 * (i + 1) + j - 3 = 3 * i + j by omega]
    exact flat_get l i (by simpa using h) j hj
theorem TS.len {w : World} {a : Option Addr} {n cap : Nat} {l : List T3} (h : TS w a n cap l) : l.length = n := by
  have := Sl.len h
  rw [flat_len] at this
  omega
theorem TS.keep {w w' : World} {a : Option Addr} {n cap : Nat} {l : List T3} (h : TS w a n cap l) (hb : Below w.heap.size w w') : TS w' a n cap l := Sl.keep h hb
theorem TS.get {w : World} {a : Option Addr} {n cap : Nat} {l : List T3} (h : TS w a n cap l) (i : Nat) (hi : i < l.length) : ∃ b off x y z, a = some ⟨b, off, none⟩ ∧ Hid (l[i]? = some ⟨x, y, z⟩) ∧
    w.cell? ⟨b, off + i * 3, none⟩ = some (.int .i64 x) ∧ w.cell? ⟨b, off + i * 3 + 1, none⟩ = some (.int .i64 y) ∧ w.cell? ⟨b, off + i * 3 + 2, none⟩ = some (.int .i64 z) := by
  have hl := flat_len l
  obtain ⟨b, off, ha, h0⟩ := Sl.at h (3 * i + 0) (by omega)
  subst ha
  have h1 := Sl.cell h (3 * i + 1) (by omega)
  have h2 := Sl.cell h (3 * i + 2) (by omega)
  have e0 := flat_get l i hi 0 (by omega)
  have e1 := flat_get l i hi 1 (by omega)
  have e2 := flat_get l i hi 2 (by omega)
  rw [List.getElem?_eq_getElem (by omega)] at e0 e1 e2
  refine ⟨b, off, l[i].a, l[i].b, l[i].c, rfl, by show _ = _; rw [List.getElem?_eq_getElem hi], ?_, ?_, ?_⟩
  · rw [show off + i * 3 = off + (3 * i + 0) by omega, h0]; exact e0
  · rw [show off + i * 3 + 1 = off + (3 * i + 1) by omega, h1]; exact e1
  · rw [show off + i * 3 + 2 = off + (3 * i + 2) by omega, h2]; exact e2

theorem tris_len (k : Int) (zs : List Int) : (tris k zs).length = triCount k zs.length := by simp [tris]
theorem tris_get (k : Int) (zs : List Int) (i : Nat) (h : i < triCount k zs.length) : (tris k zs)[i]? = some (triAt k zs i) := by simp [tris, h]
theorem triCount_le (k : Int) {m n : Nat} (h : m ≤ n) : triCount k m ≤ triCount k n := by unfold triCount; split <;> (try split) <;> omega
theorem triCount_lt (k : Int) {n : Nat} : triCount k n ≤ n := by unfold triCount; split <;> (try split) <;> omega
theorem triAt_take (k : Int) (zs : List Int) (m i : Nat) (h : i < triCount k m) : triAt k (zs.take m) i = triAt k zs i := by
  have hg : ∀ j, j < m → (zs.take m).getD j 0 = zs.getD j 0 := fun j hj => by simp [List.getD, hj]
  unfold triCount at h
  unfold triAt
  split at h
  · rename_i e
    rw [if_pos e, if_pos e, hg _ (by omega), hg _ (by omega), hg _ (by omega)]
  · rename_i e
    rw [if_neg e, if_neg e]
    split at h
    · rw [hg _ (by omega), hg _ (by omega), hg _ (by omega), hg _ (by omega)]
    · omega
theorem tris_first (k : Int) (zs : List Int) (m : Nat) (hm : m ≤ zs.length) : (tris k (zs.take m)).length ≤ (tris k zs).length ∧ ∀ i, i < (tris k (zs.take m)).length → (tris k (zs.take m))[i]? = (tris k zs)[i]? := by
  have hl : (zs.take m).length = m := by simp [hm]
  constructor
  · rw [tris_len, tris_len, hl]; exact triCount_le k hm
  · intro i hi
    rw [tris_len, hl] at hi
    rw [tris_get k _ i (by rw [hl]; exact hi), tris_get k zs i (Nat.lt_of_lt_of_le hi (triCount_le k hm)), triAt_take k zs m i hi]

theorem Try.infoInt : (Try.prog.info? 3).isSome = true := by kernel_rfl
/-- '==', '!=' between triangles. -/
theorem eql_tri (w : World) (x y z x' y' z' : Int) : (binOp .eql 26 (.agg #[.int .i64 x, .int .i64 y, .int .i64 z]) (.agg #[.int .i64 x', .int .i64 y', .int .i64 z'])).run Try.prog w = .ok (.bool ([x, y, z] == [x', y', z'])) w := by
  obtain ⟨i, hi⟩ := Option.isSome_iff_exists.1 Try.infoInt
  exact run_eql_ints (P := Try.prog) Try.underlying26 Try.underlying3 hi (by kernel_rfl) [x, y, z] [x', y', z'] rfl rfl w
theorem neq_tri (w : World) (x y z x' y' z' : Int) : (binOp .neq 26 (.agg #[.int .i64 x, .int .i64 y, .int .i64 z]) (.agg #[.int .i64 x', .int .i64 y', .int .i64 z'])).run Try.prog w = .ok (.bool (!([x, y, z] == [x', y', z']))) w := by
  obtain ⟨i, hi⟩ := Option.isSome_iff_exists.1 Try.infoInt
  exact run_neq_ints (P := Try.prog) Try.underlying26 Try.underlying3 hi (by kernel_rfl) [x, y, z] [x', y', z'] rfl rfl w

theorem tris_four : tris 1 [0, 1, 2, 3] = [⟨0, 1, 2⟩, ⟨2, 1, 3⟩] := rfl
theorem lit4 (w : World) : Ints (w.alloc (.cells #[.int .i64 0, .int .i64 1, .int .i64 2, .int .i64 3] 3)) (some ⟨w.heap.size, 0, none⟩) 4 4 [0, 1, 2, 3] := Sl.of_heap (heap_new w _) rfl rfl (Nat.le_refl _) (by decide)

set_option maxRecDepth 10000 in
set_option maxHeartbeats 1000000 in
theorem awake10 (w : World) :
    Calls Try.prog 7 #[] w fun e w' => e = .returned (.bool true) ∧ Below w.heap.size w w' := by
  have he := eql_tri
  go_enter Try.func7, Try.ntmps7
  go_wp2_with (go_at_call 8; refine (tri_calls (by decide) (lit4 w) (by decide)).mono ?_; rintro e w1 ⟨v, rfl, ho, hb⟩; rw [tris_four] at ho; obtain ⟨a, cap, rfl, ht⟩ := ho.ts; obtain ⟨b, off, x, y, z, rfl, e0, g0, g1, g2⟩ := ht.get 0 (by decide); obtain ⟨b', off', x', y', z', hh, e1, g3, g4, g5⟩ := ht.get 1 (by decide); simp only [Option.some.injEq, Addr.mk.injEq] at hh; obtain ⟨rfl, rfl, _⟩ := hh; cases e0.out; cases e1.out; simp only [Nat.zero_mul, Nat.add_zero, Nat.one_mul] at g0 g1 g2 g3 g4 g5)
  go_ret
  exact ⟨rfl, ((Below.refl _ _).alloc (Nat.le_refl _) _).trans (hb.mono (by simp))⟩

set_option maxRecDepth 10000 in
set_option maxHeartbeats 1000000 in
theorem first_walk (kk : Int) (wk : (Lit.int .u8 kk).wf = true) {a : Option Addr} {n cap : Nat} {zs : List Int} {w : World} (HZ : Ints w a n cap zs) (_ : ∀ z ∈ zs, (Lit.int .i64 z).wf = true) (cut : Int) (wc : (Lit.int .u8 cut).wf = true) :
    Calls Try.prog 5 #[.int .u8 kk, .slice a n cap, .int .u8 cut] w fun e w' => e = .returned (.bool true) ∧ Below w.heap.size w w' := by
  have hbig := Sl.big HZ
  have hle := Sl.le HZ
  have hlen := HZ.len
  subst hlen
  have hk := bounds_u8 wk
  have hc := bounds_u8 wc
  by_cases h100 : zs.length > 100
  · have hd : decide ((zs.length : Int) > 100) = true := by simp; omega
    go_enter Try.func5, Try.ntmps5
    go_wp2_with (go_at_call 7; refine (awake10 _).mono ?_; rintro e w1 ⟨rfl, hb1⟩)
    go_ret
    exact ⟨rfl, hb1⟩
  have hd : decide ((zs.length : Int) > 100) = false := by simp; omega
  obtain ⟨m, hm, hmz⟩ : ∃ m : Nat, cut % ((zs.length : Int) + 1) = m ∧ m ≤ zs.length := ⟨(cut % ((zs.length : Int) + 1)).toNat, by have := Int.emod_nonneg cut (show ((zs.length : Int) + 1) ≠ 0 by omega); omega, by have := Int.emod_lt_of_pos cut (show 0 < ((zs.length : Int) + 1) by omega); omega⟩
  have hne := neq_tri
  go_enter Try.func5, Try.ntmps5
  obtain ⟨l1, hl1⟩ : ∃ l, l = tris (kk % 4) (zs.take m) := ⟨_, rfl⟩
  obtain ⟨l2, hl2⟩ : ∃ l, l = tris (kk % 4) zs := ⟨_, rfl⟩
  have hfirst := tris_first (kk % 4) zs m hmz
  rw [← hl1, ← hl2] at hfirst
  obtain ⟨hll, hp⟩ := hfirst
  have HP : Hid _ := hp
  have hl3 : l2.length ≤ 100 := by rw [hl2, tris_len]; exact Nat.le_trans (triCount_lt _) (by omega)
  have HL1 : Hid _ := hl1
  have HL2 : Hid _ := hl2
  clear hp hl1 hl2
  go_wp2_with (first
    | (go_at_call 7; refine (awake10 _).mono ?_; rintro e w1 ⟨rfl, hb1⟩; have HZ1 := HZ.keep hb1; have HZ0 : Ints w1 a m cap (zs.take m) := (by have := Sl.front HZ1 m hmz; rw [Nat.mul_one, ← List.map_take] at this; exact this))
    | (go_at_call 8; with_reducible refine (tri_calls (by omega) HZ0 (by omega)).mono ?_; rintro e w2 ⟨v1, rfl, ho1, hb2⟩; rw [← HL1.out] at ho1)
    | (go_at_call 8; with_reducible refine (tri_calls (by omega) (HZ1.keep hb2) (by omega)).mono ?_; rintro e w3 ⟨v2, rfl, ho2, hb3⟩; rw [← HL2.out] at ho2; have ho1 := ho1.keep hb3; obtain ⟨a1, c1, rfl, ht1⟩ := ho1.ts; obtain ⟨a2, c2, rfl, ht2⟩ := ho2.ts))
  have hb := (hb1.trans (hb2.mono hb1.size)).trans (hb3.mono (Nat.le_trans hb1.size hb2.size))
  have HB : Hid _ := hb
  clear hb hb1 hb2 hb3 hm
  go_loopw [11, 40] (fun _ i wr => ∃ k q : Nat, k ≤ l1.length ∧ i = .int .i64 k ∧ Hid (wr = w3.drewN q)) (fun _ i _ => l1.length - (intOf i).toNat)
  case atStart => exact ⟨0, 0, by omega, rfl, rfl⟩
  case round =>
    obtain ⟨k, q, hk, rfl, hq⟩ := hrel
    have hbq : Below w3.heap.size w3 wr := by rw [hq.out]; exact below_draws _ _ _
    by_cases hlt : k < l1.length
    · obtain ⟨b, off, x, y, z, rfl, e1, f0, f1, f2⟩ := (ht1.keep hbq).get k hlt
      obtain ⟨b', off', x', y', z', rfl, e2, g0, g1, g2⟩ := (ht2.keep hbq).get k (by omega)
      have e3 : (some (⟨x, y, z⟩ : T3)) = some ⟨x', y', z'⟩ := by rw [← e1.out, ← e2.out]; exact HP.out k hlt
      simp only [Option.some.injEq, T3.mk.injEq] at e3
      obtain ⟨rfl, rfl, rfl⟩ := e3
      have n1 : k < l2.length := by omega
      have n2 : (k : Int) < (l2.length : Int) := by omega
      have n3 : (k : Int) < (l1.length : Int) := by omega
      have n4 : (0 : Int) ≤ (k : Int) := by omega
      go_wp2
      go_quiet (fail)
      go_wp2
      go_roundw
      case rel => exact ⟨k + 1, q + nq, by omega, by go_num, by show _ = _; rw [hq.out, World.drewN_drewN]⟩
      case measure => simp [intOf]; omega
    · go_wp2
      go_ret
      refine ⟨rfl, HB.out.trans ?_⟩
      rw [hq.out]; exact below_draws _ _ _

end Go.Proofs.Ytgmkfnadjhophaa
