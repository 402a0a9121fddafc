/-
  The walk of the law 'MeshCounts'.
-/
import Derived.Test.YtgmkfnadjhophaaCounts
namespace Go.Proofs.Ytgmkfnadjhophaa
open Go.RowKit Go.Maps

theorem keyInt : Keyed Try.prog 3 := int_keyed Try.underlying3
theorem tris_at (k : Int) (zs : List Int) (j : Nat) (t : T3) (h : (tris k zs)[j]? = some t) : j < triCount k zs.length ∧ t = triAt k zs j := by
  have hj : j < (tris k zs).length := by
    rcases Nat.lt_or_ge j (tris k zs).length with h1 | h1
    · exact h1
    · rw [List.getElem?_eq_none h1] at h; cases h
  rw [tris_len] at hj
  rw [tris_get k zs j hj] at h
  exact ⟨hj, by cases h; rfl⟩
theorem tri_range {k : Int} {n : Nat} (hk : 0 ≤ k ∧ k < 3) (h0 : k = 0 → n % 3 = 0) (j : Nat) (t : T3) (h : (tris k (firsts n))[j]? = some t) : (0 ≤ t.a ∧ t.a < n) ∧ (0 ≤ t.b ∧ t.b < n) ∧ (0 ≤ t.c ∧ t.c < n) := by
  obtain ⟨hj, rfl⟩ := tris_at k _ j t h
  have hn : triCount k n ≠ 0 := by rw [firsts_len] at hj; omega
  have hf := fun z => (flat_all k n hk h0 hn z).1
  refine ⟨hf _ ?_, hf _ ?_, hf _ ?_⟩ <;> rw [mem_flat] <;> exact ⟨j, hj, by simp⟩

theorem idx0 (w : World) (x y z : Int) : (Instr.index 26 (.agg #[.int .i64 x, .int .i64 y, .int .i64 z]) (.int .i64 ((0 : Nat) : Int))).run Try.prog w = .ok (.int .i64 x) w := by kernel_rfl
theorem idx1 (w : World) (x y z : Int) : (Instr.index 26 (.agg #[.int .i64 x, .int .i64 y, .int .i64 z]) (.int .i64 ((1 : Nat) : Int))).run Try.prog w = .ok (.int .i64 y) w := by kernel_rfl
theorem idx2 (w : World) (x y z : Int) : (Instr.index 26 (.agg #[.int .i64 x, .int .i64 y, .int .i64 z]) (.int .i64 ((2 : Nat) : Int))).run Try.prog w = .ok (.int .i64 z) w := by kernel_rfl

set_option maxRecDepth 10000 in
set_option maxHeartbeats 4000000 in
set_option linter.unusedSimpArgs false in
theorem counts_walk (kk : Int) (wk : (Lit.int .u8 kk).wf = true) (nn : Int) (wn : (Lit.int .u8 nn).wf = true) {w : World} :
    Calls Try.prog 4 #[.int .u8 kk, .int .u8 nn] w fun e w' => e = .returned (.bool true) ∧ Below w.heap.size w w' := by
  have hk := bounds_u8 wk
  have hn := bounds_u8 wn
  obtain ⟨k3, hk3⟩ : ∃ k3, kk % 3 = k3 := ⟨_, rfl⟩
  have hk3b : 0 ≤ k3 ∧ k3 < 3 := by omega
  obtain ⟨m0, hm0, hm0b⟩ : ∃ m0 : Nat, nn % 90 = m0 ∧ m0 < 90 := ⟨(nn % 90).toNat, by omega, by omega⟩
  have hmm := @run_makeMap Try.prog
  obtain ⟨m, mx, b, hb0, hmany, hm0', hmx, hmb, hdiv, hcnt⟩ : ∃ m : Nat, ∃ mx : Int, ∃ b : Bool, (k3 == 0) = b ∧ (b = true → (m0 : Int) / 3 * 3 = m) ∧ (b = false → (m0 : Int) = m) ∧ (if (0 : Int) > (m : Int) - 2 then (0 : Int) else (m : Int) - 2) = mx ∧ m < 90 ∧ (b = true → m % 3 = 0 ∧ (m : Int) / 3 = (triCount k3 m : Nat)) ∧ (b = false → mx = (triCount k3 m : Nat)) := by
    by_cases hz : k3 = 0
    · refine ⟨m0 / 3 * 3, _, true, by rw [beq_iff_eq]; exact hz, fun _ => (by omega), fun h => (by cases h), rfl, (by omega), fun _ => ⟨(by omega), ?_⟩, fun h => (by cases h)⟩
      rw [hz]; show _ = ((m0 / 3 * 3 / 3 : Nat) : Int); omega
    · refine ⟨m0, _, false, by rw [beq_eq_false_iff_ne]; exact hz, fun h => (by cases h), fun _ => rfl, rfl, (by omega), fun h => (by cases h), fun _ => ?_⟩
      unfold triCount
      rw [if_neg hz, if_pos (show k3 = 1 ∨ k3 = 2 by omega)]
      split <;> omega
  have hdiv3 : k3 = 0 → m % 3 = 0 := fun h => (hdiv (by rw [← hb0, h]; rfl)).1
  have HR : Hid _ := fun j t => tri_range hk3b hdiv3 j t
  have HS : Hid _ := fun h => size_seen hk3b hdiv3 h
  obtain ⟨T, hT⟩ : ∃ T, T = tris k3 (firsts m) := ⟨_, rfl⟩
  have hTl : T.length = triCount k3 m := by rw [hT, tris_len, firsts_len]
  have hT200 : T.length ≤ 100 := by rw [hTl]; exact Nat.le_trans (triCount_lt _) (by omega)
  rw [← hTl] at hdiv hcnt
  rw [← hT, ← hTl] at HS
  rw [← hT] at HR
  have HT : Hid _ := hT
  clear hT hTl
  rcases b with _ | _
  all_goals
    have hmany := hmany
    simp only [Bool.false_eq_true, reduceCtorEq, false_implies, forall_const] at hmany hm0' hdiv hcnt
    go_enter Try.func4, Try.ntmps4
    go_wp2_with (go_at_call 7; refine (awake10 _).mono ?_; rintro e w1 ⟨rfl, hb1⟩)
    try simp only [hk3, hm0, hmany, hm0']
    have HM1 : Hid _ := hmany
    have HM2 : Hid _ := hm0'
    have HK3 : Hid _ := hk3
    have HM0 : Hid _ := hm0
    clear hk3 hm0 hmany hm0'
    go_loopw [6, 7, 27] (fun v _ i wr => ∃ j : Nat, j ≤ m ∧ i = .int .i64 j ∧ OwnI wr w.heap.size v (firsts j) ∧ Below w.heap.size w wr) (fun _ _ i _ => m - (intOf i).toNat)
    case atStart => exact ⟨0, by omega, rfl, OwnI.nil _ _, hb1⟩
    case round =>
      clear hb1
      obtain ⟨j, hj, rfl, ho, hb⟩ := hrel
      by_cases hlt : j < m
      · have HL : Hid ((firsts j).length ≤ 1000000) := by show _ ≤ _; rw [firsts_len]; omega
        go_wp2_with (at_builtin; refine app_int rfl _ _ rfl rfl ho rfl rfl hb.size HL.out ?_; intro v1 w2 ho1 hg1)
        go_roundw
        case rel => exact ⟨j + 1, by omega, by go_num, by rw [firsts_succ]; exact ho1, OwnI.belowA ho hb _ hg1 (Nat.le_refl _) hb.size⟩
        case measure => simp [intOf]; omega
      · have hje : j = m := by omega
        subst hje
        obtain ⟨a1, c1, rfl, HI⟩ := ho.ints
        rw [firsts_len] at HI ⊢
        have hk3 := HK3.out
        go_wp2_with (go_at_call 8; refine (tri_calls hk3b.1 HI (by omega)).mono ?_; rintro e w2 ⟨v2, rfl, ho2, hb2⟩; rw [← HT.out] at ho2; obtain ⟨a2, c2, rfl, ht2⟩ := ho2.ts)
        have HB : Hid _ := hb.trans (hb2.mono hb.size)
        clear hb hb2 ho HI ho2 hlt hj
        clear hk3
        go_loopw [11, 13, 42] (fun _ _ i wr => ∃ j n : Nat, j ≤ T.length ∧ i = .int .i64 j ∧ n ≤ 3 * j ∧ wr.ownsMap Try.prog 3 (plainElem Try.prog 4) w2.heap.size n (setOf unitT (lits (flat (T.take j)))) ∧ Below w2.heap.size w2 wr) (fun _ _ i _ => T.length - (intOf i).toNat)
        case atStart => exact ⟨0, 0, by omega, rfl, by omega, World.ownsMap_made _ _ _ _, (Below.refl _ _).alloc (Nat.le_refl _) _⟩
        case round =>
          obtain ⟨j, n, hj, rfl, hn3, hown, hb⟩ := hrel
          by_cases hlt : j < T.length
          · obtain ⟨b, off, x, y, z, rfl, e1, f0, f1, f2⟩ := (ht2.keep hb).get j hlt
            have HF : Hid _ := flat_succ T j _ e1.out
            have hxr := HR.out j _ e1.out
            simp only at hxr
            obtain ⟨hx, hy, hz⟩ := hxr
            go_wp2
            go_loopw [13, 47] (fun _ i wr2 => ∃ q n2 : Nat, q ≤ 3 ∧ i = .int .i64 q ∧ n2 ≤ 3 * j + q ∧ wr2.ownsMap Try.prog 3 (plainElem Try.prog 4) w2.heap.size n2 (setOf unitT (lits (flat (T.take j) ++ [x, y, z].take q))) ∧ Below w2.heap.size w2 wr2) (fun _ i _ => 3 - (intOf i).toNat)
            case atStart =>
              refine ⟨0, n, by omega, rfl, by omega, ?_, ?_⟩
              · rw [List.take_zero, List.append_nil]; exact hown.alloc _
              · exact hb.alloc hb.size _
            case round =>
              obtain ⟨q, n2, hq, rfl, hn2, hown2, hbq⟩ := hrel
              by_cases hltq : q < 3
              · obtain ⟨u, hu, huw, htk⟩ : ∃ u, (∀ w : World, (Instr.index 26 (.agg #[.int .i64 x, .int .i64 y, .int .i64 z]) (.int .i64 (q : Int))).run Try.prog w = .ok (.int .i64 u) w) ∧ (0 ≤ u ∧ u < 90) ∧ Hid ([x, y, z].take (q + 1) = [x, y, z].take q ++ [u]) := by
                  rcases (show q = 0 ∨ q = 1 ∨ q = 2 by omega) with rfl | rfl | rfl
                  · exact ⟨x, fun w => idx0 w x y z, by omega, rfl⟩
                  · exact ⟨y, fun w => idx1 w x y z, by omega, rfl⟩
                  · exact ⟨z, fun w => idx2 w x y z, by omega, rfl⟩
                have hlit : ∀ (D : DataW Unit), D = setOf unitT (lits (flat (T.take j) ++ [x, y, z].take q)) → D.put (.int .i64 u) unitT = setOf unitT (lits (flat (T.take j) ++ [x, y, z].take (q + 1))) := by
                  rintro D rfl
                  rw [htk.out, ← List.append_assoc]
                  show _ = setOf unitT ((_ : List Int).map _)
                  rw [List.map_append]
                  exact (setOf_snoc _ _ _).symm
                have HLit : Hid _ := hlit _ rfl
                clear hlit
                have hwf : (Lit.int .i64 u).wf = true := WalkArith.wf_i64 (by omega)
                have q0 : (0 : Int) ≤ (q : Int) := by omega
                have q3 : (q : Int) < 3 := by omega
                go_wp2_with (first
                  | (at_mapUpdate; refine wpList_mapUpdate_own _ rfl _ _ _ 29 rfl 3 4 keyInt Try.underlying29 (plainElem (H := Unit) Try.prog 4) w2.heap.size n2 _ rfl hown2 (by unfold maxLen; omega) _ _ _ rfl rfl (keyOf_int_mk Try.underlying3 hwf) _ [] (plainElem_bool Try.underlying4 true) ?_; intro w5 hown5 hg5))
                go_roundw
                case rel => exact ⟨q + 1, n2 + 1, by omega, by go_num, by omega, HLit.out ▸ hown5, hbq.grown hg5 hbq.size (fun j hj => by cases hj; exact Nat.le_refl _)⟩
                case measure => simp [intOf]; omega
              · have hq3 : q = 3 := by omega
                subst hq3
                go_wp2
                go_roundw
                case rel => exact ⟨j + 1, n2, by omega, by go_num, by omega, by rw [HF.out]; exact hown2, hbq⟩
                case measure => simp [intOf]; omega
          · rw [List.take_of_length_le (by omega)] at hown
            obtain ⟨D, hD⟩ : ∃ D, D = setOf unitT (lits (flat T)) := ⟨_, rfl⟩
            rw [← hD] at hown
            have hlen := fun ty => hown.len Try.underlying29 ty
            have hk3 := HK3.out
            have HB2 : Hid _ := HB.out.trans (hb.mono HB.out.size)
            by_cases hT0 : T.length = 0
            · have e0 : ((T.length : Int) == 0) = true := by rw [beq_iff_eq]; omega
              clear hT0
              go_wp2
              go_ret
              exact ⟨rfl, HB2.out⟩
            · have e0 : ((T.length : Int) == 0) = false := by rw [beq_eq_false_iff_ne]; omega
              have hsz := HS.out hT0
              rw [← hD] at hsz
              rw [hsz] at hlen
              clear hT0 hsz hD
              go_wp2
              go_ret
              exact ⟨rfl, HB2.out⟩
end Go.Proofs.Ytgmkfnadjhophaa
