/-
  The walk of the law 'MeshTriangles'.
-/
import Derived.Test.YtgmkfnadjhophaaMeshLaw
namespace Go.Proofs.Ytgmkfnadjhophaa
open Go.RowKit

theorem cnt0 (p : Nat) (h : p % 3 = 0) : triCount 0 (p + 1 + 2) = triCount 0 (p + 2) + 1 ∧ triCount 0 (p + 2) = p / 3 := by simp only [triCount, if_true]; omega
theorem cnt0' (p : Nat) (h : p % 3 ≠ 0) : triCount 0 (p + 1 + 2) = triCount 0 (p + 2) := by simp only [triCount, if_true]; omega
theorem cnt12 (c : Int) (p : Nat) (h : c = 1 ∨ c = 2) : triCount c (p + 1 + 2) = triCount c (p + 2) + 1 ∧ triCount c (p + 2) = p := by
  unfold triCount; rw [if_neg (by omega), if_pos h, if_neg (by omega), if_pos h]; omega
theorem cnt3 (p : Nat) : triCount 3 p = 0 := rfl
theorem at0 (zs : List Int) (p : Nat) (h : p % 3 = 0) : triAt 0 zs (p / 3) = ⟨zs.getD p 0, zs.getD (p + 1) 0, zs.getD (p + 2) 0⟩ := by
  have : 3 * (p / 3) = p := by omega
  simp only [triAt, if_true, this]

/-- One more triangle wanted. -/
theorem want_more {c : Int} {zs : List Int} {p : Nat} {w' : World} {B : Nat} {v' : Value} {t : T3} (h1 : triCount c (p + 1 + 2) = triCount c (p + 2) + 1) (h2 : triAt c zs (triCount c (p + 2)) = t) (h : OwnT w' B v' (trisTo c zs (triCount c (p + 2)) ++ [t])) :
    OwnT w' B v' (trisTo c zs (triCount c (p + 1 + 2))) := by
  rw [h1, trisTo_succ, h2]; exact h

set_option maxRecDepth 10000 in
set_option maxHeartbeats 2000000 in
theorem triangles_walk (kk : Int) (wk : (Lit.int .u8 kk).wf = true) {a : Option Addr} {n cap : Nat} {zs : List Int} {w : World} (HZ : Ints w a n cap zs) (_ : ∀ z ∈ zs, (Lit.int .i64 z).wf = true) :
    Calls Try.prog 3 #[.int .u8 kk, .slice a n cap] w fun e w' => e = .returned (.bool true) ∧ Below w.heap.size w w' := by
  have hbig := Sl.big HZ
  have hle := Sl.le HZ
  have hlen := HZ.len
  subst hlen
  have hk := bounds_u8 wk
  by_cases h100 : zs.length > 100
  · have hd : decide ((zs.length : Int) > 100) = true := by simp; omega
    go_enter Try.func3, Try.ntmps3
    go_wp2_with (go_at_call 7; refine (awake10 _).mono ?_; rintro e w1 ⟨rfl, hb1⟩)
    go_ret
    exact ⟨rfl, hb1⟩
  have hd : decide ((zs.length : Int) > 100) = false := by simp; omega
  obtain ⟨c, hc⟩ : ∃ c, kk % 4 = c := ⟨_, rfl⟩
  have hc0 : 0 ≤ c := by omega
  have hc4 : c < 4 := by omega
  have hne := neq_tri
  go_enter Try.func3, Try.ntmps3
  go_wp2_with (go_at_call 7; refine (awake10 _).mono ?_; rintro e w1 ⟨rfl, hb1⟩)
  simp only [hc]
  clear hc
  go_loopw [5, 7, 8, 9] (fun v i _ _ wr => ∃ p : Nat, (p + 2 ≤ zs.length ∨ p = 0) ∧ i = .int .i64 ((p + 2 : Nat) : Int) ∧ OwnT wr w.heap.size v (trisTo c zs (triCount c (p + 2))) ∧ Below w.heap.size w wr) (fun _ i _ _ _ => zs.length - (intOf i).toNat)
  case atStart => exact ⟨0, .inr rfl, rfl, by
    have : triCount c (0 + 2) = 0 := by unfold triCount; split <;> (try split) <;> omega
    rw [this]; exact OwnT.nil _ _, hb1⟩
  case round =>
    clear hb1
    obtain ⟨p, hp, rfl, ho, hb⟩ := hrel
    have HL : Hid ((trisTo c zs (triCount c (p + 2))).length ≤ 1000000) := by
      show _ ≤ _
      have := triCount_lt c (n := p + 2)
      simp [trisTo]; omega
    by_cases hlt : p + 2 < zs.length
    · have HW := HZ.keep hb
      obtain ⟨b, off, x0, rfl, hx0, g0⟩ := HW.get p (by omega)
      obtain ⟨x1, hx1, g1⟩ := HW.more (p + 1) (by omega)
      obtain ⟨x2, hx2, g2⟩ := HW.more (p + 2) (by omega)
      obtain ⟨y0, hy0, k0⟩ := HW.more 0 (by omega)
      rw [Nat.add_zero] at k0
      have n0 : 0 < zs.length := by omega
      have n1 : p < zs.length := by omega
      have n2 : p + 1 < zs.length := by omega
      have n3 : (p : Int) < (zs.length : Int) := by omega
      have n4 : (p : Int) + 1 < (zs.length : Int) := by omega
      have n5 : (p : Int) + 2 < (zs.length : Int) := by omega
      have n6 : (0 : Int) ≤ (p : Int) + 1 := by omega
      have n7 : (0 : Int) ≤ (p : Int) := by omega
      have e1 : IntKind.i64.wrap ((p : Int) + 2 - 2) = (p : Int) := by rw [IntWalk.i64_in _ (by omega)]; omega
      have e2 : IntKind.i64.wrap ((p : Int) + 2 - 1) = (p : Int) + 1 := by rw [IntWalk.i64_in _ (by omega)]; omega
      have e3 : ((p : Int) + 1).toNat = p + 1 := by omega
      have e4 : IntKind.i64.wrap (p : Int) = (p : Int) := IntWalk.i64_in _ (by omega)
      rcases (show c = 0 ∨ c = 1 ∨ c = 2 ∨ c = 3 by omega) with rfl | rfl | rfl | rfl
      · by_cases hm : p % 3 = 0
        · have t1 : (((p : Int) + 2) % 3 != 2) = false := by rw [bne_eq_false_iff_eq]; omega
          have HC : Hid _ := cnt0 p hm
          have HT : Hid (triAt 0 zs (triCount 0 (p + 2)) = ⟨x0, x1, x2⟩) := by show _ = _; rw [HC.out.2, at0 zs p hm, hx0.out, hx1.out, hx2.out]
          clear hm
          go_wp2
          go_quiet (fail)
          clear e1 e2 e3 e4
          go_wp2_with (at_builtin; refine app_tri rfl _ _ rfl rfl (OwnT.keep ho (below_draws _ _ _)) rfl rfl hb.size HL.out ?_; intro v1 w2 ho1 hg1)
          go_roundw
          case rel => exact ⟨p + 1, by omega, by go_num, want_more HC.out.1 HT.out ho1, OwnT.below (OwnT.keep ho (below_draws _ _ _)) (hb.trans (below_draws _ _ _)) _ hg1 (Nat.le_refl _) hb.size⟩
          case measure => simp [intOf]; omega
        · have t1 : (((p : Int) + 2) % 3 != 2) = true := by rw [bne_iff_ne]; omega
          have HC : Hid _ := cnt0' p hm
          clear hm
          go_wp2
          go_quiet (fail)
          clear e1 e2 e3 e4
          go_wp2
          go_roundw
          case rel => exact ⟨p + 1, by omega, by go_num, by rw [HC.out]; exact OwnT.keep ho (below_draws _ _ _), hb.trans (below_draws _ _ _)⟩
          case measure => simp [intOf]; omega
      · by_cases hm : p % 2 = 0
        · have t1 : (((p : Int) + 2) % 2 == 1) = false := by rw [beq_eq_false_iff_ne]; omega
          have HC : Hid _ := cnt12 1 p (.inl rfl)
          have HT : Hid (triAt 1 zs (triCount 1 (p + 2)) = ⟨x0, x1, x2⟩) := by show _ = _; rw [HC.out.2, hx0.out, hx1.out, hx2.out]; simp [triAt, hm]
          clear hm
          go_wp2
          go_quiet (fail)
          clear e1 e2 e3 e4
          go_wp2_with (at_builtin; refine app_tri rfl _ _ rfl rfl (OwnT.keep ho (below_draws _ _ _)) rfl rfl hb.size HL.out ?_; intro v1 w2 ho1 hg1)
          go_roundw
          case rel => exact ⟨p + 1, by omega, by go_num, want_more HC.out.1 HT.out ho1, OwnT.below (OwnT.keep ho (below_draws _ _ _)) (hb.trans (below_draws _ _ _)) _ hg1 (Nat.le_refl _) hb.size⟩
          case measure => simp [intOf]; omega
        · have t1 : (((p : Int) + 2) % 2 == 1) = true := by rw [beq_iff_eq]; omega
          have HC : Hid _ := cnt12 1 p (.inl rfl)
          have HT : Hid (triAt 1 zs (triCount 1 (p + 2)) = ⟨x1, x0, x2⟩) := by show _ = _; rw [HC.out.2, hx0.out, hx1.out, hx2.out]; simp [triAt, show p % 2 = 1 by omega]
          clear hm
          go_wp2
          go_quiet (fail)
          clear e1 e2 e3 e4
          go_wp2_with (at_builtin; refine app_tri rfl _ _ rfl rfl (OwnT.keep ho (below_draws _ _ _)) rfl rfl hb.size HL.out ?_; intro v1 w2 ho1 hg1)
          go_roundw
          case rel => exact ⟨p + 1, by omega, by go_num, want_more HC.out.1 HT.out ho1, OwnT.below (OwnT.keep ho (below_draws _ _ _)) (hb.trans (below_draws _ _ _)) _ hg1 (Nat.le_refl _) hb.size⟩
          case measure => simp [intOf]; omega
      · have HC : Hid _ := cnt12 2 p (.inr rfl)
        have HT : Hid (triAt 2 zs (triCount 2 (p + 2)) = ⟨y0, x1, x2⟩) := by show _ = _; rw [HC.out.2, hy0.out, hx1.out, hx2.out]; simp [triAt]
        go_wp2
        go_quiet (fail)
        clear e1 e2 e3 e4
        go_wp2_with (at_builtin; refine app_tri rfl _ _ rfl rfl (OwnT.keep ho (below_draws _ _ _)) rfl rfl hb.size HL.out ?_; intro v1 w2 ho1 hg1)
        go_roundw
        case rel => exact ⟨p + 1, by omega, by go_num, want_more HC.out.1 HT.out ho1, OwnT.below (OwnT.keep ho (below_draws _ _ _)) (hb.trans (below_draws _ _ _)) _ hg1 (Nat.le_refl _) hb.size⟩
        case measure => simp [intOf]; omega
      · go_wp2
        go_quiet (fail)
        clear e1 e2 e3 e4
        go_wp2
        go_roundw
        case rel => exact ⟨p + 1, by omega, by go_num, OwnT.keep ho (below_draws _ _ _), hb.trans (below_draws _ _ _)⟩
        case measure => simp [intOf]; omega
    · obtain ⟨l1, hl1⟩ : ∃ l, l = trisTo c zs (triCount c (p + 2)) := ⟨_, rfl⟩
      obtain ⟨l2, hl2⟩ : ∃ l, l = tris c zs := ⟨_, rfl⟩
      have hll : l1 = l2 := by
        rw [hl1, hl2]; unfold tris trisTo
        have : triCount c (p + 2) = triCount c zs.length := by
          rcases hp with hp | rfl
          · rw [show p + 2 = zs.length by omega]
          · unfold triCount; split <;> (try split) <;> omega
        rw [this]
      have hl3 : l2.length ≤ 100 := by rw [hl2, tris_len]; exact Nat.le_trans (triCount_lt _) (by omega)
      rw [← hl1] at ho
      subst hll
      have HL2 : Hid _ := hl2
      clear hl1 hl2 HL
      go_wp2_with (go_at_call 8; with_reducible refine (tri_calls hc0 (HZ.keep hb) (by omega)).mono ?_; rintro e w2 ⟨v1, rfl, ho1, hb2⟩; rw [← HL2.out] at ho1; have ho := ho.keep hb2; obtain ⟨a1, c1, rfl, ht1⟩ := ho1.ts; obtain ⟨a2, c2, rfl, ht2⟩ := ho.ts)
      have HB : Hid _ := hb.trans (hb2.mono hb.size)
      clear hb hb2 hp
      go_loopw [11, 83] (fun _ i wr => ∃ k q : Nat, k ≤ l1.length ∧ i = .int .i64 k ∧ Hid (wr = w2.drewN q)) (fun _ i _ => l1.length - (intOf i).toNat)
      case atStart => exact ⟨0, 0, by omega, rfl, rfl⟩
      case round =>
        obtain ⟨k, q, hk, rfl, hq⟩ := hrel
        have hbq : Below w2.heap.size w2 wr := by rw [hq.out]; exact below_draws _ _ _
        by_cases hlt : k < l1.length
        · obtain ⟨b, off, x, y, z, rfl, e1, f0, f1, f2⟩ := (ht1.keep hbq).get k hlt
          obtain ⟨b', off', x', y', z', rfl, e2, g0, g1, g2⟩ := (ht2.keep hbq).get k (by omega)
          have e3 : (some (⟨x, y, z⟩ : T3)) = some ⟨x', y', z'⟩ := by rw [← e1.out, ← e2.out]
          simp only [Option.some.injEq, T3.mk.injEq] at e3
          obtain ⟨rfl, rfl, rfl⟩ := e3
          have n3 : (k : Int) < (l1.length : Int) := by omega
          have n4 : (0 : Int) ≤ (k : Int) := by omega
          go_wp2
          go_quiet (fail)
          go_wp2
          go_roundw
          case rel => exact ⟨k + 1, q + nq, by omega, by go_num, by show _ = _; rw [hq.out, World.drewN_drewN]⟩
          case measure => simp [intOf]; omega
        · go_wp2
          go_ret
          refine ⟨rfl, HB.out.trans ?_⟩
          rw [hq.out]; exact below_draws _ _ _
end Go.Proofs.Ytgmkfnadjhophaa
