/-
  The walk of the law 'MeshChecks'.
-/
import Derived.Test.YtgmkfnadjhophaaCheck
import Derived.Test.YtgmkfnadjhophaaMeshLaw
namespace Go.Proofs.Ytgmkfnadjhophaa
open Go.RowKit

def near (bs : List UInt8) : List Int := bs.map fun b => (b.toNat : Int) % 20
theorem near_len (bs : List UInt8) : (near bs).length = bs.length := by simp [near]
theorem near_take (bs : List UInt8) (j : Nat) (h : j < bs.length) : near (bs.take (j + 1)) = near (bs.take j) ++ [(bs[j].toNat : Int) % 20] := by
  unfold near
  rw [List.take_add_one, List.map_append]
  simp [h]
def chkTo (k v : Int) (zs : List Int) (j : Nat) : Int := if chkBase k zs.length = 0 ∧ (zs.take j).any (badNo v) = true then 14 else chkBase k zs.length
theorem chkTo_all (k v : Int) (zs : List Int) : chkTo k v zs zs.length = chk k v zs := by unfold chkTo chk; rw [List.take_length]
theorem chkTo_zero (k v : Int) (zs : List Int) : chkTo k v zs 0 = chkBase k zs.length := by simp [chkTo]
theorem chkTo_hit {k v : Int} {zs : List Int} {j : Nat} (h : j < zs.length) (h0 : chkTo k v zs j = 0) (hb : badNo v (zs.getD j 0) = true) : chkTo k v zs (j + 1) = 14 := by
  unfold chkTo at h0 ⊢
  rw [any_take h, hb, Bool.or_true]
  split at h0
  · simp at h0
  · rw [if_pos ⟨h0, rfl⟩]
theorem chkTo_miss {k v : Int} {zs : List Int} {j : Nat} (h : j < zs.length) (hb : badNo v (zs.getD j 0) = false) : chkTo k v zs (j + 1) = chkTo k v zs j := by
  unfold chkTo
  rw [any_take h, hb, Bool.or_false]
theorem chkTo_stay {k v : Int} {zs : List Int} {j : Nat} (h0 : chkTo k v zs j ≠ 0) : chkTo k v zs (j + 1) = chkTo k v zs j := by
  unfold chkTo at h0 ⊢
  split at h0
  · rename_i h
    have : (zs.take (j + 1)).any (badNo v) = true := by rw [List.take_add_one, List.any_append, h.2]; rfl
    rw [if_pos ⟨h.1, this⟩, if_pos h]
  · rename_i h
    rw [if_neg h, if_neg (fun g => h0 g.1)]

/-- The ways of the tests ahead of the loop, as the walk meets them. -/
theorem base_ways (k : Int) (n : Nat) (hk : 0 ≤ k ∧ k < 5) : ∃ b0 b1 b2 b3 b4 b5 b6 : Bool, decide (k > 2) = b0 ∧ decide ((n : Int) > 96) = b1 ∧ (k == 0) = b2 ∧ ((n : Int) % 3 != 0) = b3 ∧ decide (k > 0) = b4 ∧ ((n : Int) == 1) = b5 ∧ ((n : Int) == 2) = b6 ∧
    ((b0 = true ∧ Hid (chkBase k n = 5)) ∨ (b0 = false ∧ b1 = true ∧ Hid (chkBase k n = 7)) ∨ (b0 = false ∧ b1 = false ∧ b2 = true ∧ b3 = true ∧ Hid (chkBase k n = 6)) ∨
      (b0 = false ∧ b1 = false ∧ b2 = true ∧ b3 = false ∧ b4 = false ∧ Hid (chkBase k n = 0)) ∨ (b0 = false ∧ b1 = false ∧ b2 = false ∧ b4 = true ∧ b5 = true ∧ Hid (chkBase k n = 6)) ∨
      (b0 = false ∧ b1 = false ∧ b2 = false ∧ b4 = true ∧ b5 = false ∧ b6 = true ∧ Hid (chkBase k n = 6)) ∨ (b0 = false ∧ b1 = false ∧ b2 = false ∧ b4 = true ∧ b5 = false ∧ b6 = false ∧ Hid (chkBase k n = 0))) := by
  refine ⟨_, _, _, _, _, _, _, rfl, rfl, rfl, rfl, rfl, rfl, rfl, ?_⟩
  simp only [decide_eq_true_eq, decide_eq_false_iff_not, beq_iff_eq, beq_eq_false_iff_ne, bne_iff_ne, bne_eq_false_iff_eq, Hid]
  unfold chkBase
  by_cases h1 : k ≥ 3
  · left; rw [if_pos h1]; omega
  rw [if_neg h1]
  right
  by_cases h2 : n > 96
  · left; rw [if_pos h2]; omega
  rw [if_neg h2]
  right
  by_cases h3 : k = 0
  · by_cases h4 : n % 3 = 0
    · right; left; rw [if_neg (by omega)]; omega
    · left; rw [if_pos (by omega)]; omega
  · right; right
    by_cases h5 : n = 1
    · left; rw [if_pos (by omega)]; omega
    by_cases h6 : n = 2
    · right; left; rw [if_pos (by omega)]; omega
    · right; right; rw [if_neg (by omega)]; omega

set_option maxRecDepth 10000 in
set_option maxHeartbeats 4000000 in
theorem checks_walk (kk : Int) (wk : (Lit.int .u8 kk).wf = true) {a : Option Addr} {n cap : Nat} {zs : List Int} {w : World} (HZ : Ints w a n cap zs) (_ : ∀ z ∈ zs, (Lit.int .i64 z).wf = true)
    {a' : Option Addr} {n' cap' : Nat} {bs : List UInt8} (HS : Bytes w a' n' cap' bs) (vv : Int) (_ : (Lit.int .i64 vv).wf = true) :
    Calls Try.prog 6 #[.int .u8 kk, .slice a n cap, .slice a' n' cap', .int .i64 vv] w fun e w' => e = .returned (.bool true) ∧ Below w.heap.size w w' := by
  have hbig := Sl.big HZ
  have hle := Sl.le HZ
  have hlen := HZ.len
  subst hlen
  have hbig' := Sl.big HS
  have hle' := Sl.le HS
  have hlen' := HS.len
  subst hlen'
  have hk := bounds_u8 wk
  by_cases h200 : zs.length > 200
  · have d1 : decide ((zs.length : Int) > 200) = true := by simp; omega
    clear h200
    go_enter Try.func6, Try.ntmps6
    go_wp2_with (go_at_call 7; refine (awake10 _).mono ?_; rintro e w1 ⟨rfl, hb1⟩)
    go_ret
    exact ⟨rfl, hb1⟩
  have d1 : decide ((zs.length : Int) > 200) = false := by simp; omega
  by_cases h201 : bs.length > 200
  · have d2 : decide ((bs.length : Int) > 200) = true := by simp; omega
    clear h200 h201
    go_enter Try.func6, Try.ntmps6
    go_wp2_with (go_at_call 7; refine (awake10 _).mono ?_; rintro e w1 ⟨rfl, hb1⟩)
    go_ret
    exact ⟨rfl, hb1⟩
  have d2 : decide ((bs.length : Int) > 200) = false := by simp; omega
  obtain ⟨k5, hk5⟩ : ∃ k5, kk % 5 = k5 := ⟨_, rfl⟩
  have hk5b : 0 ≤ k5 ∧ k5 < 5 := by omega
  obtain ⟨k3, hk3⟩ : ∃ k3, kk % 3 = k3 := ⟨_, rfl⟩
  have hk3b : 0 ≤ k3 ∧ k3 < 3 := by omega
  go_enter Try.func6, Try.ntmps6
  go_wp2_with (go_at_call 7; refine (awake10 _).mono ?_; rintro e w1 ⟨rfl, hb1⟩)
  go_loopw [9, 11, 31] (fun v _ i wr => ∃ j : Nat, j ≤ bs.length ∧ i = .int .i64 j ∧ OwnI wr w.heap.size v (near (bs.take j)) ∧ Below w.heap.size w wr) (fun _ _ i _ => bs.length - (intOf i).toNat)
  case atStart => exact ⟨0, by omega, rfl, OwnI.nil _ _, hb1⟩
  case round =>
    clear hb1
    obtain ⟨j, hj, rfl, ho, hb⟩ := hrel
    by_cases hlt : j < bs.length
    · obtain ⟨b, off, rfl, g0⟩ := (HS.keep hb).at j hlt
      obtain ⟨x, hx⟩ : ∃ x, x = (bs[j].toNat : Int) := ⟨_, rfl⟩
      have hxb : 0 ≤ x ∧ x < 256 := by have := bs[j].toNat_lt; omega
      rw [← hx] at g0
      have HN : Hid (near (bs.take (j + 1)) = near (bs.take j) ++ [x % 20]) := by show _ = _; rw [near_take bs j hlt, hx]
      have HL : Hid ((near (bs.take j)).length ≤ 1000000) := by show _ ≤ _; rw [near_len, List.length_take]; omega
      clear hx
      go_wp2_with (at_builtin; refine app_int rfl _ _ rfl rfl ho rfl rfl hb.size HL.out ?_; intro v1 w2 ho1 hg1)
      go_roundw
      case rel => exact ⟨j + 1, by omega, by go_num, by rw [HN.out]; exact ho1, OwnI.belowA ho hb _ hg1 (Nat.le_refl _) hb.size⟩
      case measure => simp [intOf]; omega
    · rw [List.take_of_length_le (by omega)] at ho
      have HN : Hid ((near bs).length ≤ 200) := by show _ ≤ _; rw [near_len]; omega
      obtain ⟨ys, hys⟩ : ∃ ys, ys = near bs := ⟨_, rfl⟩
      rw [← hys] at ho HN
      clear hys
      obtain ⟨a2, c2, rfl, HY⟩ := ho.ints
      have hyl : ys.length ≤ 200 := HN.out
      obtain ⟨wo, rfl⟩ : ∃ wo : World, wo = wr := ⟨_, rfl⟩
      go_wp2
      go_loopw [12, 13, 14, 15, 16, 18, 46] (fun _ _ _ _ _ _ i wr => ∃ j : Nat, j ≤ 2 ∧ i = .int .i64 j ∧ Sl wr (some ⟨wo.heap.size, 0, none⟩) 2 2 1 [.slice a zs.length cap, .slice a2 ys.length c2] ∧ Ints wr a2 ys.length c2 ys ∧ Below w.heap.size w wr) (fun _ _ _ _ _ _ i _ => 2 - (intOf i).toNat)
      case atStart =>
        exact ⟨0, by omega, rfl, Sl.of_heap (heap_new wo _) rfl rfl (Nat.le_refl _) (by decide), HY.keep ((Below.refl _ _).alloc (Nat.le_refl _) _), hb.alloc hb.size _⟩
      case round =>
        clear HY ho hb
        obtain ⟨j, hj2, rfl, HT, HY, hb⟩ := hrel
        by_cases hlt : j < 2
        · obtain ⟨ax, cx, xs, vx, HX, hx96, hcell, hcell2⟩ : ∃ ax cx, ∃ xs : List Int, ∃ vx : Int, Ints wr ax xs.length cx xs ∧ xs.length ≤ 200 ∧ wr.cell? ⟨wo.heap.size, j, none⟩ = some (.slice ax xs.length cx) ∧ (wr.alloc (.cells #[.int .i64 vv, .int .i64 (19 + k3)] 3)).cell? ⟨wr.heap.size, j, none⟩ = some (.int .i64 vx) := by
            have h1 := Sl.cell HT j (by simpa using hlt)
            rw [Nat.zero_add] at h1
            rcases (show j = 0 ∨ j = 1 by omega) with rfl | rfl
            · exact ⟨a, cap, zs, vv, HZ.keep hb, by omega, h1, cell_at (heap_new wr _) 0⟩
            · exact ⟨a2, c2, ys, 19 + k3, HY, hyl, h1, cell_at (heap_new wr _) 1⟩
          have hball : Below wr.heap.size wr (wr.alloc (.cells #[.int .i64 vv, .int .i64 (19 + k3)] 3)) := (Below.refl _ _).alloc (Nat.le_refl _) _
          have HX2 := HX.keep hball
          have HY2 := HY.keep hball
          have HT2 := HT.keep hball
          have HB2 : Hid _ := hb.trans (hball.mono hb.size)
          have hxbig := Sl.big HX
          have hxle := Sl.le HX
          clear hball HX HY HT hb
          obtain ⟨b0, b1, b2, b3, b4, b5, b6, t0, t1, t2, t3, t4, t5, t6, hw⟩ := base_ways k5 xs.length hk5b
          rcases hw with ⟨rfl, HC⟩ | ⟨rfl, rfl, HC⟩ | ⟨rfl, rfl, rfl, rfl, HC⟩ | ⟨rfl, rfl, rfl, rfl, rfl, HC⟩ | ⟨rfl, rfl, rfl, rfl, rfl, HC⟩ | ⟨rfl, rfl, rfl, rfl, rfl, rfl, HC⟩ | ⟨rfl, rfl, rfl, rfl, rfl, rfl, HC⟩
          all_goals
            go_wp2
            clear t0 t1 t2 t3 t4 t5 t6
            go_loopw [16, 18, 94] (fun s _ i wr2 => ∃ p : Nat, p ≤ xs.length ∧ i = .int .i64 p ∧ s = .int .i64 (chkTo k5 vx xs p) ∧ Hid (wr2 = wr.alloc (.cells #[.int .i64 vv, .int .i64 (19 + k3)] 3))) (fun _ _ i _ => xs.length - (intOf i).toNat)
            case atStart => exact ⟨0, by omega, rfl, by rw [chkTo_zero, HC.out], rfl⟩
            case round =>
              obtain ⟨p, hp, rfl, rfl, hw2⟩ := hrel
              rw [← hw2.out] at HX2 HY2 HT2 HB2
              by_cases hltp : p < xs.length
              · obtain ⟨b, off, x, rfl, hx, g0⟩ := HX2.get p hltp
                by_cases hc0 : chkTo k5 vx xs p = 0
                · have e0 : (chkTo k5 vx xs p == 0) = true := by rw [beq_iff_eq]; exact hc0
                  by_cases hneg : x < 0
                  · have c1 : decide (x < 0) = true := by simp [hneg]
                    have HF : Hid _ := chkTo_hit hltp hc0 (show badNo vx (xs.getD p 0) = true by rw [← hx.out]; simp [badNo, hneg])
                    clear hneg hc0
                    go_wp2
                    go_roundw
                    case rel => exact ⟨p + 1, by omega, by go_num, by rw [HF.out], hw2⟩
                    case measure => simp [intOf]; omega
                  have c1 : decide (x < 0) = false := by simp; omega
                  by_cases hv : x ≥ vx
                  · have c2 : decide (x ≥ vx) = true := by simp [hv]
                    have HF : Hid _ := chkTo_hit hltp hc0 (show badNo vx (xs.getD p 0) = true by rw [← hx.out]; simp [badNo, hv])
                    clear hneg hv hc0
                    go_wp2
                    go_roundw
                    case rel => exact ⟨p + 1, by omega, by go_num, by rw [HF.out], hw2⟩
                    case measure => simp [intOf]; omega
                  have c2 : decide (x ≥ vx) = false := by simp; omega
                  have HF : Hid _ := chkTo_miss (k := k5) hltp (show badNo vx (xs.getD p 0) = false by rw [← hx.out, badNo, c1, c2]; rfl)
                  clear hneg hv hc0
                  go_wp2
                  go_roundw
                  case rel => exact ⟨p + 1, by omega, by go_num, by rw [HF.out], hw2⟩
                  case measure => simp [intOf]; omega
                · have e0 : (chkTo k5 vx xs p == 0) = false := by rw [beq_eq_false_iff_ne]; exact hc0
                  have HF : Hid _ := chkTo_stay hc0
                  clear hc0
                  go_wp2
                  go_roundw
                  case rel => exact ⟨p + 1, by omega, by go_num, by rw [HF.out], hw2⟩
                  case measure => simp [intOf]; omega
              · have hpe : p = xs.length := by omega
                have HF : Hid (chkTo k5 vx xs p = chk k5 vx xs) := by show _ = _; rw [hpe, chkTo_all]
                obtain ⟨r, hr⟩ : ∃ r, r = chk k5 vx xs := ⟨_, rfl⟩
                have hrr : (r != r) = false := by simp
                rw [HF.out, ← hr]
                have HR : Hid _ := hr
                clear hr HF
                go_wp2_with (go_at_call 9; refine (check_calls k5 vx (by omega) HX2).mono ?_; rintro e w5 ⟨rfl, q, hq⟩; rw [← HR.out])
                go_roundw
                case rel =>
                  subst hq
                  exact ⟨j + 1, by omega, by go_num, HT2.keep (below_draws _ _ _), HY2.keep (below_draws _ _ _), HB2.out.trans (below_draws _ _ _)⟩
                case measure => simp [intOf]; omega
        · have hj : j = 2 := by omega
          subst hj
          go_wp2
          go_ret
          exact ⟨rfl, hb⟩
end Go.Proofs.Ytgmkfnadjhophaa
