/-
  Whether numbers may be: the plain law, and the walk of mesh.Check.
-/
import Derived.Test.YtgmkfnadjhophaaInts
import Derived.WalkLawsBesides
import Derived.BigRegion
import Derived.BigQuiet
namespace Go.Proofs.Ytgmkfnadjhophaa
open Go.RowKit

def badNo (v n : Int) : Bool := decide (n < 0) || decide (n ≥ v)
def chkBase (k : Int) (n : Nat) : Int := if k ≥ 3 then 5 else if n > 96 then 7 else if (k = 0 ∧ n % 3 ≠ 0) ∨ (k ≠ 0 ∧ (n = 1 ∨ n = 2)) then 6 else 0
def chk (k v : Int) (zs : List Int) : Int := if chkBase k zs.length = 0 ∧ zs.any (badNo v) = true then 14 else chkBase k zs.length
theorem any_take {v : Int} {zs : List Int} {j : Nat} (h : j < zs.length) : (zs.take (j + 1)).any (badNo v) = ((zs.take j).any (badNo v) || badNo v (zs.getD j 0)) := by
  rw [List.take_add_one, List.any_append]
  simp [List.getD, h]
theorem any_hit {v : Int} {zs : List Int} {j : Nat} (h : j < zs.length) (hb : badNo v (zs.getD j 0) = true) : zs.any (badNo v) = true := by
  rw [List.any_eq_true]
  exact ⟨zs[j], List.getElem_mem h, by simpa [List.getD, h] using hb⟩
theorem chk_base {k v : Int} {zs : List Int} {b : Int} (h : chkBase k zs.length = b) (h0 : b ≠ 0) : chk k v zs = b := by unfold chk; rw [h, if_neg (fun h => h0 h.1)]
theorem chk_hit {k v : Int} {zs : List Int} (h : chkBase k zs.length = 0) (h0 : zs.any (badNo v) = true) : chk k v zs = 14 := by unfold chk; rw [if_pos ⟨h, h0⟩]
theorem chk_ok {k v : Int} {zs : List Int} (h : chkBase k zs.length = 0) (h0 : zs.any (badNo v) = false) : chk k v zs = 0 := by unfold chk; rw [if_neg (by rw [h0]; simp), h]

set_option maxRecDepth 10000 in
set_option maxHeartbeats 1000000 in
theorem check_calls (k v : Int) (hk : 0 ≤ k ∧ k < 256) {a : Option Addr} {n cap : Nat} {zs : List Int} {w : World} (HZ : Ints w a n cap zs) :
    Calls Try.prog 9 #[.int .u8 k, .slice a n cap, .int .i64 v] w fun e w' => e = .returned (.int .i64 (chk k v zs)) ∧ ∃ q, w' = w.drewN q := by
  have hbig := Sl.big HZ
  have hle := Sl.le HZ
  have hlen := HZ.len
  subst hlen
  by_cases h3 : k ≥ 3
  · have HR : Hid _ := chk_base (v := v) (zs := zs) (show chkBase k zs.length = 5 by simp [chkBase, h3]) (by decide)
    have d1 : decide (k ≥ 3) = true := by simp [h3]
    clear h3
    go_enter Try.func9, Try.ntmps9
    go_wp2
    go_ret
    exact ⟨by rw [HR.out]; rfl, 0, rfl⟩
  have d1 : decide (k ≥ 3) = false := by simp; omega
  by_cases h96 : zs.length > 96
  · have HR : Hid _ := chk_base (v := v) (zs := zs) (show chkBase k zs.length = 7 by simp [chkBase, h96]; omega) (by decide)
    have d2 : decide ((zs.length : Int) > 96) = true := by simp; omega
    clear h96 h3
    go_enter Try.func9, Try.ntmps9
    go_wp2
    go_ret
    exact ⟨by rw [HR.out]; rfl, 0, rfl⟩
  have d2 : decide ((zs.length : Int) > 96) = false := by simp; omega
  by_cases h6 : (k = 0 ∧ zs.length % 3 ≠ 0) ∨ (k ≠ 0 ∧ (zs.length = 1 ∨ zs.length = 2))
  · have HR : Hid _ := chk_base (v := v) (zs := zs) (show chkBase k zs.length = 6 by unfold chkBase; rw [if_neg h3, if_neg h96, if_pos h6]) (by decide)
    rcases h6 with ⟨rfl, h6⟩ | ⟨h0, h6⟩
    · have e1 : ((zs.length : Int) % 3 != 0) = true := by rw [bne_iff_ne]; omega
      clear h3 h96 h6
      go_enter Try.func9, Try.ntmps9
      go_wp2
      go_ret
      exact ⟨by rw [HR.out]; rfl, 0, rfl⟩
    · have e0 : (k == 0) = false := by rw [beq_eq_false_iff_ne]; omega
      have e1 : (k != 0) = true := by rw [bne_iff_ne]; omega
      by_cases h61 : zs.length = 1
      · have e2 : ((zs.length : Int) == 1) = true := by rw [beq_iff_eq]; omega
        clear h3 h96 h6 h0 h61
        go_enter Try.func9, Try.ntmps9
        go_wp2
        go_ret
        exact ⟨by rw [HR.out]; rfl, 0, rfl⟩
      · have e2 : ((zs.length : Int) == 1) = false := by rw [beq_eq_false_iff_ne]; omega
        have e3 : ((zs.length : Int) == 2) = true := by rw [beq_iff_eq]; omega
        clear h3 h96 h6 h0 h61
        go_enter Try.func9, Try.ntmps9
        go_wp2
        go_ret
        exact ⟨by rw [HR.out]; rfl, 0, rfl⟩
  have HR : Hid (chkBase k zs.length = 0) := by show _ = _; unfold chkBase; rw [if_neg h3, if_neg h96, if_neg h6]
  obtain ⟨b0, b1, b2, b3, b4, e0, e1, e2, e3, e4, hbb⟩ : ∃ b0 b1 b2 b3 b4 : Bool, (k == 0) = b0 ∧ (k != 0) = b1 ∧ ((zs.length : Int) % 3 != 0) = b2 ∧ ((zs.length : Int) == 1) = b3 ∧ ((zs.length : Int) == 2) = b4 ∧ ((b0 = true ∧ b1 = false ∧ b2 = false) ∨ (b0 = false ∧ b1 = true ∧ b3 = false ∧ b4 = false)) := by
    refine ⟨_, _, _, _, _, rfl, rfl, rfl, rfl, rfl, ?_⟩
    by_cases hk0 : k = 0
    · left
      refine ⟨by rw [beq_iff_eq]; exact hk0, by rw [bne_eq_false_iff_eq]; exact hk0, by rw [bne_eq_false_iff_eq]; omega⟩
    · right
      refine ⟨by rw [beq_eq_false_iff_ne]; exact hk0, by rw [bne_iff_ne]; exact hk0, by rw [beq_eq_false_iff_ne]; omega, by rw [beq_eq_false_iff_ne]; omega⟩
  clear h6
  rcases hbb with ⟨rfl, rfl, rfl⟩ | ⟨rfl, rfl, rfl, rfl⟩
  all_goals
    go_enter Try.func9, Try.ntmps9
    go_wp2
    go_loopw [8, 41] (fun _ i wr => ∃ j q : Nat, j ≤ zs.length ∧ i = .int .i64 j ∧ (zs.take j).any (badNo v) = false ∧ Hid (wr = w.drewN q)) (fun _ i _ => zs.length - (intOf i).toNat)
    case atStart => exact ⟨0, 0, by omega, rfl, rfl, rfl⟩
    case round =>
      obtain ⟨j, q, hj, rfl, hany, hq⟩ := hrel
      have hbq : Below w.heap.size w wr := by rw [hq.out]; exact below_draws _ _ _
      by_cases hlt : j < zs.length
      · obtain ⟨b, off, x, rfl, hx, g0⟩ := (HZ.keep hbq).get j hlt
        have ha := any_take (v := v) hlt
        rw [hany, Bool.false_or, ← hx.out] at ha
        by_cases hneg : x < 0
        · have c1 : decide (x < 0) = true := by simp [hneg]
          have HF : Hid _ := chk_hit (v := v) HR.out (any_hit hlt (by rw [← hx.out]; simp [badNo, hneg]))
          clear hneg ha
          go_wp2
          go_ret
          exact ⟨by rw [HF.out]; rfl, q, hq.out⟩
        have c1 : decide (x < 0) = false := by simp; omega
        by_cases hv : x ≥ v
        · have c2 : decide (x ≥ v) = true := by simp [hv]
          have HF : Hid _ := chk_hit (v := v) HR.out (any_hit hlt (by rw [← hx.out]; simp [badNo, hv]))
          clear hneg hv ha
          go_wp2
          go_ret
          exact ⟨by rw [HF.out]; rfl, q, hq.out⟩
        have c2 : decide (x ≥ v) = false := by simp; omega
        have HA : Hid ((zs.take (j + 1)).any (badNo v) = false) := by show _ = _; rw [ha, badNo, c1, c2]; rfl
        clear hneg hv ha
        go_wp2
        go_roundw
        case rel => exact ⟨j + 1, q, by omega, by go_num, HA.out, hq⟩
        case measure => simp [intOf]; omega
      · rw [List.take_of_length_le (by omega)] at hany
        have HF : Hid _ := chk_ok HR.out hany
        go_wp2
        go_ret
        exact ⟨by rw [HF.out]; rfl, q, hq.out⟩
end Go.Proofs.Ytgmkfnadjhophaa
