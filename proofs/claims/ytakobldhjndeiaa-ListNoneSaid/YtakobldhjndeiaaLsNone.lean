/-
  ListNone: the law's walk.
-/
import Derived.Test.YtakobldhjndeiaaLs17
import Derived.BigGuard
namespace Go.Proofs.Ytakobldhjndeiaa
open Go.RowKit
set_option linter.unusedVariables false
set_option linter.unusedSimpArgs false

set_option maxRecDepth 10000 in
/-- Lists without an arena: no bytes can be added, but none. -/
theorem add_bare {w : World} {lb : Nat} {SL : List Nat} {pd : Option Addr} (h : Ls w lb SL none pd (List.replicate 3 [])) (a : Option Addr) (n c : Nat) (hn : n ≤ 100) :
    Calls Try.prog 13 #[.pointer (some ⟨lb, 0, none⟩), .int .i64 1, .slice a n c] w fun e w' => e = .returned (.int .i64 (if n = 0 then 0 else 8)) ∧ Below w.heap.size w w' := by
  have HV := valid_yes h 1 (by simp)
  have HN := hid (fun w' (hb : Below w.heap.size w w') => needs_calls (h.keep hb) (t := 1) (cs := []) rfl (fun c hc => by cases hc) n (by omega))
  obtain ⟨cb, vs, hl, rfl⟩ := h
  have c0 := cell_at hl.top 0
  obtain ⟨N, hN, hN2⟩ : ∃ N : Nat, needN (([] : List Ck).map Ck.sh) n = N ∧ N = (n + 63) / 64 := ⟨_, rfl, rfl⟩
  rw [hN] at HN
  clear hl hN
  by_cases h0 : n = 0
  · subst h0
    obtain rfl : N = 0 := by omega
    clear hN2 hn
    go_enter Try.func13, Try.ntmps13
    go_wp2_with (go_at_call 22; refine HV.mono ?_; rintro e w1 ⟨rfl, rfl⟩)
    go_quiet (first
      | (go_at_call 23; exact Calls.quiet_of_same (HN.out _ (below_draws _ _ _)))
      | (go_at_call 24; exact Calls.quiet_of_same (room_nil _))
      | (go_at_call 16; exact Calls.quiet_of_same (used_nil _)))
    go_wp2
    go_loopw [2] (fun bv wr => bv = .slice a 0 c ∧ Below w1.heap.size w1 wr) (fun _ _ => 0)
    case atStart => exact ⟨rfl, below_draws _ _ _⟩
    case round =>
      obtain ⟨rfl, hb⟩ := hrel
      go_wp2
      go_ret
      exact ⟨rfl, hb⟩
  · have hp : 0 < N := by omega
    rw [if_neg h0]
    go_enter Try.func13, Try.ntmps13
    go_wp2_with (go_at_call 22; refine HV.mono ?_; rintro e w1 ⟨rfl, rfl⟩)
    go_quiet (first
      | (go_at_call 23; exact Calls.quiet_of_same (HN.out _ (below_draws _ _ _)))
      | (go_at_call 24; exact Calls.quiet_of_same (room_nil _))
      | (go_at_call 16; exact Calls.quiet_of_same (used_nil _)))
    go_wp2
    go_ret
    exact ⟨rfl, below_draws _ _ _⟩
set_option maxRecDepth 10000 in
set_option maxHeartbeats 4000000 in
theorem none_walk17 {w : World} (tiles : Int) (wt : (Lit.int .i64 tiles).wf = true) (z : Int) (wz : (Lit.int .i64 z).wf = true) {a : Option Addr} {n c : Nat} {b : List UInt8} (h0 : Bytes w a n c b) :
    Calls Try.prog 6 #[.int .i64 tiles, .int .i64 z, .slice a n c] w fun e w' => e = .returned (.bool true) ∧ Below w.heap.size w w' := by
  have H0 := hid h0
  clear h0
  by_cases hn : n ≤ 100
  · have e1 : decide ((100 : Int) < (n : Int)) = false := by simp; omega
    have e2 : decide (100 < n) = false := by simp; omega
    obtain ⟨m, hm, hm2⟩ : ∃ m : Int, (if (0 : Int) > tiles then (0 : Int) else tiles) = m ∧ m = max tiles 0 := ⟨_, rfl, by split <;> omega⟩
    obtain ⟨r, hr, hr2⟩ : ∃ r : Nat, (if (64 : Int) < m then (64 : Int) else m) = (r : Int) ∧ r = (min (max tiles 0) 64).toNat := ⟨(min (max tiles 0) 64).toNat, by split <;> omega, rfl⟩
    have HLN := fun pa pd w => lnew_calls tiles pa pd w
    rw [← hr2] at HLN
    have HLN2 := hid HLN
    have hr3 : r ≤ 64 := by omega
    clear hm2 hr2 HLN
    go_enter Try.func6, Try.ntmps6
    dsimp only [List.append_eq, List.cons_append, List.nil_append]
    go_upto_region 5 with (first
      | (go_at_call 8; refine (awake17 _).mono ?_; rintro e w0 ⟨rfl, hb0⟩))
    go_upto_region 6 with (first
      | (go_at_call 10; refine (new_calls 5 _).mono ?_; rintro e w1 ⟨g, SA, rfl, hA, hSA, hb1⟩)
      | (go_at_call 11; refine (dv_new 5 _).mono ?_; rintro e w2 ⟨gd, SD, rfl, hD, hSD, hb2⟩)
      | (go_at_call 9; refine (HLN2.out _ _ _).mono ?_; rintro e w3 ⟨lb, SL, rfl, hL, hSL, hb3⟩))
    obtain ⟨S, hs, hS⟩ := sys_made (n := r) hA hSA (Below.refl w1.heap.size w1) hD rfl hSD hb2 (Below.refl _ _) hL hSL hb3 hb1.size
    rw [show (min (max (5 : Int) 0) 4096).toNat = 5 from rfl] at hs
    have hb13 : Below w0.heap.size w0 w3 := (hb1.trans (hb2.mono hb1.size)).trans (hb3.mono (Nat.le_trans hb1.size hb2.size))
    have HB := hid (hb0.trans (hb13.mono hb0.size))
    have HS := hid hs
    have HSF := hid (show ∀ k ∈ S, w.heap.size ≤ k from fun k hk => Nat.le_trans hb0.size (hS k hk))
    clear hs hS hb13 hA hSA hb1 hD hSD hb2 hL hSL hb3 hb0 e1 e2
    by_cases hin : 0 ≤ z ∧ z < (r : Int)
    · obtain ⟨hz0, hz1⟩ := hin
      obtain ⟨t, rfl⟩ : ∃ t : Nat, z = (t : Int) := ⟨z.toNat, by omega⟩
      have htr : t < r := by omega
      have hr5 : (if 64 < tiles then (64 : Int) else tiles) = (r : Int) := by
        have : m = tiles := by omega
        rw [← this]; exact hr
      clear hm hr
      have HT := hid (show (List.replicate r ([] : List Ck))[t]? = some [] by simp [htr])
      have HRM := hid (show needN (([] : List Ck).map Ck.sh) b.length + hereN (List.replicate r ([] : List Ck)).flatten ≤ 5 by
        rw [none_flat, needN_nil, H0.out.len]; show _ + 0 ≤ 5; omega)
      have HOF := hid (show b ≠ [] → ∀ p, a = some p → p.block ∉ S from fun hne p hp hm => by
        obtain ⟨bk, off, e, hlt, _⟩ := H0.out.row (by simpa using hne)
        rw [hp] at e
        cases e
        have := HSF.out _ hm
        simp only [] at this
        omega)
      have q1 : (n : Int) = 0 ↔ n = 0 := by omega
      go_upto_region 8 with (go_at_call 13; refine (add_ok HS.out HT.out (by decide) (by omega) (H0.out.keep HB.out) HOF.out HRM.out).mono ?_; rintro e w4 ⟨rfl, S4, cs4, hs4, hsh4, hG4, hf4⟩; have HS4 := hid hs4; have HSF4 := hid (show ∀ k ∈ S4, w.heap.size ≤ k from fun k hk => (hG4 k hk).elim (fun h => HSF.out k h) (fun h => Nat.le_trans HB.out.size h)); have HB4 := hid (Fr.below HB.out hf4 HSF.out HB.out.size); clear hs4 hsh4 hG4 hf4)
      have HCC := hid (show cs4.length ≤ 4096 from by
        have := HS4.out.count (t := t) (cs := cs4) (by simp [htr])
        have h2 : ([] : List (Int × List UInt8)).length = 0 := rfl
        omega)
      go_upto_region 9 with (go_at_call 15; refine (empty_calls HS4.out (t := t) (cs := cs4) (by simp [htr]) (by have := HCC.out; omega) (by have := HCC.out; show 0 + _ < _; omega) (by decide) (by intro p hp; cases hp)).mono ?_; rintro e w5 ⟨S5, d5, hs5, hd5, htk5, hG5, hf5, hout⟩; have HS5 := hid hs5; have HB5 := hid (Fr.below HB4.out hf5 HSF4.out HB4.out.size); have HD5 := hid hd5; obtain ⟨v5, q5, c5, rfl⟩ : ∃ v5 q5 c5, e = .returned (.tuple #[.slice v5 q5 c5, .int .i64 0]) := (by
          rcases hout with ⟨v, h1, h2, _⟩ | ⟨_, q, h1, h2, h3⟩
          · obtain ⟨a6, c6, e6, _⟩ := h2.bytes
            rw [e6] at h1
            exact ⟨_, _, _, h1⟩
          · rcases h3 with h3 | ⟨f, m, _, h3⟩ <;> cases h3); clear hs5 hd5 htk5 hG5 hf5 hout)
      have HALL := hid (show ∀ c ∈ (((List.replicate r ([] : List Ck)).set t cs4).set t []).flatten, c.away = true from fun c hc => by
        rw [List.set_set] at hc
        simp at hc)
      go_upto_region 11 with (go_at_call 15; refine (empty_nil _ _).mono ?_; rintro e w6 ⟨rfl, rfl⟩)
      go_upto_region 12 with (go_at_call 9; refine (lnew_calls 3 none none _).mono ?_; rintro e w7 ⟨lb7, SL7, rfl, hL7, hSL7, hb7⟩)
      have HS7 := hid (HS5.out.keep hb7)
      have HB7 := hid (HB5.out.trans (hb7.mono HB5.out.size))
      have HL7 := hid (show Ls w7 lb7 SL7 none none (List.replicate 3 []) from hL7)
      clear hL7 hSL7 hb7
      by_cases hn0 : n = 0
      · subst hn0
        go_wp2_with (first
          | (go_at_call 13; first | ((with_reducible refine (add_nil _ _ _ _ _).mono ?_); rintro e w9 ⟨rfl, rfl⟩) | ((with_reducible refine (add_bare HL7.out a 0 c (by decide)).mono ?_); rintro e w8 ⟨rfl, hb8⟩; have hs8 := HS7.out.keep hb8; have HB8 := hid (HB7.out.trans (hb8.mono HB7.out.size)); have HSP := hid (spill_none hs8 (by rw [hs8.away, show awayN (((List.replicate r ([] : List Ck)).set t cs4).set t []).flatten = 0 by rw [List.set_set]; simp [awayN]]; decide) HALL.out); clear hb8 hs8))
          | (go_at_call 17; refine (len_nil _ _).mono ?_; rintro e w9 ⟨rfl, rfl⟩)
          | (go_at_call 20; refine (away_nil _).mono ?_; rintro e w9 ⟨rfl, rfl⟩)
          | (go_at_call 14; first | ((with_reducible refine (spill_nil _).mono ?_); rintro e w9 ⟨rfl, rfl⟩) | ((with_reducible refine HSP.out.mono ?_); rintro e w9 ⟨rfl, hb9⟩)))
        go_ret
        exact ⟨rfl, HB8.out.trans (hb9.mono HB8.out.size)⟩
      · have hn1 : ¬ ((n : Int) = 0) := by omega
        have hnb : ((n : Int) == 0) = false := beq_eq_false_iff_ne.2 hn1
        go_wp2_with (first
          | (go_at_call 13; first | ((with_reducible refine (add_nil _ _ _ _ _).mono ?_); rintro e w9 ⟨rfl, rfl⟩) | ((with_reducible refine (add_bare HL7.out a n c hn).mono ?_); rintro e w8 ⟨rfl, hb8⟩; rw [if_neg hn0]; have hs8 := HS7.out.keep hb8; have HB8 := hid (HB7.out.trans (hb8.mono HB7.out.size)); have HSP := hid (spill_none hs8 (by rw [hs8.away, show awayN (((List.replicate r ([] : List Ck)).set t cs4).set t []).flatten = 0 by rw [List.set_set]; simp [awayN]]; decide) HALL.out); clear hb8 hs8))
          | (go_at_call 17; refine (len_nil _ _).mono ?_; rintro e w9 ⟨rfl, rfl⟩)
          | (go_at_call 20; refine (away_nil _).mono ?_; rintro e w9 ⟨rfl, rfl⟩)
          | (go_at_call 14; first | ((with_reducible refine (spill_nil _).mono ?_); rintro e w9 ⟨rfl, rfl⟩) | ((with_reducible refine HSP.out.mono ?_); rintro e w9 ⟨rfl, hb9⟩)))
        go_ret
        exact ⟨rfl, HB8.out.trans (hb9.mono HB8.out.size)⟩
    · have hz : z < 0 ∨ 0 ≤ z ∧ tiles < 0 ∧ r = 0 ∨ 0 ≤ z ∧ 0 ≤ tiles ∧ (r : Int) ≤ z ∧ m = tiles := by
        rcases Int.lt_or_le z 0 with h1 | h1
        · exact .inl h1
        · rcases Int.lt_or_le tiles 0 with h2 | h2
          · have hm0 : m = 0 := by rw [← hm]; exact if_pos h2
            rw [hm0] at hr
            have : (r : Int) = 0 := by rw [← hr]; rfl
            exact .inr (.inl ⟨h1, h2, by omega⟩)
          · have hm0 : m = tiles := by rw [← hm]; exact if_neg (by omega)
            exact .inr (.inr ⟨h1, h2, by omega, hm0⟩)
      have hzr : z < 0 ∨ ((List.replicate r ([] : List Ck)).length : Int) ≤ z := by simp; omega
      have HZR := hid hzr
      have HRR := hid hr
      clear hzr hin hm hr hr3
      have hway : (z < 0) ∨ (0 ≤ z ∧ 64 < tiles ∧ ¬ (z < 64)) ∨ (0 ≤ z ∧ tiles < 0) ∨ (0 ≤ z ∧ 0 ≤ tiles ∧ ¬ (64 < tiles) ∧ ¬ (z < tiles)) := by
        rcases hz with h | ⟨h1, h2, _⟩ | ⟨h1, h2, h3, h4⟩
        · exact .inl h
        · exact .inr (.inr (.inl ⟨h1, h2⟩))
        · have h5 := HRR.out
          rw [h4] at h5
          by_cases h6 : 64 < tiles
          · rw [if_pos h6] at h5
            exact .inr (.inl ⟨h1, h6, by omega⟩)
          · rw [if_neg h6] at h5
            exact .inr (.inr (.inr ⟨h1, h2, h6, by omega⟩))
      clear hz
      rcases hway with hw1 | ⟨hw1, hw2, hw3⟩ | ⟨hw1, hw2⟩ | ⟨hw1, hw2, hw3, hw4⟩
      all_goals
        go_upto_region 8 with (go_at_call 13; refine (add_range (Sys.ls HS.out).choose_spec z HZR.out a n c).mono ?_; rintro e w4 ⟨rfl, rfl⟩)
        go_upto_region 9 with (go_at_call 15; refine (empty_range (Sys.ls HS.out).choose_spec z HZR.out).mono ?_; rintro e w5 ⟨rfl, rfl⟩)
        go_upto_region 11 with (go_at_call 15; refine (empty_nil _ _).mono ?_; rintro e w6 ⟨rfl, rfl⟩)
        go_upto_region 12 with (go_at_call 9; refine (lnew_calls 3 none none _).mono ?_; rintro e w7 ⟨lb7, SL7, rfl, hL7, hSL7, hb7⟩)
        have HALL := hid (show ∀ c ∈ (List.replicate r ([] : List Ck)).flatten, c.away = true from fun c hc => by simp at hc)
        have HS7 := hid (HS.out.keep hb7)
        have HB7 := hid (HB.out.trans (hb7.mono HB.out.size))
        have HL7 := hid (show Ls w7 lb7 SL7 none none (List.replicate 3 []) from hL7)
        clear hL7 hSL7 hb7
        by_cases hn0 : n = 0
        · subst hn0
          go_wp2_with (first
            | (go_at_call 13; first | ((with_reducible refine (add_nil _ _ _ _ _).mono ?_); rintro e w9 ⟨rfl, rfl⟩) | ((with_reducible refine (add_bare HL7.out a 0 c (by decide)).mono ?_); rintro e w8 ⟨rfl, hb8⟩; have hs8 := HS7.out.keep hb8; have HB8 := hid (HB7.out.trans (hb8.mono HB7.out.size)); have HSP := hid (spill_none hs8 (by rw [hs8.away, none_flat]; decide) HALL.out); clear hb8 hs8))
            | (go_at_call 17; refine (len_nil _ _).mono ?_; rintro e w9 ⟨rfl, rfl⟩)
            | (go_at_call 20; refine (away_nil _).mono ?_; rintro e w9 ⟨rfl, rfl⟩)
            | (go_at_call 14; first | ((with_reducible refine (spill_nil _).mono ?_); rintro e w9 ⟨rfl, rfl⟩) | ((with_reducible refine HSP.out.mono ?_); rintro e w9 ⟨rfl, hb9⟩)))
          go_ret
          refine ⟨?_, HB8.out.trans (hb9.mono HB8.out.size)⟩
          first | rfl | (simp; omega)
        · have hn1 : ¬ ((n : Int) = 0) := by omega
          have hnb : ((n : Int) == 0) = false := beq_eq_false_iff_ne.2 hn1
          go_wp2_with (first
            | (go_at_call 13; first | ((with_reducible refine (add_nil _ _ _ _ _).mono ?_); rintro e w9 ⟨rfl, rfl⟩) | ((with_reducible refine (add_bare HL7.out a n c hn).mono ?_); rintro e w8 ⟨rfl, hb8⟩; rw [if_neg hn0]; have hs8 := HS7.out.keep hb8; have HB8 := hid (HB7.out.trans (hb8.mono HB7.out.size)); have HSP := hid (spill_none hs8 (by rw [hs8.away, none_flat]; decide) HALL.out); clear hb8 hs8))
            | (go_at_call 17; refine (len_nil _ _).mono ?_; rintro e w9 ⟨rfl, rfl⟩)
            | (go_at_call 20; refine (away_nil _).mono ?_; rintro e w9 ⟨rfl, rfl⟩)
            | (go_at_call 14; first | ((with_reducible refine (spill_nil _).mono ?_); rintro e w9 ⟨rfl, rfl⟩) | ((with_reducible refine HSP.out.mono ?_); rintro e w9 ⟨rfl, hb9⟩)))
          go_ret
          refine ⟨?_, HB8.out.trans (hb9.mono HB8.out.size)⟩
          first | rfl | (simp; omega)
  · have e1 : decide ((100 : Int) < (n : Int)) = true := by simp; omega
    have e2 : decide (100 < n) = true := by simp; omega
    go_enter Try.func6, Try.ntmps6
    go_wp2_with (first
      | (go_at_call 8; refine (awake17 _).mono ?_; rintro e w0 ⟨rfl, hb0⟩))
    go_ret
    exact ⟨rfl, hb0⟩
end Go.Proofs.Ytakobldhjndeiaa
