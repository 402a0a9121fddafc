/-
  ListSizes: the law's walk.
-/
import Derived.Test.YtakobldhjndeiaaLs17
namespace Go.Proofs.Ytakobldhjndeiaa
open Go.RowKit
set_option linter.unusedVariables false
set_option linter.unusedSimpArgs false

/-- One list alone, of a text. -/
structure Alone (w : World) (S : List Nat) (g gd lb r : Nat) (B : Nat) (T : List UInt8) (cs : List Ck) (d : Dev) (q : Nat) : Prop where
  sys : Sys w S g gd lb r [[], cs] d
  sh : cs.map Ck.sh = chop T
  far : ∀ k ∈ S, B ≤ k
  plan : d.next = 0 ∧ d.be = [] ∧ d.fa = [] ∧ d.takes ≤ q
theorem Alone.here {w : World} {S : List Nat} {g gd lb r B : Nat} {T : List UInt8} {cs : List Ck} {d : Dev} {q : Nat} (h : Alone w S g gd lb r B T cs d q) : hereN ([[], cs] : List (List Ck)).flatten = (T.length + 63) / 64 ∧ awayN ([[], cs] : List (List Ck)).flatten = 0 ∧ text cs = T := by
  have e : ([[], cs] : List (List Ck)).flatten = cs := by simp
  rw [e, here_sh, away_sh, text_sh, h.sh, chop_here, chop_away, chop_text]
  exact ⟨rfl, rfl, rfl⟩
theorem Alone.room {w : World} {S : List Nat} {g gd lb r B : Nat} {T : List UInt8} {cs : List Ck} {d : Dev} {q : Nat} (h : Alone w S g gd lb r B T cs d q) (n : Nat) (b : List UInt8) (hb : b.length = n) : needN (cs.map Ck.sh) n + hereN ([[], cs] : List (List Ck)).flatten = (T.length + n + 63) / 64 := by
  have e : ([[], cs] : List (List Ck)).flatten = cs := by simp
  have h2 := (addS_facts (cs.map Ck.sh) b).2.1
  have h3 := congrArg shHere (addS_chop _ T b (Nat.le_refl _))
  rw [← h.sh, h2, chop_here, List.length_append, hb] at h3
  rw [e, here_sh]
  omega
theorem Alone.len {w : World} {S : List Nat} {g gd lb r B : Nat} {T : List UInt8} {cs : List Ck} {d : Dev} {q : Nat} (h : Alone w S g gd lb r B T cs d q) : d.L.length = 0 := by rw [h.sys.away]; exact h.here.2.1
theorem Alone.chunks {w : World} {S : List Nat} {g gd lb r B : Nat} {T : List UInt8} {cs : List Ck} {d : Dev} {q : Nat} (h : Alone w S g gd lb r B T cs d q) : cs.length ≤ 4096 := by
  have := h.sys.count (t := 1) (cs := cs) rfl
  rw [h.len] at this
  omega
theorem Alone.keep {w w' : World} {S : List Nat} {g gd lb r B : Nat} {T : List UInt8} {cs : List Ck} {d : Dev} {q : Nat} (h : Alone w S g gd lb r B T cs d q) (hb : Below w.heap.size w w') : Alone w' S g gd lb r B T cs d q := ⟨h.sys.keep hb, h.sh, h.far, h.plan⟩
set_option maxRecDepth 10000 in
set_option maxHeartbeats 4000000 in
theorem sizes_walk {w : World} {a : Option Addr} {n c : Nat} {l : List UInt8} (h0 : Bytes w a n c l) (again : Bool) :
    Calls Try.prog 4 #[.slice a n c, .bool again] w fun e w' => e = .returned (.bool true) ∧ Below w.heap.size w w' := by
  have H0 := hid h0
  clear h0
  by_cases hn : n ≤ 30
  · have e1 : decide ((30 : Int) < (n : Int)) = false := by simp; omega
    have e2 : decide (30 < n) = false := by simp; omega
    obtain rfl : l.length = n := Bytes.len H0.out
    go_enter Try.func4, Try.ntmps4
    go_upto_region 5 with (first
      | (go_at_call 8; refine (awake17 _).mono ?_; rintro e w0 ⟨rfl, hb0⟩))
    go_upto_region 6 with (first
      | (go_at_call 10; refine (new_calls 200 _).mono ?_; rintro e w1 ⟨g, SA, rfl, hA, hSA, hb1⟩))
    go_upto_region 7 with (first
      | (go_at_call 11; refine (dv_new 0 _).mono ?_; rintro e w2 ⟨gd, SD, rfl, hD, hSD, hb2⟩)
      | (go_at_call 9; refine (lnew_calls 2 _ _ _).mono ?_; rintro e w3 ⟨lb, SL, rfl, hL, hSL, hb3⟩))
    obtain ⟨S, hs, hS⟩ := sys_made (n := 2) hA hSA (Below.refl w1.heap.size w1) hD rfl hSD hb2 (Below.refl _ _) hL hSL hb3 hb1.size
    rw [show (min (max (200 : Int) 0) 4096).toNat = 200 from rfl] at hs
    have hb13 : Below w0.heap.size w0 w3 := (hb1.trans (hb2.mono hb1.size)).trans (hb3.mono (Nat.le_trans hb1.size hb2.size))
    have HI := hid (show Alone w3 S g gd lb 200 w.heap.size [] [] _ 0 from ⟨hs, by rw [chop_nil]; rfl, fun k hk => Nat.le_trans hb0.size (hS k hk), ⟨rfl, rfl, rfl, Nat.le_refl _⟩⟩)
    have HB := hid (hb0.trans (hb13.mono hb0.size))
    clear hs hS hb13 hA hSA hb1 hD hSD hb2 hL hSL hb3 hb0 e1 e2
    go_wp2
    go_loopw [7, 8, 9, 10, 11, 22] (fun _ _ _ _ _ i wr => ∃ (k : Nat) (S : List Nat) (d : Dev), k ≤ 2 ∧ i = .int .i64 (k : Int) ∧ Alone wr S g gd lb 200 w.heap.size [] [] d (5000 * k) ∧ Below w.heap.size w wr) (fun _ _ _ _ _ i _ => 2 - (intOf i).toNat)
    case atStart => exact ⟨0, S, _, by omega, rfl, HI.out, HB.out⟩
    case round =>
      clear HI HB
      obtain ⟨k, S, d, hk, rfl, hI, hB⟩ := hrel
      obtain ⟨wo, rfl⟩ : ∃ wo : World, wo = wr := ⟨_, rfl⟩
      have HI := hid hI
      have HB := hid hB
      clear hI hB
      by_cases hlt : k < 2
      · have tk : decide ((k : Int) < 2) = true := by simp; omega
        go_wp2
        go_loopw [7, 8, 9, 26] (fun al _ _ i wr => ∃ (j : Nat) (T : List UInt8) (S : List Nat) (cs : List Ck) (d : Dev), j ≤ l.length ∧ i = .int .i64 (j : Int) ∧ al = .int .i64 (T.length : Int) ∧ T.length ≤ 255 * j ∧ Alone wr S g gd lb 200 w.heap.size T cs d (5000 * k) ∧ Below w.heap.size w wr) (fun _ _ _ i _ => l.length - (intOf i).toNat)
        case atStart => exact ⟨0, [], S, [], d, by omega, rfl, rfl, by simp, HI.out, HB.out⟩
        case round =>
          clear HI HB
          obtain ⟨j, T, S, cs, d, hj, rfl, rfl, hT, hI, hB⟩ := hrel
          have HI := hid hI
          have HB := hid hB
          by_cases hjl : j < l.length
          · obtain ⟨b, off, rfl, hc⟩ := Bytes.at (H0.out.keep hB) j hjl
            obtain ⟨x, hx⟩ : ∃ x : UInt8, l[j] = x := ⟨_, rfl⟩
            rw [hx] at hc
            have hxb := x.toNat_lt
            obtain ⟨m, hm⟩ : ∃ m, x.toNat = m := ⟨_, rfl⟩
            rw [hm] at hc hxb
            have q1 : IntKind.u8.wrap (j : Int) = j := IntWalk.u8_in _ (by omega)
            have q2 : IntKind.i64.wrap (m : Int) = m := IntWalk.i64_in _ (by omega)
            have hrm := hI.room m (byt (j : Int) m) (byt_len _ _)
            have hHI := hI.here
            obtain ⟨q, hq⟩ : ∃ q, T.length = q := ⟨_, rfl⟩
            rw [hq] at hrm hT ⊢
            obtain ⟨V, hV⟩ : ∃ V, (q + m + 63) / 64 = V := ⟨_, rfl⟩
            rw [hV] at hrm
            have hV2 : V ≤ 200 := by omega
            have t1 : ((V : Int) == ((q : Int) + (m : Int) + 63) / 64) = true := beq_iff_eq.2 (by omega)
            have t2 : ((V : Int) != ((q : Int) + (m : Int) + 63) / 64) = false := by simp [bne, t1]
            have HRM := hid hrm
            have HQ := hid hq
            have HV := hid hV
            have HL0 := hid hI.len
            clear hx hm hI hB hrm hHI hq hV
            go_wp2_with (first
              | (go_at_call 12; refine (bytes17_calls (j : Int) (by omega) m (by omega) _).mono ?_; rintro e w4 ⟨rfl, hy, hb4⟩; have HI4 := hid (HI.out.keep hb4); have HB4 := hid (HB.out.trans (hb4.mono HB.out.size)); have HY4 := hid hy; have HOF := hid (show byt (j : Int) m ≠ [] → ∀ p, (some ⟨wr.heap.size, 0, none⟩ : Option Addr) = some p → p.block ∉ S from fun _ p hp hm => (by cases hp; exact absurd (HI.out.sys.lt _ hm) (Nat.lt_irrefl _))); clear hy hb4)
              | (go_at_call 13; refine (add_ok HI4.out.sys (t := 1) (cs := cs) rfl (by rw [HL0.out]; omega) (by omega) HY4.out HOF.out (by rw [byt_len, HRM.out]; exact hV2)).mono ?_; rintro e w5 ⟨rfl, S5, cs5, hs5, hsh5, hG5, hf5⟩;
                  have hI5 : Alone w5 S5 g gd lb 200 w.heap.size (T ++ byt (j : Int) m) cs5 d (5000 * k) := ⟨hs5, (by rw [hsh5, HI4.out.sh, addS_chop _ _ _ (Nat.le_refl _)]), (fun x hx => (hG5 x hx).elim (fun h => HI4.out.far x h) (fun h => Nat.le_trans HB4.out.size h)), HI4.out.plan⟩;
                  have hu := sys_used hI5.sys; rw [hI5.here.1, List.length_append, byt_len, HQ.out, HV.out] at hu; have HU := hid hu; have hl5 := sys_len hI5.sys (t := 1) (cs := cs5) rfl (by rw [HL0.out]; omega); rw [hI5.here.2.2, List.length_append, byt_len, HQ.out, Int.natCast_add] at hl5; have HL5 := hid hl5; have HI5 := hid hI5; have HB5 := hid (Fr.below HB4.out hf5 HI4.out.far HB4.out.size); clear hu hl5 hI5 hs5 hsh5 hG5 hf5)
              | (go_at_call 16; refine HU.out.mono ?_; rintro e w6 ⟨rfl, rfl⟩)
              | (go_at_call 17; refine HL5.out.mono ?_; rintro e w7 ⟨rfl, hb7⟩))
            go_roundw
            case rel => exact ⟨j + 1, T ++ byt (j : Int) m, S5, cs5, d, by omega, by go_num, by rw [List.length_append, byt_len, HQ.out]; go_num, by rw [List.length_append, byt_len, HQ.out]; omega, HI5.out.keep hb7, HB5.out.trans (hb7.mono HB5.out.size)⟩
            case measure => simp [intOf]; omega
          · obtain rfl : j = l.length := by omega
            have hcc := hI.chunks
            have hli := hI.len
            obtain ⟨p1, p2, p4, p3⟩ := hI.plan
            have HP4 := hid p4
            have HP1 := hid p1
            have HP2 := hid p2
            have HLI := hid hli
            have hh := hI.here
            obtain ⟨q, hq⟩ : ∃ q, T.length = q := ⟨_, rfl⟩
            have HQ := hid hq
            have HH := hid hh
            rw [hq] at hT ⊢
            clear p1 p2 p4 hli hI hB hh hq
            cases again
            all_goals
              go_wp2_with (first
                | (go_at_call 15; refine (empty_calls HI.out.sys (t := 1) (cs := cs) rfl (by omega) (by omega) (by rw [HP1.out]; decide) (by rw [BendsOk, HP2.out]; intro p hp; cases hp)).mono ?_; rintro e w5 ⟨S5, d5, hs5, hd5, htk5, hG5, hf5, hout⟩;
                    have hfar5 : ∀ x ∈ S5, w.heap.size ≤ x := (fun x hx => (hG5 x hx).elim (fun h => HI.out.far x h) (fun h => Nat.le_trans HB.out.size h));
                    have hI5 : Alone w5 S5 g gd lb 200 w.heap.size [] [] d5 (5000 * (k + 1)) := ⟨hs5, (by rw [chop_nil]; rfl), hfar5, ⟨(by rw [hd5.next, HP1.out]), (by rw [hd5.be, HP2.out]), (by rw [hd5.fa, HP4.out]), (by omega)⟩⟩;
                    have hu := sys_used hI5.sys; rw [hI5.here.1] at hu; have HU := hid hu; have HI5 := hid hI5; have HB5 := hid (Fr.below HB.out hf5 HI.out.far HB.out.size); have HOUT := hid hout; clear hu hI5 hs5 hd5 htk5 hG5 hf5 hfar5 hout;
                    obtain ⟨v5, c5, rfl⟩ : ∃ v5 c5, e = .returned (.tuple #[.slice v5 q c5, .int .i64 0]) := (by
                      rcases HOUT.out with ⟨v, h1, h2, _⟩ | ⟨_, q, h1, h2, h3⟩
                      · obtain ⟨a6, c6, e6, _⟩ := h2.bytes
                        rw [e6, HH.out.2.2, HQ.out] at h1
                        exact ⟨_, _, h1⟩
                      · rcases h3 with h3 | ⟨f, m, _, h3⟩
                        · rw [HP4.out] at h3; cases h3
                        · rw [HP2.out] at h3; cases h3))
                | (go_at_call 16; refine HU.out.mono ?_; rintro e w6 ⟨rfl, rfl⟩))
            · have HSP := hid (spill_none HI5.out.sys (by rw [HI5.out.len]; omega) (fun c hc => by simp at hc))
              go_wp2_with (go_at_call 14; refine HSP.out.mono ?_; rintro e w7 ⟨rfl, hb7⟩)
              go_ret
              exact ⟨rfl, HB5.out.trans (hb7.mono HB5.out.size)⟩
            · go_roundw
              case rel => exact ⟨k + 1, S5, d5, by omega, by go_num, HI5.out, HB5.out⟩
              case measure => simp [intOf]; omega
      · obtain rfl : k = 2 := by omega
        have HSP := hid (spill_none HI.out.sys (by rw [HI.out.len]; omega) (fun c hc => by simp at hc))
        go_wp2_with (go_at_call 14; refine HSP.out.mono ?_; rintro e w7 ⟨rfl, hb7⟩)
        go_ret
        exact ⟨rfl, HB.out.trans (hb7.mono HB.out.size)⟩
  · have e1 : decide ((30 : Int) < (n : Int)) = true := by simp; omega
    have e2 : decide (30 < n) = true := by simp; omega
    go_enter Try.func4, Try.ntmps4
    go_wp2_with (first
      | (go_at_call 8; refine (awake17 _).mono ?_; rintro e w0 ⟨rfl, hb0⟩))
    go_ret
    exact ⟨rfl, hb0⟩
end Go.Proofs.Ytakobldhjndeiaa
