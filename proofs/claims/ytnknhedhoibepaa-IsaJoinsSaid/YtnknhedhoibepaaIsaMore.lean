/-
  The walks of the laws 'IsaMore', 'IsaJoins'.
-/
import Derived.Test.YtnknhedhoibepaaIsaMake
import Derived.Test.YtnknhedhoibepaaIsaPut
import Derived.Test.YtnknhedhoibepaaOpenSm
import Derived.Deep.RegionHeld
namespace Go.Proofs.Ytnknhedhoibepaa
open Go.RowKit Isa
set_option linter.unusedVariables false

theorem more_ok {l : List Sm} (h : ∀ s ∈ l, s.good) (m : Nat) (r : Int) (hr : 0 ≤ r ∧ r < 12) : chk (Isa.prog l true ++ List.replicate m ⟨1, r, r, 0, 0⟩) true = if 24 < (Isa.prog l true ++ List.replicate m (Ins.mk 1 r r 0 0)).length then 7 else if 200 < fuel (Isa.prog l true ++ List.replicate m (Ins.mk 1 r r 0 0)) then 6 else 0 := by
  refine chk_ok (allOk_append (chk_zero.1 (prog_ok true h)).2.1 ?_)
  intro j hj
  rw [List.getElem_replicate]
  unfold chkAt
  rw [if_neg (by simp), if_neg (by simp; omega), if_neg (by simp), if_pos (by simp)]

set_option maxRecDepth 10000 in
set_option maxHeartbeats 2000000 in
theorem more_walk {a : Option Addr} {n cap : Nat} {l : List Sm} {w : World} (h : Sms w a n cap l) (z : Int) (wz : (Lit.int .u8 z).wf = true) :
    Calls Try.prog 3 #[.slice a n cap, .int .u8 z] w fun e w' => e = .returned (.bool true) ∧ Below w.heap.size w w' := by
  obtain rfl := h.1
  have hz := bounds_u8 wz
  by_cases h40 : l.length > 40
  · have d1 : decide ((l.length : Int) > 40) = true := by simp; omega
    clear h40
    go_enter Try.func3, Try.ntmps3
    go_wp2_with (go_at_call 7; refine (awake07 _).mono ?_; rintro e w1 ⟨rfl, hb1⟩)
    go_ret
    exact ⟨rfl, hb1⟩
  have d1 : decide ((l.length : Int) > 40) = false := by simp; omega
  obtain ⟨m, hm, hm2⟩ : ∃ m : Nat, z % 8 = (m : Int) ∧ m < 8 := ⟨(z % 8).toNat, by omega, by omega⟩
  have q0 : IntKind.i64.wrap (m : Int) = m := IntWalk.i64_in _ (by omega)
  obtain ⟨r, hr, hr2⟩ : ∃ r : Int, z % 12 = r ∧ 0 ≤ r ∧ r < 12 := ⟨_, rfl, by omega⟩
  have HOK := hid (more_ok h.2.2 m r hr2)
  obtain ⟨p, hp⟩ : ∃ p, Isa.prog l true = p := ⟨_, rfl⟩
  have HGOOD : Hid (∀ x ∈ p ++ List.replicate m (Ins.mk 1 r r 0 0), x.good) := fun x hx => by
    rcases List.mem_append.1 hx with h1 | h1
    · rw [← hp] at h1; exact (prog_low true h.2.2 x h1).good
    · rw [List.eq_of_mem_replicate h1]; unfold Ins.good; simp only; omega
  have HPL : Hid (p.length ≤ 20) := by show _ ≤ _; rw [← hp]; exact (prog_len l true).1
  rw [hp] at HOK
  have HP := hid hp
  have HH := hid h
  have HN := hid (show l.length ≤ 1000 by omega)
  clear hp h h40
  go_enter Try.func3, Try.ntmps3
  go_wp2_with (first
    | (go_at_call 7; refine (awake07 _).mono ?_; rintro e w1 ⟨rfl, hb1⟩)
    | (go_at_call 8; refine (program_calls (HH.out.keep hb1) HN.out true).mono ?_; rintro e w2 ⟨v2, rfl, ho2, hb2⟩; rw [HP.out] at ho2; have HO2 := hid (OwnL.base ho2 hb1.size); have HB2 := hid (hb1.trans (hb2.mono hb1.size)); clear ho2 hb2))
  try simp only [hm]
  go_loopw [5, 17] (fun v k wr => ∃ j : Nat, j ≤ m ∧ k = .int .i64 j ∧ OwnP wr w.heap.size v (p ++ List.replicate j ⟨1, r, r, 0, 0⟩) ∧ Below w.heap.size w wr) (fun _ k _ => m - (intOf k).toNat)
  case atStart => exact ⟨0, by omega, rfl, by rw [List.replicate_zero, List.append_nil]; exact HO2.out, HB2.out⟩
  case round =>
    clear HO2 HB2
    obtain ⟨j, hj, rfl, ho, hb⟩ := hrel
    by_cases hlt : j < m
    · have HN1 := hid (show p ++ List.replicate (j + 1) (Ins.mk 1 r r 0 0) = (p ++ List.replicate j ⟨1, r, r, 0, 0⟩) ++ [⟨1, r, r, 0, 0⟩] by rw [List.replicate_succ', List.append_assoc])
      have HL1 := hid (show (p ++ List.replicate j (Ins.mk 1 r r 0 0)).length ≤ 1000 by rw [List.length_append, List.length_replicate]; have := HPL.out; omega)
      obtain ⟨pj, hpj⟩ : ∃ pj, p ++ List.replicate j (Ins.mk 1 r r 0 0) = pj := ⟨_, rfl⟩
      rw [hpj] at ho HN1 HL1
      clear hpj
      go_wp2_with (at_builtin; refine app_rec Try.elIns ins_sz oneCell_ins ⟨1, r, r, 0, 0⟩ rfl _ _ rfl rfl ho rfl rfl rfl (by decide) (by have := HL1.out; omega) hb.size ?_; intro v1 w1 ho1 hg1 hl1; have HBA := hid (OwnL.belowA ho hb _ hg1 (Nat.le_refl _) hb.size))
      go_roundw
      case rel => exact ⟨j + 1, by omega, by go_num, by rw [HN1.out]; exact ho1, HBA.out⟩
      case measure => simp [intOf]; omega
    · obtain rfl : j = m := by omega
      obtain ⟨q, hq⟩ : ∃ q, p ++ List.replicate j (Ins.mk 1 r r 0 0) = q := ⟨_, rfl⟩
      have HQL : Hid (q.length ≤ 1000) := by show _ ≤ _; rw [← hq, List.length_append, List.length_replicate]; have := HPL.out; omega
      rw [hq] at ho HOK HGOOD
      obtain ⟨a5, c5, rfl, hpr⟩ := OwnP.prog ho HGOOD.out
      have HC := chk_calls hpr (by have := HQL.out; omega) true
      have HF := hid (fun w' (hb' : Below wr.heap.size wr w') => fuel_calls (hpr.keep hb') (by have := HQL.out; omega))
      obtain ⟨f, hf⟩ : ∃ f, fuel q = f := ⟨_, rfl⟩
      rw [hf] at HOK HF
      rw [HOK.out] at HC
      clear hf hq ho hpr
      have hlt2 : ¬ (j : Int) < (j : Int) := by omega
      by_cases h24 : 24 < q.length
      · rw [if_pos h24] at HC
        have e1 : decide ((q.length : Int) ≤ 24) = false := by simp; omega
        clear h24
        go_wp2_with (first
          | (go_at_call 9; refine HC.mono ?_; rintro e w3 ⟨rfl, hb3⟩))
        go_ret
        exact ⟨rfl, hb.trans (hb3.mono hb.size)⟩
      · rw [if_neg h24] at HC
        have e1 : decide ((q.length : Int) ≤ 24) = true := by simp; omega
        clear h24
        by_cases hf2 : 200 < f
        · rw [if_pos hf2] at HC
          have e2 : decide (f ≤ 200) = false := by simp; omega
          clear hf2
          go_wp2_with (first
            | (go_at_call 9; refine HC.mono ?_; rintro e w3 ⟨rfl, hb3⟩)
            | (go_at_call 10; refine (HF.out _ hb3).mono ?_; rintro e w4 ⟨rfl, hb4⟩))
          go_ret
          exact ⟨rfl, hb.trans ((hb3.trans (hb4.mono hb3.size)).mono hb.size)⟩
        · rw [if_neg hf2] at HC
          have e2 : decide (f ≤ 200) = true := by simp; omega
          clear hf2
          go_wp2_with (first
            | (go_at_call 9; refine HC.mono ?_; rintro e w3 ⟨rfl, hb3⟩)
            | (go_at_call 10; refine (HF.out _ hb3).mono ?_; rintro e w4 ⟨rfl, hb4⟩))
          go_ret
          exact ⟨rfl, hb.trans ((hb3.trans (hb4.mono hb3.size)).mono hb.size)⟩

theorem joins_ok {p q : List Ins} (hp : chk p true = 0) (hq : chk q true = 0) (h24 : (p ++ q).length ≤ 24) : chk (p ++ q) true = if 200 < fuel p + fuel q then 6 else 0 := by
  rw [chk_ok (allOk_append (chk_zero.1 hp).2.1 (chk_zero.1 hq).2.1), if_neg (by omega), fuel_append]

set_option maxRecDepth 10000 in
set_option maxHeartbeats 2000000 in
theorem joins_walk {a : Option Addr} {n cap : Nat} {l : List Sm} {a' : Option Addr} {n' cap' : Nat} {l' : List Sm} {w : World} (h : Sms w a n cap l) (h' : Sms w a' n' cap' l') :
    Calls Try.prog 4 #[.slice a n cap, .slice a' n' cap'] w fun e w' => e = .returned (.bool true) ∧ Below w.heap.size w w' := by
  obtain rfl := h.1
  obtain rfl := h'.1
  by_cases h12 : l.length > 12 ∨ l'.length > 12
  · obtain ⟨b1, b2, e1, e2, hw⟩ : ∃ b1 b2 : Bool, decide ((l.length : Int) > 12) = b1 ∧ decide ((l'.length : Int) > 12) = b2 ∧ (b1 = true ∨ (b1 = false ∧ b2 = true)) := ⟨_, _, rfl, rfl, by simp only [decide_eq_true_eq, decide_eq_false_iff_not]; omega⟩
    clear h12
    rcases hw with rfl | ⟨rfl, rfl⟩
    all_goals
      go_enter Try.func4, Try.ntmps4
      go_wp2_with (go_at_call 7; refine (awake07 _).mono ?_; rintro e w1 ⟨rfl, hb1⟩)
      go_ret
      exact ⟨rfl, hb1⟩
  have d1 : decide ((l.length : Int) > 12) = false := by simp; omega
  have d2 : decide ((l'.length : Int) > 12) = false := by simp; omega
  have HGP := hid (fun x hx => (prog_low true h.2.2 x hx).good)
  have HGQ := hid (fun x hx => (prog_low true h'.2.2 x hx).good)
  have hlp := (prog_len l true).2
  have hlq := (prog_len l' true).2
  have HOK := hid (joins_ok (prog_ok true h.2.2) (prog_ok true h'.2.2) (by rw [List.length_append]; omega))
  have HFU := hid (fuel_append (Isa.prog l true) (Isa.prog l' true))
  have HDI := hid (discards_append (Isa.prog l true) (Isa.prog l' true))
  obtain ⟨p, hp⟩ : ∃ p, Isa.prog l true = p := ⟨_, rfl⟩
  obtain ⟨q, hq⟩ : ∃ q, Isa.prog l' true = q := ⟨_, rfl⟩
  rw [hp] at HGP HOK hlp HFU HDI
  rw [hq] at HGQ HOK hlq HFU HDI
  have HP := hid hp
  have HQ := hid hq
  have HH := hid h
  have HH' := hid h'
  have HN := hid (show l.length ≤ 1000 by omega)
  have HN' := hid (show l'.length ≤ 1000 by omega)
  have HLP := hid (show p.length ≤ 12 by omega)
  have HLQ := hid (show q.length ≤ 12 by omega)
  have HFP := hid (show 0 ≤ fuel p ∧ fuel p ≤ 200000000 by have := extra_bd HGP.out; have := HLP.out; unfold fuel; omega)
  have HFQ := hid (show 0 ≤ fuel q ∧ fuel q ≤ 200000000 by have := extra_bd HGQ.out; have := HLQ.out; unfold fuel; omega)
  have HGPQ : Hid (∀ x ∈ p ++ q, x.good) := fun x hx => (List.mem_append.1 hx).elim (HGP.out x) (HGQ.out x)
  have HLPQ := hid (show (p ++ q).length ≤ 24 by rw [List.length_append]; have := HLP.out; have := HLQ.out; omega)
  obtain ⟨pq, hpq⟩ : ∃ pq, p ++ q = pq := ⟨_, rfl⟩
  rw [hpq] at HFU HDI HOK HGPQ HLPQ
  have HPQ := hid hpq
  clear hpq
  clear hp hq h h' h12 hlp hlq
  go_enter Try.func4, Try.ntmps4
  go_upto_region 8 with (first
    | (go_at_call 7; refine (awake07 _).mono ?_; rintro e w1 ⟨rfl, hb1⟩)
    | (go_at_call 8; (with_reducible refine (program_calls (HH.out.keep hb1) HN.out true).mono ?_); rintro e w2 ⟨v2, rfl, ho2, hb2⟩; rw [HP.out] at ho2; obtain ⟨a5, c5, rfl, hp5⟩ := OwnP.prog (OwnL.base ho2 hb1.size) HGP.out; have HP5 := hid hp5; have HB2 := hid (hb1.trans (hb2.mono hb1.size)); clear ho2 hb2 hp5)
    | (go_at_call 8; refine (program_calls (HH'.out.keep HB2.out) HN'.out true).mono ?_; rintro e w3 ⟨v3, rfl, ho3, hb3⟩; rw [HQ.out] at ho3; obtain ⟨a6, c6, rfl, hp6⟩ := OwnP.prog ho3 HGQ.out; have HP6 := hid hp6; have HP56 := hid (HP5.out.keep hb3); have HB3 := hid (HB2.out.trans (hb3.mono HB2.out.size)); clear ho3 hb3 hp6)
    | (at_builtin; refine app_recs Try.elIns oneCell_ins rfl _ _ rfl rfl (OwnL.emptyAt (sz := 5) (f := Ins.cells) w3 w3.heap.size _ rfl (Nat.le_refl _)) (ys := p) rfl rfl (HP56.out.2.1.keep ((Below.refl _ _).alloc (Nat.le_refl _) _)) (by decide) (by have := HLP.out; simp; omega) (by simp) ?_; intro v4 w4 ho4 hg4 hl4; rw [List.nil_append] at ho4; have HB4 := hid (OwnL.below (OwnL.emptyAt (sz := 5) (f := Ins.cells) w3 w3.heap.size _ rfl (Nat.le_refl _)) ((Below.refl _ _).alloc (Nat.le_refl _) _) hg4 (Nat.le_refl _) (by simp)); have HO4 := hid ho4; clear ho4 hg4 hl4)
    | (at_builtin; refine app_recs Try.elIns oneCell_ins rfl _ _ rfl rfl HO4.out (ys := q) rfl rfl (HP6.out.2.1.keep HB4.out) (by decide) (by have := HLP.out; have := HLQ.out; omega) HB4.out.size ?_; intro v5 w5 ho5 hg5 hl5; rw [HPQ.out] at ho5; have HB5 := hid (OwnL.below HO4.out HB4.out hg5 (Nat.le_refl _) HB4.out.size); obtain ⟨a7, c7, rfl, hp7⟩ := OwnP.prog ho5 HGPQ.out; have HP7 := hid hp7; have HC7 := hid (chk_calls hp7 (by have := HLPQ.out; omega) true); clear ho5 hg5 hl5 hp7)
    | (go_at_call 9; refine HC7.out.mono ?_; rintro e w6 ⟨rfl, hb6⟩))
  rw [HOK.out]
  obtain ⟨fp, hfp⟩ : ∃ fp, fuel p = fp := ⟨_, rfl⟩
  obtain ⟨fq, hfq⟩ : ∃ fq, fuel q = fq := ⟨_, rfl⟩
  obtain ⟨dp, hdp⟩ : ∃ dp, discards p = dp := ⟨_, rfl⟩
  obtain ⟨dq, hdq⟩ : ∃ dq, discards q = dq := ⟨_, rfl⟩
  have HFp : Hid (∀ w', Below w6.heap.size w6 w' → _) := fun w' hb => fuel_calls (((HP56.out.keep (HB5.out)).keep hb6).keep hb) (by have := HLP.out; omega)
  have HFq : Hid (∀ w', Below w6.heap.size w6 w' → _) := fun w' hb => fuel_calls (((HP6.out.keep (HB5.out)).keep hb6).keep hb) (by have := HLQ.out; omega)
  have HFpq : Hid (∀ w', Below w6.heap.size w6 w' → _) := fun w' hb => fuel_calls ((HP7.out.keep hb6).keep hb) (by have := HLPQ.out; omega)
  have HDp : Hid (∀ w', Below w6.heap.size w6 w' → _) := fun w' hb => discards_calls (((HP56.out.keep (HB5.out)).keep hb6).keep hb) (by have := HLP.out; omega)
  have HDq : Hid (∀ w', Below w6.heap.size w6 w' → _) := fun w' hb => discards_calls (((HP6.out.keep (HB5.out)).keep hb6).keep hb) (by have := HLQ.out; omega)
  have HDpq : Hid (∀ w', Below w6.heap.size w6 w' → _) := fun w' hb => discards_calls ((HP7.out.keep hb6).keep hb) (by have := HLPQ.out; omega)
  rw [hfp] at HFp HFU HFP
  rw [hfq] at HFq HFU HFQ
  rw [hdp] at HDp HDI
  rw [hdq] at HDq HDI
  rw [HFU.out] at HFpq
  rw [HDI.out] at HDpq
  rw [hfp, hfq]
  have hb0 := hid (Below.refl w6.heap.size w6)
  have HB6 := hid (HB3.out.trans ((HB5.out.trans (hb6.mono HB5.out.size)).mono HB3.out.size))
  obtain ⟨f1, f2⟩ := HFP.out
  obtain ⟨f3, f4⟩ := HFQ.out
  clear hfp hfq hdp hdq hb6 HC7
  by_cases hs : 200 < fp + fq
  · rw [if_pos hs]
    have e1 : decide (fp + fq ≤ 200) = false := by simp; omega
    clear hs
    cases dp <;> cases dq
    all_goals
      go_wp2_with (first
        | (go_at_call 10; (with_reducible refine (HFp.out _ hb0.out).mono ?_); rintro e w8 ⟨rfl, hb8⟩; have hb0 := hid (hb0.out.trans (hb8.mono hb0.out.size)); clear hb8)
        | (go_at_call 10; (with_reducible refine (HFq.out _ hb0.out).mono ?_); rintro e w8 ⟨rfl, hb8⟩; have hb0 := hid (hb0.out.trans (hb8.mono hb0.out.size)); clear hb8)
        | (go_at_call 10; (with_reducible refine (HFpq.out _ hb0.out).mono ?_); rintro e w8 ⟨rfl, hb8⟩; have hb0 := hid (hb0.out.trans (hb8.mono hb0.out.size)); clear hb8)
        | (go_at_call 11; (with_reducible refine (HDp.out _ hb0.out).mono ?_); rintro e w8 ⟨rfl, hb8⟩; have hb0 := hid (hb0.out.trans (hb8.mono hb0.out.size)); clear hb8)
        | (go_at_call 11; (with_reducible refine (HDq.out _ hb0.out).mono ?_); rintro e w8 ⟨rfl, hb8⟩; have hb0 := hid (hb0.out.trans (hb8.mono hb0.out.size)); clear hb8)
        | (go_at_call 11; (with_reducible refine (HDpq.out _ hb0.out).mono ?_); rintro e w8 ⟨rfl, hb8⟩; have hb0 := hid (hb0.out.trans (hb8.mono hb0.out.size)); clear hb8))
      go_ret
      exact ⟨rfl, HB6.out.trans (hb0.out.mono HB6.out.size)⟩
  · rw [if_neg hs]
    have e1 : decide (fp + fq ≤ 200) = true := by simp; omega
    clear hs
    cases dp <;> cases dq
    all_goals
      go_wp2_with (first
        | (go_at_call 10; (with_reducible refine (HFp.out _ hb0.out).mono ?_); rintro e w8 ⟨rfl, hb8⟩; have hb0 := hid (hb0.out.trans (hb8.mono hb0.out.size)); clear hb8)
        | (go_at_call 10; (with_reducible refine (HFq.out _ hb0.out).mono ?_); rintro e w8 ⟨rfl, hb8⟩; have hb0 := hid (hb0.out.trans (hb8.mono hb0.out.size)); clear hb8)
        | (go_at_call 10; (with_reducible refine (HFpq.out _ hb0.out).mono ?_); rintro e w8 ⟨rfl, hb8⟩; have hb0 := hid (hb0.out.trans (hb8.mono hb0.out.size)); clear hb8)
        | (go_at_call 11; (with_reducible refine (HDp.out _ hb0.out).mono ?_); rintro e w8 ⟨rfl, hb8⟩; have hb0 := hid (hb0.out.trans (hb8.mono hb0.out.size)); clear hb8)
        | (go_at_call 11; (with_reducible refine (HDq.out _ hb0.out).mono ?_); rintro e w8 ⟨rfl, hb8⟩; have hb0 := hid (hb0.out.trans (hb8.mono hb0.out.size)); clear hb8)
        | (go_at_call 11; (with_reducible refine (HDpq.out _ hb0.out).mono ?_); rintro e w8 ⟨rfl, hb8⟩; have hb0 := hid (hb0.out.trans (hb8.mono hb0.out.size)); clear hb8))
      go_ret
      exact ⟨rfl, HB6.out.trans (hb0.out.mono HB6.out.size)⟩
end Go.Proofs.Ytnknhedhoibepaa
