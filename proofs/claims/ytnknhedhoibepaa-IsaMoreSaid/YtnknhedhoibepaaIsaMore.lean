/-
  The walks of the laws 'IsaMore', 'IsaJoins'.
-/
import Derived.Test.YtnknhedhoibepaaIsaMake
import Derived.Test.YtnknhedhoibepaaIsaPut
import Derived.Test.YtnknhedhoibepaaOpenSm
import Derived.Deep.RegionHeld
namespace Go.Proofs.Ytnknhedhoibepaa
open Go.RowKit Isa
set_option linter.unusedVariables false

theorem more_ok {l : List Sm} (h : ∀ s ∈ l, s.good) (m : Nat) (r : Int) (hr : 0 ≤ r ∧ r < 12) : chk (Isa.prog l true ++ List.replicate m ⟨1, r, r, 0, 0⟩) true = if 24 < (Isa.prog l true ++ List.replicate m (Ins.mk 1 r r 0 0)).length then 7 else if 200 < fuel (Isa.prog l true ++ List.replicate m (Ins.mk 1 r r 0 0)) then 6 else 0 := by
  refine chk_ok (allOk_append (chk_zero.1 (prog_ok true h)).2.1 ?_)
  intro j hj
  rw [List.getElem_replicate]
  unfold chkAt
  rw [if_neg (by simp), if_neg (by simp; omega), if_neg (by simp), if_pos (by simp)]

set_option maxRecDepth 10000 in
set_option maxHeartbeats 2000000 in
theorem more_walk {a : Option Addr} {n cap : Nat} {l : List Sm} {w : World} (h : Sms w a n cap l) (z : Int) (wz : (Lit.int .u8 z).wf = true) :
    Calls Try.prog 3 #[.slice a n cap, .int .u8 z] w fun e w' => e = .returned (.bool true) ∧ Below w.heap.size w w' := by
  obtain rfl := h.1
  have hz := bounds_u8 wz
  by_cases h40 : l.length > 40
  · have d1 : decide ((l.length : Int) > 40) = true := by simp; omega
    clear h40
    go_enter Try.func3, Try.ntmps3
    go_wp2_with (go_at_call 7; refine (awake07 _).mono ?_; rintro e w1 ⟨rfl, hb1⟩)
    go_ret
    exact ⟨rfl, hb1⟩
  have d1 : decide ((l.length : Int) > 40) = false := by simp; omega
  obtain ⟨m, hm, hm2⟩ : ∃ m : Nat, z % 8 = (m : Int) ∧ m < 8 := ⟨(z % 8).toNat, by omega, by omega⟩
  have q0 : IntKind.i64.wrap (m : Int) = m := IntWalk.i64_in _ (by omega)
  obtain ⟨r, hr, hr2⟩ : ∃ r : Int, z % 12 = r ∧ 0 ≤ r ∧ r < 12 := ⟨_, rfl, by omega⟩
  have HOK := hid (more_ok h.2.2 m r hr2)
  obtain ⟨p, hp⟩ : ∃ p, Isa.prog l true = p := ⟨_, rfl⟩
  have HGOOD : Hid (∀ x ∈ p ++ List.replicate m (Ins.mk 1 r r 0 0), x.good) := fun x hx => by
    rcases List.mem_append.1 hx with h1 | h1
    · rw [← hp] at h1; exact (prog_low true h.2.2 x h1).good
    · rw [List.eq_of_mem_replicate h1]; unfold Ins.good; simp only; omega
  have HPL : Hid (p.length ≤ 20) := by show _ ≤ _; rw [← hp]; exact (prog_len l true).1
  rw [hp] at HOK
  have HP := hid hp
  have HH := hid h
  have HN := hid (show l.length ≤ 1000 by omega)
  clear hp h h40
  go_enter Try.func3, Try.ntmps3
  go_wp2_with (first
    | (go_at_call 7; refine (awake07 _).mono ?_; rintro e w1 ⟨rfl, hb1⟩)
    | (go_at_call 8; refine (program_calls (HH.out.keep hb1) HN.out true).mono ?_; rintro e w2 ⟨v2, rfl, ho2, hb2⟩; rw [HP.out] at ho2; have HO2 := hid (OwnL.base ho2 hb1.size); have HB2 := hid (hb1.trans (hb2.mono hb1.size)); clear ho2 hb2))
  try simp only [hm]
  go_loopw [5, 17] (fun v k wr => ∃ j : Nat, j ≤ m ∧ k = .int .i64 j ∧ OwnP wr w.heap.size v (p ++ List.replicate j ⟨1, r, r, 0, 0⟩) ∧ Below w.heap.size w wr) (fun _ k _ => m - (intOf k).toNat)
  case atStart => exact ⟨0, by omega, rfl, by rw [List.replicate_zero, List.append_nil]; exact HO2.out, HB2.out⟩
  case round =>
    clear HO2 HB2
    obtain ⟨j, hj, rfl, ho, hb⟩ := hrel
    by_cases hlt : j < m
    · have HN1 := hid (show p ++ List.replicate (j + 1) (Ins.mk 1 r r 0 0) = (p ++ List.replicate j ⟨1, r, r, 0, 0⟩) ++ [⟨1, r, r, 0, 0⟩] by rw [List.replicate_succ', List.append_assoc])
      have HL1 := hid (show (p ++ List.replicate j (Ins.mk 1 r r 0 0)).length ≤ 1000 by rw [List.length_append, List.length_replicate]; have := HPL.out; omega)
      obtain ⟨pj, hpj⟩ : ∃ pj, p ++ List.replicate j (Ins.mk 1 r r 0 0) = pj := ⟨_, rfl⟩
      rw [hpj] at ho HN1 HL1
      clear hpj
      go_wp2_with (at_builtin; refine app_rec Try.elIns ins_sz oneCell_ins ⟨1, r, r, 0, 0⟩ rfl _ _ rfl rfl ho rfl rfl rfl (by decide) (by have := HL1.out; omega) hb.size ?_; intro v1 w1 ho1 hg1 hl1; have HBA := hid (OwnL.belowA ho hb _ hg1 (Nat.le_refl _) hb.size))
      go_roundw
      case rel => exact ⟨j + 1, by omega, by go_num, by rw [HN1.out]; exact ho1, HBA.out⟩
      case measure => simp [intOf]; omega
    · obtain rfl : j = m := by omega
      obtain ⟨q, hq⟩ : ∃ q, p ++ List.replicate j (Ins.mk 1 r r 0 0) = q := ⟨_, rfl⟩
      have HQL : Hid (q.length ≤ 1000) := by show _ ≤ _; rw [← hq, List.length_append, List.length_replicate]; have := HPL.out; omega
      rw [hq] at ho HOK HGOOD
      obtain ⟨a5, c5, rfl, hpr⟩ := OwnP.prog ho HGOOD.out
      have HC := chk_calls hpr (by have := HQL.out; omega) true
      have HF := hid (fun w' (hb' : Below wr.heap.size wr w') => fuel_calls (hpr.keep hb') (by have := HQL.out; omega))
      obtain ⟨f, hf⟩ : ∃ f, fuel q = f := ⟨_, rfl⟩
      rw [hf] at HOK HF
      rw [HOK.out] at HC
      clear hf hq ho hpr
      have hlt2 : ¬ (j : Int) < (j : Int) := by omega
      by_cases h24 : 24 < q.length
      · rw [if_pos h24] at HC
        have e1 : decide ((q.length : Int) ≤ 24) = false := by simp; omega
        clear h24
        go_wp2_with (first
          | (go_at_call 9; refine HC.mono ?_; rintro e w3 ⟨rfl, hb3⟩))
        go_ret
        exact ⟨rfl, hb.trans (hb3.mono hb.size)⟩
      · rw [if_neg h24] at HC
        have e1 : decide ((q.length : Int) ≤ 24) = true := by simp; omega
        clear h24
        by_cases hf2 : 200 < f
        · rw [if_pos hf2] at HC
          have e2 : decide (f ≤ 200) = false := by simp; omega
          clear hf2
          go_wp2_with (first
            | (go_at_call 9; refine HC.mono ?_; rintro e w3 ⟨rfl, hb3⟩)
            | (go_at_call 10; refine (HF.out _ hb3).mono ?_; rintro e w4 ⟨rfl, hb4⟩))
          go_ret
          exact ⟨rfl, hb.trans ((hb3.trans (hb4.mono hb3.size)).mono hb.size)⟩
        · rw [if_neg hf2] at HC
          have e2 : decide (f ≤ 200) = true := by simp; omega
          clear hf2
          go_wp2_with (first
            | (go_at_call 9; refine HC.mono ?_; rintro e w3 ⟨rfl, hb3⟩)
            | (go_at_call 10; refine (HF.out _ hb3).mono ?_; rintro e w4 ⟨rfl, hb4⟩))
          go_ret
          exact ⟨rfl, hb.trans ((hb3.trans (hb4.mono hb3.size)).mono hb.size)⟩
end Go.Proofs.Ytnknhedhoibepaa
