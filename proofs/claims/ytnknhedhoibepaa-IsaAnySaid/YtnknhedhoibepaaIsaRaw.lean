/-
  The law's raw programs.
-/
import Derived.Test.YtnknhedhoibepaaIsaMake
namespace Go.Proofs.Ytnknhedhoibepaa
open Go.RowKit Isa
set_option linter.unusedVariables false

def rawIns (s : Sm) : Ins := if s.raw = true then ⟨s.op, s.dst, s.a, s.b, s.imm⟩ else ⟨s.op % 15, s.dst % 12, s.a % 12, s.b % 12, s.imm.tmod 6⟩
theorem tmod6 (n : Int) : -5 ≤ n.tmod 6 ∧ n.tmod 6 ≤ 5 := by
  have h1 := Int.tmod_lt_of_pos n (show (0 : Int) < 6 by decide)
  have h2 := Int.neg_tmod (a := n) (b := 6)
  have h3 := Int.tmod_lt_of_pos (-n) (show (0 : Int) < 6 by decide)
  omega
theorem rawIns_good {s : Sm} (h : s.good) : (rawIns s).good := by
  have := tmod6 s.imm
  unfold Sm.good at h
  unfold rawIns Ins.good
  split <;> simp only <;> omega

set_option maxRecDepth 10000 in
set_option maxHeartbeats 2000000 in
theorem raw_calls {w : World} {a : Option Addr} {n cap : Nat} {l : List Sm} (h : Sms w a n cap l) (h6 : n ≤ 1000) :
    Calls Try.prog 18 #[.slice a n cap] w fun e w' => ∃ v, e = .returned v ∧ OwnP w' w.heap.size v (l.map rawIns) ∧ Below w.heap.size w w' := by
  obtain rfl := h.1
  go_enter Try.func18, Try.ntmps18
  go_wp2
  go_loopw [3, 9] (fun v k wr => ∃ j : Nat, j ≤ l.length ∧ k = .int .i64 j ∧ OwnP wr w.heap.size v ((l.take j).map rawIns) ∧ Below w.heap.size w wr) (fun _ k _ => l.length - (intOf k).toNat)
  case atStart => exact ⟨0, Nat.zero_le _, rfl, OwnL.nil _ _, Below.refl _ _⟩
  case round =>
    obtain ⟨j, hj, rfl, ho, hb⟩ := hrel
    by_cases hlt : j < l.length
    · obtain ⟨b, off, rfl, c0, c1, c2, c3, c4, c5⟩ := (h.keep hb).at j hlt
      have hg := h.2.2 l[j] (List.getElem_mem hlt)
      have hlt2 : (j : Int) < (l.length : Int) := by omega
      have HT := hid (show (l.take (j + 1)).map rawIns = (l.take j).map rawIns ++ [rawIns l[j]] by rw [List.take_succ_eq_append_getElem hlt, List.map_append]; rfl)
      have HL := hid (show ((l.take j).map rawIns).length ≤ 1000 by simp; omega)
      obtain ⟨p, hp⟩ : ∃ p, (l.take j).map rawIns = p := ⟨_, rfl⟩
      rw [hp] at ho HT HL
      obtain ⟨s, hs⟩ : ∃ s, l[j] = s := ⟨_, rfl⟩
      rw [hs] at c0 c1 c2 c3 c4 c5 hg HT
      obtain ⟨op, dst, xa, xb, imm, raw⟩ := s
      have t6 := tmod6 imm
      unfold Sm.good at hg
      simp only at c0 c1 c2 c3 c4 c5 hg
      have n2 : IntKind.i16.wrap (imm.tmod 6) = imm.tmod 6 := IntWalk.i16_in _ (by omega)
      clear hp hs
      cases raw with
      | true =>
        have HX := hid (show rawIns ⟨op, dst, xa, xb, imm, true⟩ = ⟨op, dst, xa, xb, imm⟩ from rfl)
        go_wp2_with (at_builtin; refine app_rec Try.elIns ins_sz oneCell_ins ⟨op, dst, xa, xb, imm⟩ rfl _ _ rfl rfl (OwnL.keep ho (((Below.refl _ _).alloc (Nat.le_refl _) _).alloc (by simp) _)) rfl (by simp) rfl (by decide) (by have := HL.out; omega) (by have := hb.size; simp; omega) ?_; intro v1 w1 ho1 hg1 hl1; have HBA := hid (OwnL.belowA (OwnL.keep ho (((Below.refl _ _).alloc (Nat.le_refl _) _).alloc (by simp) _)) ((hb.alloc hb.size _).alloc (hb.alloc hb.size _).size _) _ hg1 (Nat.le_refl _) (by have := hb.size; simp; omega)))
        go_roundw
        case rel => exact ⟨j + 1, by omega, by go_num, by rw [HT.out, HX.out]; exact ho1, HBA.out⟩
        case measure => simp [intOf]; omega
      | false =>
        have HX := hid (show rawIns ⟨op, dst, xa, xb, imm, false⟩ = ⟨op % 15, dst % 12, xa % 12, xb % 12, imm.tmod 6⟩ from rfl)
        go_wp2_with (at_builtin; refine app_rec Try.elIns ins_sz oneCell_ins ⟨op % 15, dst % 12, xa % 12, xb % 12, imm.tmod 6⟩ rfl _ _ rfl rfl (OwnL.keep ho (((Below.refl _ _).alloc (Nat.le_refl _) _).alloc (by simp) _)) rfl (by simp) rfl (by decide) (by have := HL.out; omega) (by have := hb.size; simp; omega) ?_; intro v1 w1 ho1 hg1 hl1; have HBA := hid (OwnL.belowA (OwnL.keep ho (((Below.refl _ _).alloc (Nat.le_refl _) _).alloc (by simp) _)) ((hb.alloc hb.size _).alloc (hb.alloc hb.size _).size _) _ hg1 (Nat.le_refl _) (by have := hb.size; simp; omega)))
        go_roundw
        case rel => exact ⟨j + 1, by omega, by go_num, by rw [HT.out, HX.out]; exact ho1, HBA.out⟩
        case measure => simp [intOf]; omega
    · obtain rfl : j = l.length := by omega
      rw [List.take_length] at ho
      have hlt2 : ¬ (l.length : Int) < (l.length : Int) := by omega
      have HO := hid ho
      clear ho
      go_wp2
      go_ret
      exact ⟨_, rfl, HO.out, hb⟩
end Go.Proofs.Ytnknhedhoibepaa
