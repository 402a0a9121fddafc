/-
  The walk of the law 'IsaAny'.
-/
import Derived.Test.YtnknhedhoibepaaIsaBack
import Derived.Test.YtnknhedhoibepaaIsaRaw
import Derived.Deep.RegionHeld
import Derived.Deep.CutRange
namespace Go.Proofs.Ytnknhedhoibepaa
open Go.RowKit Isa
set_option linter.unusedVariables false

theorem raws_good {l : List Sm} (h : ∀ s ∈ l, s.good) : ∀ x ∈ l.map rawIns, x.good := fun x hx => by
  obtain ⟨s, hs, rfl⟩ := List.mem_map.1 hx
  exact rawIns_good (h s hs)

set_option maxRecDepth 10000 in
set_option maxHeartbeats 4000000 in
theorem any_walk {a : Option Addr} {n cap : Nat} {bs : List UInt8} {a' : Option Addr} {n' cap' : Nat} {l : List Sm} {w : World} (hB : Bytes w a n cap bs) (h : Sms w a' n' cap' l) (d : Bool) :
    Calls Try.prog 6 #[.slice a n cap, .slice a' n' cap', .bool d] w fun e w' => e = .returned (.bool true) ∧ Below w.heap.size w w' := by
  obtain rfl := h.1
  obtain rfl := hB.len
  by_cases h40 : bs.length > 150 ∨ l.length > 40
  · obtain ⟨b1, b2, e1, e2, hw⟩ : ∃ b1 b2 : Bool, decide ((bs.length : Int) > 150) = b1 ∧ decide ((l.length : Int) > 40) = b2 ∧ (b1 = true ∨ (b1 = false ∧ b2 = true)) := ⟨_, _, rfl, rfl, by simp only [decide_eq_true_eq, decide_eq_false_iff_not]; omega⟩
    clear h40
    rcases hw with rfl | ⟨rfl, rfl⟩
    all_goals
      go_enter Try.func6, Try.ntmps6
      go_wp2_with (go_at_call 7; refine (awake07 _).mono ?_; rintro e w1 ⟨rfl, hb1⟩)
      go_ret
      exact ⟨rfl, hb1⟩
  have d1 : decide ((bs.length : Int) > 150) = false := by simp; omega
  have d2 : decide ((l.length : Int) > 40) = false := by simp; omega
  have HGR := hid (raws_good h.2.2)
  have HRL := hid (show (l.map rawIns).length ≤ 40 by rw [List.length_map]; omega)
  obtain ⟨p, hp⟩ : ∃ p, l.map rawIns = p := ⟨_, rfl⟩
  rw [hp] at HGR HRL
  have HP := hid hp
  have HH := hid h
  have HN := hid (show l.length ≤ 1000 by omega)
  have HBL := hid (show bs.length ≤ 150 by omega)
  have HBS := hid hB
  obtain ⟨L, hL⟩ : ∃ L, progBytes p = L := ⟨_, rfl⟩
  have HL := hid hL
  have HL6 := hid (show L.length ≤ 16000 by rw [← hL]; exact progBytes_len HGR.out (by have := HRL.out; omega))
  clear hp h h40 hL hB
  go_enter Try.func6, Try.ntmps6
  go_wp2_with (first
    | (go_at_call 7; refine (awake07 _).mono ?_; rintro e w1 ⟨rfl, hb1⟩)
    | (go_at_call 18; refine (raw_calls (HH.out.keep (hb1.alloc hb1.size _)) HN.out).mono ?_; rintro e w2 ⟨v2, rfl, ho2, hb2⟩; rw [HP.out] at ho2; obtain ⟨a5, c5, rfl, hp2⟩ := OwnP.prog ho2 HGR.out; have LT := hid (own_block_lt ho2); have HP2 := hid hp2; have HW2 := hid ((Wr.new w1 39).fr (Fr.ofBelow hb2) (fun _ _ h => by cases h)); have HSZ := hid (show w1.heap.size + 1 ≤ w2.heap.size by have := hb2.size; simp at this; omega); have HB2 := hid ((hb1.alloc hb1.size _).trans (hb2.mono (hb1.alloc hb1.size _).size)); clear ho2 hb2 hp2)
    | (go_at_call 12; refine (put_prog HW2.out HP2.out (fun q hq => by have h1 := (LT.out q hq).1; have := (LT.out q hq).2; simp at h1 ⊢; omega) (by have := HRL.out; omega) (by decide)).mono ?_; rintro e w3 ⟨rfl, S3, hw3, hg3, hf3⟩; rw [List.nil_append, HL.out] at hw3; have HB3 := hid (Fr.below HB2.out hf3 (by simp; exact hb1.size) HB2.out.size); clear hg3 hf3)
    | (go_at_call 14; refine (wbytes_calls hw3 (by have := HL6.out; omega)).mono ?_; rintro e w4 ⟨v4, rfl, ho4, hb4⟩; obtain ⟨a4, c4, rfl, hB4⟩ := ho4.bytes; have HY4 := hid hB4; have HB4 := hid (HB3.out.trans (hb4.mono HB3.out.size)); clear hb4 ho4 hw3 hB4))
  obtain ⟨gr, hgr⟩ : ∃ gr, w4.heap.size = gr := ⟨_, rfl⟩
  have hrow := heap_new w4 (.cells #[.slice a bs.length cap, .slice a4 L.length c4] 37)
  have HY0 := hid ((HBS.out.keep HB4.out).keep ((Below.refl _ _).alloc (Nat.le_refl _) (.cells #[.slice a bs.length cap, .slice a4 L.length c4] 37)))
  have HY1 := hid (HY4.out.keep ((Below.refl _ _).alloc (Nat.le_refl _) (.cells #[.slice a bs.length cap, .slice a4 L.length c4] 37)))
  have HB5 := hid (HB4.out.alloc HB4.out.size (.cells #[.slice a bs.length cap, .slice a4 L.length c4] 37))
  rw [hgr] at hrow ⊢
  obtain ⟨W, hW⟩ : ∃ W, w4.alloc (.cells #[.slice a bs.length cap, .slice a4 L.length c4] 37) = W := ⟨_, rfl⟩
  rw [hW] at hrow HY0 HY1 HB5 ⊢
  have HROW := hid hrow
  clear hrow hgr hW hb1 HB4 HB3 HB2 HY4
  go_loopw [34] (fun k wr => ∃ j : Nat, j ≤ 2 ∧ k = .int .i64 j ∧ Hid (Below W.heap.size W wr)) (fun k _ => 2 - (intOf k).toNat)
  case atStart => exact ⟨0, by omega, rfl, Below.refl _ _⟩
  case round =>
    obtain ⟨j, hj, rfl, HB⟩ := hrel
    by_cases hlt : j < 2
    · obtain ⟨ax, cx, bx, c0, hx, HXL⟩ : ∃ ax cx bx, wr.cell? ⟨gr, j, none⟩ = some (.slice ax bx.length cx) ∧ Bytes wr ax bx.length cx bx ∧ Hid (bx.length ≤ 16000) := by
        have h1 := HB.out.block gr (heap_lt HROW.out)
        rw [HROW.out] at h1
        rcases (show j = 0 ∨ j = 1 by omega) with rfl | rfl
        · exact ⟨a, cap, bs, cell_at h1 0, HY0.out.keep HB.out, by have := HBL.out; show _ ≤ _; omega⟩
        · exact ⟨a4, c4, L, cell_at h1 1, HY1.out.keep HB.out, HL6.out⟩
      have hlt2 : (j : Int) < 2 := by omega
      have hok := takeP_ok (bs := bx) (s := ⟨0, 0⟩) (d := d) (Nat.zero_le _)
      have hgd := takeP_good bx ⟨0, 0⟩ d
      have hnn := takeP_none (bs := bx) (s := ⟨0, 0⟩) (d := d)
      obtain ⟨q, s1, hq⟩ : ∃ q s1, takeP bx ⟨0, 0⟩ d = (q, s1) := ⟨_, _, rfl⟩
      rw [hq] at hok hgd hnn
      simp only at hok hgd hnn
      have HQ := hid hq
      have HGD := hid hgd
      obtain ⟨sat, serr⟩ := s1
      simp only at hok hnn
      clear hq hgd
      by_cases he : serr = 0
      · obtain ⟨_, _, hle, hck, hpb⟩ := hok he
        subst he
        have HCK := hid hck
        have HLE := hid hle
        have HQB := hid (show progBytes q = bx.take sat by rw [hpb]; simp [part])
        have HL24 := hid (chk_zero.1 hck).1
        obtain ⟨Lq, hLq⟩ : ∃ Lq, progBytes q = Lq := ⟨_, rfl⟩
        rw [hLq] at HQB
        have HLQ := hid hLq
        have HLQ6 := hid (show Lq.length ≤ 16000 by rw [HQB.out, List.length_take]; have := HXL.out; omega)
        have hcx := Sl.le hx
        have hcb := Sl.big hx
        have hle2 := hle
        have HBX := hid hx
        clear hok hnn hck hpb hle hLq
        go_upto_region 17 with (first
          | (go_at_call 13; refine (read_calls hx (by have := HXL.out; omega)).mono ?_; rintro e w5 ⟨g5, S5, rfl, hr5, hS5, hb5⟩; have HB6 := hid hb5; have HG5 := hid (show wr.heap.size ≤ g5 from (hS5 g5 (by obtain ⟨_, _, _, _, _, _, h4, _⟩ := hr5; exact h4)).1); have HS5 := hid hS5; clear hb5 hS5)
          | (go_at_call 15; refine (take_calls hr5 (fun k hk => (HS5.out k hk).2) d).mono ?_; rintro e w6 ⟨v6, rfl, ho6, hr6, hf6⟩; rw [HQ.out] at ho6 hr6; obtain ⟨a6, c6, rfl, hp6⟩ := OwnP.prog ho6 HGD.out; have LT6 := hid (own_block_lt ho6); have HP6 := hid hp6; have HB7 := hid (Fr.below HB6.out hf6 (by simp; have := HG5.out; omega) HB6.out.size); have HLT5 := hid (fun k hk => Nat.lt_of_lt_of_le (HS5.out k hk).2 hf6.size); clear ho6 hf6 hp6 hr5)
          | (go_at_call 19; refine (rerr_calls hr6).mono ?_; rintro x w6 ⟨rfl, rfl⟩)
          | (go_at_call 12; refine (put_prog (Wr.new w6 _) (HP6.out.keep ((Below.refl _ _).alloc (Nat.le_refl _) _)) (fun q hq => by have := (LT6.out q hq).2; simp; omega) (by have := HL24.out; omega) (by decide)).mono ?_; rintro e w8 ⟨rfl, S8, hw8, hg8, hf8⟩; rw [List.nil_append, HLQ.out] at hw8; have HP8 := hid ((HP6.out.keep ((Below.refl _ _).alloc (Nat.le_refl _) _)).fr hf8 (fun q hq => by have := (LT6.out q hq).2; simp; omega)); have HR8 := hid ((hr6.fr (fr_alloc _ _) (fun _ _ h => by cases h)).fr hf8 (fun k hk => by have := HLT5.out k hk; simp; omega)); have HB8 := hid (Fr.below (HB7.out.alloc HB7.out.size _) hf8 (by simp; exact HB7.out.size) (HB7.out.alloc HB7.out.size _).size); have HW8 := hid hw8; clear hg8 hf8 hw8 hr6))
        have hconv : ∀ w', Below w8.heap.size w8 w' → (convert 37 9 (.slice ax sat cx)).run Try.prog w' = .ok (.string (str Lq)) w' := fun w' hb => by
          have := ((HBX.out.keep HB8.out).keep hb).front sat hle2
          rw [← HQB.out] at this
          exact run_str (P := Try.prog) this 37 9 5 Try.underlying37 Try.underlying5 Try.underlying9
        have HCV := hid hconv
        have hs0 := hconv _ (Below.refl w8.heap.size w8).drew
        have hbd := hid ((Below.refl w8.heap.size w8).drew)
        have n1 : IntKind.i64.wrap (sat : Int) = sat := IntWalk.i64_in _ (by omega)
        have n2 : (sat : Int) ≤ (bx.length : Int) := by omega
        have n3 : (sat : Int) ≤ (cx : Int) := by omega
        have n4 : (0 : Int) ≤ (sat : Int) := by omega
        clear hconv hx c0
        go_region_held (fun w' => (convert 37 9 (.slice ax sat cx)).run Try.prog w' = .ok (.string (str Lq)) w') (first | exact hs0 | exact hs9 | exact hs10)
          (first
            | (go_at_call 9; refine (chk_calls (HP8.out.keep hbd.out) (by have := HL24.out; omega) d).mono ?_; rintro e w9 ⟨rfl, hb9⟩; rw [HCK.out]; have HB9 := hid (hbd.out.trans (hb9.mono hbd.out.size)); have hs9 := HCV.out _ HB9.out; clear hb9)
            | (go_at_call 20; (with_reducible refine (rat_calls (HR8.out.fr (Fr.ofBelow HB10.out) (by simp))).mono ?_); rintro e w10 ⟨rfl, rfl⟩)
            | (go_at_call 20; (with_reducible refine (rat_calls (HR8.out.fr (Fr.ofBelow HB9.out) (by simp))).mono ?_); rintro e w9 ⟨rfl, rfl⟩)
            | (go_at_call 14; refine (wbytes_calls (HW8.out.fr (Fr.ofBelow HB9.out) (by simp)) (by have := HLQ6.out; omega)).mono ?_; rintro e w10 ⟨v10, rfl, ho10, hb10⟩; obtain ⟨a10, c10, rfl, hy10⟩ := ho10.bytes; have HB10 := hid (HB9.out.trans (hb10.mono HB9.out.size)); have hs10 := HCV.out _ HB10.out; have ht10 := run_str (P := Try.prog) hy10 37 9 5 Try.underlying37 Try.underlying5 Try.underlying9; clear hb10 ho10 hy10))
        all_goals
          have HBZ := hid (HB.out.trans ((HB8.out.trans (HB10.out.mono HB8.out.size)).mono HB.out.size))
          clear hs0 hs9 hs10 ht10 hbd
          go_wp2
          go_roundw
          case rel => exact ⟨j + 1, by omega, by go_num, HBZ.out⟩
          case measure => simp [intOf]; omega
      · obtain rfl : q = [] := hnn he
        have b0 : (serr != 0) = true := by rw [bne_iff_ne]; exact he
        have b1 : (serr == 0) = false := by rw [beq_eq_false_iff_ne]; exact he
        clear hok hnn he
        go_wp2_with (first
          | (go_at_call 13; refine (read_calls hx (by have := HXL.out; omega)).mono ?_; rintro e w5 ⟨g5, S5, rfl, hr5, hS5, hb5⟩; have HB6 := hid (HB.out.trans (hb5.mono HB.out.size)); have HG5 := hid (show wr.heap.size ≤ g5 from (hS5 g5 (by obtain ⟨_, _, _, _, _, _, h4, _⟩ := hr5; exact h4)).1); have HS5 := hid hS5; clear hb5 hS5)
          | (go_at_call 15; refine (take_calls hr5 (fun k hk => (HS5.out k hk).2) d).mono ?_; rintro e w6 ⟨v6, rfl, ho6, hr6, hf6⟩; rw [HQ.out] at ho6 hr6; obtain ⟨a6, c6, rfl, hp6⟩ := OwnP.prog ho6 HGD.out; have HB7 := hid (Fr.below HB6.out hf6 (by simp; have := HG5.out; have := HB.out.size; omega) HB6.out.size); clear ho6 hf6 hp6 hr5)
          | (go_at_call 19; refine (rerr_calls hr6).mono ?_; rintro x w6 ⟨rfl, rfl⟩))
        go_roundw
        case rel => exact ⟨j + 1, by omega, by go_num, HB7.out⟩
        case measure => simp [intOf]; omega
    · have hlt2 : ¬ (j : Int) < 2 := by omega
      go_wp2
      go_ret
      exact ⟨rfl, HB5.out.trans (HB.out.mono HB5.out.size)⟩
end Go.Proofs.Ytnknhedhoibepaa
