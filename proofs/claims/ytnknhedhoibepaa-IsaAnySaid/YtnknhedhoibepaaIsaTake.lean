/-
  Programs out of bytes: Take's walk.
-/
import Derived.Test.YtnknhedhoibepaaIsaTakeP
import Derived.Test.YtnknhedhoibepaaIsaMake
import Derived.Test.YtnknhedhoibepaaIsaPut
namespace Go.Proofs.Ytnknhedhoibepaa
open Go.RowKit Isa
set_option linter.unusedVariables false

theorem rbyte_at {w : World} {g : Nat} {S : List Nat} {bs : List UInt8} {s s1 : Rs} {c : Nat} (h : Rd w g S bs s) (e : rByte bs s = (c, s1)) :
    Calls Try.prog 26 #[.pointer (some ⟨g, 0, none⟩)] w fun x w' => x = .returned (.int .u8 (c : Nat)) ∧ Rd w' g S bs s1 ∧ Fr [g] w w' := by
  have := rbyte_calls h
  rw [e] at this
  exact this
theorem rwithin_at {w : World} {g : Nat} {S : List Nat} {bs : List UInt8} {s s1 : Rs} {z lo hi : Int} (h : Rd w g S bs s) (e : rWithin bs s lo hi = (z, s1)) :
    Calls Try.prog 27 #[.pointer (some ⟨g, 0, none⟩), .int .i64 lo, .int .i64 hi] w fun x w' => x = .returned (.int .i64 z) ∧ Rd w' g S bs s1 ∧ Fr [g] w w' := by
  have := rwithin_calls h lo hi
  rw [e] at this
  exact this
theorem rcount_at {w : World} {g : Nat} {S : List Nat} {bs : List UInt8} {s s1 : Rs} {n : Nat} {most : Int} (h : Rd w g S bs s) (hm : most < 9223372036854775808) (e : rCount bs s most = (n, s1)) :
    Calls Try.prog 25 #[.pointer (some ⟨g, 0, none⟩), .int .i64 most] w fun x w' => x = .returned (.int .i64 n) ∧ Rd w' g S bs s1 ∧ Fr [g] w w' := by
  have := rcount_calls h most hm
  rw [e] at this
  exact this
theorem takeIns_eq {bs : List UInt8} {s s1 s2 s3 s4 s5 : Rs} {a b c d : Nat} {e : Int} (h1 : rByte bs s = (a, s1)) (h2 : rByte bs s1 = (b, s2)) (h3 : rByte bs s2 = (c, s3)) (h4 : rByte bs s3 = (d, s4)) (h5 : rWithin bs s4 (-32768) 32767 = (e, s5)) :
    takeIns bs s = (⟨a, b, c, d, e⟩, s5) := by unfold takeIns; simp only [h1, h2, h3, h4, h5]
theorem Rd.lt {w : World} {g : Nat} {S : List Nat} {bs : List UInt8} {s : Rs} (h : Rd w g S bs s) : g < w.heap.size := by
  obtain ⟨T, a, cap, h1, _⟩ := h
  exact heap_lt h1
theorem Rd.own {w w' : World} {g : Nat} {S : List Nat} {bs : List UInt8} {s : Rs} (h : Rd w g S bs s) {row : Option Nat} (hg : w.grownBy w' row) (hr : ∀ k, row = some k → k ∉ S) : Rd w' g S bs s :=
  h.fr (S' := row.toList) (Fr.grown (Fr.refl _ _) hg (fun k hk => .inl (by simp [hk]))) (fun k hk hm => by simp at hm; exact hr k hm hk)

set_option maxRecDepth 10000 in
set_option maxHeartbeats 4000000 in
theorem take_calls {w : World} {g : Nat} {S : List Nat} {bs : List UInt8} {s : Rs} (h : Rd w g S bs s) (hS : ∀ k ∈ S, k < w.heap.size) (d : Bool) :
    Calls Try.prog 15 #[.pointer (some ⟨g, 0, none⟩), .bool d] w fun e w' => ∃ v, e = .returned v ∧ OwnP w' w.heap.size v (takeP bs s d).1 ∧ Rd w' g S bs (takeP bs s d).2 ∧ Fr [g] w w' := by
  obtain ⟨n, s1, hc⟩ : ∃ n s1, rCount bs s 24 = (n, s1) := ⟨_, _, rfl⟩
  have HC := hid hc
  have hn24 : n ≤ 24 := by have := count_bd bs s; rw [hc] at this; exact this
  have HRAW : Hid (takeFrom bs n s1 [] = takeRaw bs s) := by show _ = _; unfold takeRaw; rw [hc]
  have HTP : Hid (takeP bs s d = (if (takeEnd (takeRaw bs s) d).err ≠ 0 then [] else (takeRaw bs s).1, takeEnd (takeRaw bs s) d)) := rfl
  have HS := hid hS
  clear hc hS
  go_enter Try.func15, Try.ntmps15
  go_wp2_with (go_at_call 25; refine (rcount_at h (by decide) HC.out).mono ?_; rintro x w1 ⟨rfl, hr1, hf1⟩)
  go_loopw [5, 7] (fun v i wr => ∃ (j : Nat) (p : List Ins) (s' : Rs), j ≤ n ∧ i = .int .i64 j ∧ OwnP wr w.heap.size v p ∧ Rd wr g S bs s' ∧ Hid (takeFrom bs (n - j) s' p = takeRaw bs s) ∧ Hid (p.length ≤ j) ∧ Hid (∀ x ∈ p, x.good) ∧ Fr [g] w wr) (fun _ i _ => n - (intOf i).toNat)
  case atStart => exact ⟨0, [], s1, by omega, rfl, OwnL.nil _ _, hr1, HRAW.out, Nat.le_refl _, (fun x hx => by cases hx), hf1⟩
  case round =>
    clear hr1 hf1 h HRAW HC
    obtain ⟨j, p, s', hj, rfl, ho, hr, HT, HL, HG, hf⟩ := hrel
    by_cases hlt : j < n ∧ s'.err = 0
    · obtain ⟨hlt, he⟩ := hlt
      have dj : decide ((j : Int) < (n : Int)) = true := by simp; omega
      obtain ⟨a, s1, h1⟩ : ∃ a s1, rByte bs s' = (a, s1) := ⟨_, _, rfl⟩
      obtain ⟨b, s2, h2⟩ : ∃ b s2, rByte bs s1 = (b, s2) := ⟨_, _, rfl⟩
      obtain ⟨c, s3, h3⟩ : ∃ c s3, rByte bs s2 = (c, s3) := ⟨_, _, rfl⟩
      obtain ⟨e, s4, h4⟩ : ∃ e s4, rByte bs s3 = (e, s4) := ⟨_, _, rfl⟩
      obtain ⟨z, s5, h5⟩ : ∃ z s5, rWithin bs s4 (-32768) 32767 = (z, s5) := ⟨_, _, rfl⟩
      have HX := hid (takeIns_eq h1 h2 h3 h4 h5)
      have hg0 := takeIns_good bs s'
      rw [HX.out] at hg0
      have HG0 := hid hg0
      unfold Ins.good at hg0
      simp only at hg0
      obtain ⟨g1, g2, g3, g4, g5, g6⟩ := hg0
      have hzw : IntKind.i16.wrap z = z := IntWalk.i16_in _ (by omega)
      have E1 := hid h1
      have E2 := hid h2
      have E3 := hid h3
      have E4 := hid h4
      have E5 := hid h5
      have HN : Hid (takeFrom bs (n - (j + 1)) s5 (p ++ [⟨a, b, c, e, z⟩]) = takeRaw bs s) := by
        show _ = _
        rw [← HT.out, show n - j = (n - (j + 1)) + 1 by omega]
        simp only [takeFrom]
        rw [if_neg (by simpa using he), HX.out]
      have HE := hid he
      have HF := hid hf
      have hr0 := hr
      have HLT := hid hr.lt
      clear h1 h2 h3 h4 h5 he hf hr
      go_upto_region 7 with (first
        | (go_at_call 19; refine (rerr_calls hr0).mono ?_; rintro x wr ⟨rfl, rfl⟩; rw [HE.out])
        | (go_at_call 26; refine (rbyte_at hr3 E4.out).mono ?_; rintro x w7 ⟨rfl, hr4, hf4⟩)
        | (go_at_call 26; refine (rbyte_at hr2 E3.out).mono ?_; rintro x w6 ⟨rfl, hr3, hf3⟩)
        | (go_at_call 26; refine (rbyte_at hr1 E2.out).mono ?_; rintro x w5 ⟨rfl, hr2, hf2⟩)
        | (go_at_call 26; refine (rbyte_at hr0 E1.out).mono ?_; rintro x w4 ⟨rfl, hr1, hf1⟩))
      have hg7 := hr4.lt
      have hw7 : w.heap.size ≤ w7.heap.size := Nat.le_trans HF.out.size (((hf1.trans hf2 (Grows.refl _ _)).trans hf3 (Grows.refl _ _)).trans hf4 (Grows.refl _ _)).size
      have HF7 := hid (((hf1.trans hf2 (Grows.refl _ _)).trans hf3 (Grows.refl _ _)).trans hf4 (Grows.refl _ _))
      have HG7 := hid hg7
      have HW7 := hid hw7
      clear hr0 hr1 hr2 hr3 hf1 hf2 hf3 hf4 hg7 hw7
      go_upto_region 8 with (go_at_call 27; refine (rwithin_at (hr4.fr (fr_alloc _ _) (fun _ _ h => by cases h)) E5.out).mono ?_; rintro x w8 ⟨rfl, hr5, hf5⟩; have hbx := hf5.heap (heap_new w7 _) (by simp; have := HG7.out; omega); have k4 := cell_at hbx 4; have f4 := free_at hbx 4)
      obtain ⟨bx, hbxe⟩ : ∃ bx, w7.heap.size = bx := ⟨_, rfl⟩
      rw [hbxe] at hbx HG7 HW7 ⊢
      have hbx9 : (w8.setCell ⟨bx, 4, none⟩ (.int .i16 z)).heap[bx]? = some (.cells #[.int .u8 a, .int .u8 b, .int .u8 c, .int .u8 e, .int .i16 z] 30 (0, 0)) := by simpa using heap_set (a := ⟨bx, 4, none⟩) hbx rfl (.int .i16 z)
      have hF9 : Fr [g] wr (w8.setCell ⟨bx, 4, none⟩ (.int .i16 z)) := Fr.set (((HF7.out.alloc _).trans hf5 (Grows.refl _ _))) _ (.inr (by show wr.heap.size ≤ bx; rw [← hbxe]; exact HF7.out.size)) _
      have hr9 : Rd (w8.setCell ⟨bx, 4, none⟩ (.int .i16 z)) g S bs s5 := hr5.fr (S' := [bx]) (Fr.set (Fr.refl _ _) _ (.inl (by simp)) _) (fun k hk hm => by simp at hm; have := HS.out k hk; have := HW7.out; omega)
      obtain ⟨w9, hw9⟩ : ∃ w9, w8.setCell ⟨bx, 4, none⟩ (.int .i16 z) = w9 := ⟨_, rfl⟩
      rw [hw9] at hbx9 hF9 hr9 ⊢
      have ho9 : OwnP w9 w.heap.size u5 p := own_fr ho hF9 (fun k hk hm => by simp at hm; have := (World.ownsRow.lt ho k hk).1; have := HS.out g (by obtain ⟨_, _, _, _, _, _, h4, _⟩ := hr9; exact h4); omega)
      have HOL := hid (fun k hk => (World.ownsRow.lt ho9 k hk).1)
      have c0 := cell_at hbx9 0
      have c1 := cell_at hbx9 1
      have c2 := cell_at hbx9 2
      have c3 := cell_at hbx9 3
      have c4 := cell_at hbx9 4
      have HF9 := hid (HF.out.trans hF9 (Grows.refl _ _))
      have HR9 := hid hr9
      have HO9 := hid ho9
      clear hr4 hbx k4 f4 hr5 hf5 hw9 hF9 hr9 ho ho9 hbx9 hbxe
      go_wp2_with (at_builtin; refine app_rec Try.elIns ins_sz oneCell_ins ⟨a, b, c, e, z⟩ rfl _ _ rfl rfl HO9.out rfl rfl rfl (by decide) (by have := HL.out; omega) HF9.out.size ?_; intro v1 w1 ho1 hg1 hl1; have hF10 := (HF9.out.alloc _).grown hg1 (fun k hk => .inr (HOL.out k hk)); have hr10 := (HR9.out.fr (fr_alloc _ _) (fun _ _ h => by cases h)).own hg1 (fun k hk hm => by have := HOL.out k hk; have := HS.out k hm; omega); clear hg1 hl1)
      go_roundw
      case rel => exact ⟨j + 1, _, s5, by omega, by go_num, ho1, hr10, HN, by have := HL.out; show _ ≤ _; rw [List.length_append]; simp; omega, (fun x hx => (List.mem_append.1 hx).elim (HG.out x) (fun h => by simp at h; rw [h]; exact HG0.out)), hF10⟩
      case measure => simp [intOf]; omega
    · have hRW : (p, s') = takeRaw bs s := by
        rw [← HT.out]
        by_cases h0 : j < n
        · rw [show n - j = (n - (j + 1)) + 1 by omega]
          simp only [takeFrom]
          rw [if_pos (fun h => hlt ⟨h0, h⟩)]
        · rw [show n - j = 0 by omega]; rfl
      have HRW := hid hRW
      clear hRW
      obtain ⟨sat, serr⟩ := s'
      simp only at hlt
      by_cases hj2 : j < n
      · have dj : decide ((j : Int) < (n : Int)) = true := by simp; omega
        have he : ¬ serr = 0 := fun h => hlt ⟨hj2, h⟩
        clear hlt
        have hTE : takeP bs s d = ([], ⟨sat, serr⟩) := by
          have h1 : takeEnd (takeRaw bs s) d = ⟨sat, serr⟩ := by rw [← HRW.out]; unfold takeEnd; simp only; rw [if_neg he]
          rw [HTP.out, h1]
          simp only
          rw [if_pos he]
        have HTE := hid hTE
        have b0 : (serr == 0) = false := by rw [beq_eq_false_iff_ne]; exact he
        have b1 : (serr != 0) = true := by rw [bne_iff_ne]; exact he
        clear hTE he
        go_wp2_with (go_at_call 19; refine (rerr_calls hr).mono ?_; rintro x wr ⟨rfl, rfl⟩)
        go_ret
        rw [HTE.out]
        exact ⟨_, rfl, OwnL.nil _ _, hr, hf⟩
      have dj : decide ((j : Int) < (n : Int)) = false := by simp; omega
      clear hlt
      by_cases he : ¬ serr = 0
      · skip
        have hTE : takeP bs s d = ([], ⟨sat, serr⟩) := by
          have h1 : takeEnd (takeRaw bs s) d = ⟨sat, serr⟩ := by rw [← HRW.out]; unfold takeEnd; simp only; rw [if_neg he]
          rw [HTP.out, h1]
          simp only
          rw [if_pos he]
        have HTE := hid hTE
        have b0 : (serr == 0) = false := by rw [beq_eq_false_iff_ne]; exact he
        have b1 : (serr != 0) = true := by rw [bne_iff_ne]; exact he
        clear hTE he
        go_wp2_with (go_at_call 19; refine (rerr_calls hr).mono ?_; rintro x wr ⟨rfl, rfl⟩)
        go_ret
        rw [HTE.out]
        exact ⟨_, rfl, OwnL.nil _ _, hr, hf⟩
      simp only [Decidable.not_not] at he
      obtain rfl : serr = 0 := he
      obtain ⟨a5, c5, rfl, hpr⟩ := OwnP.prog ho HG.out
      have HC := chk_calls hpr (by have := HL.out; omega) d
      obtain ⟨r0, hr0⟩ : ∃ r0, chk p d = r0 := ⟨_, rfl⟩
      rw [hr0] at HC
      have HO := hid ho
      by_cases h0 : r0 = 0
      · subst h0
        have hTE : takeP bs s d = (p, ⟨sat, 0⟩) := by
          have h1 : takeEnd (takeRaw bs s) d = ⟨sat, 0⟩ := by rw [← HRW.out]; unfold takeEnd; simp only; rw [if_pos trivial, hr0]; rfl
          rw [HTP.out, h1, ← HRW.out]
          rfl
        have HTE := hid hTE
        clear hTE hr0 hpr ho
        go_wp2_with (first
          | (go_at_call 9; refine HC.mono ?_; rintro x w3 ⟨rfl, hb3⟩; have hr3 := hr.fr (Fr.ofBelow hb3) (by simp))
          | (go_at_call 19; (with_reducible refine (rerr_calls hr).mono ?_); rintro x wr ⟨rfl, rfl⟩)
          | (go_at_call 19; refine (rerr_calls hr3).mono ?_; rintro x w3 ⟨rfl, rfl⟩))
        go_ret
        rw [HTE.out]
        exact ⟨_, rfl, OwnL.keep HO.out hb3, hr3, hf.trans (Fr.ofBelow hb3) (fun _ h => by cases h)⟩
      · have hTE : takeP bs s d = ([], ⟨sat, r0⟩) := by
          have h1 : takeEnd (takeRaw bs s) d = ⟨sat, r0⟩ := by
            rw [← HRW.out]; unfold takeEnd; simp only; rw [if_pos trivial, hr0, if_pos h0]; rfl
          rw [HTP.out, h1]
          simp only
          rw [if_pos h0]
        have HTE := hid hTE
        have HRF := hid (show rFail ⟨sat, 0⟩ r0 = ⟨sat, r0⟩ from rfl)
        have b0 : (r0 != 0) = true := by rw [bne_iff_ne]; exact h0
        clear hTE hr0 hpr ho h0
        go_wp2_with (first
          | (go_at_call 9; refine HC.mono ?_; rintro x w3 ⟨rfl, hb3⟩; have hr3 := hr.fr (Fr.ofBelow hb3) (by simp))
          | (go_at_call 28; refine (rfail_calls hr3 r0).mono ?_; rintro x w4 ⟨rfl, hr4, hf4⟩; rw [HRF.out] at hr4)
          | (go_at_call 19; (with_reducible refine (rerr_calls hr).mono ?_); rintro x wr ⟨rfl, rfl⟩)
          | (go_at_call 19; refine (rerr_calls hr4).mono ?_; rintro x w4 ⟨rfl, rfl⟩))
        go_ret
        rw [HTE.out]
        exact ⟨_, rfl, OwnL.nil _ _, hr4, (hf.trans (Fr.ofBelow hb3) (fun _ h => by cases h)).trans hf4 (Grows.refl _ _)⟩
end Go.Proofs.Ytnknhedhoibepaa
