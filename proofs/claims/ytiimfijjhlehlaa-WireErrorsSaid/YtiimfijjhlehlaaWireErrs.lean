/-
  The walk of the law 'WireErrors'.
-/
import Derived.Test.YtiimfijjhlehlaaWireErrsP
import Derived.Test.YtiimfijjhlehlaaWireNil
import Derived.Test.YtiimfijjhlehlaaStr
import Derived.Deep.RegionWith
import Derived.Deep.CutRange
namespace Go.Proofs.Ytiimfijjhlehlaa
open Go.RowKit

set_option maxRecDepth 100000 in
set_option maxHeartbeats 8000000 in
theorem errs_walk (x : Int) (wx : (Lit.int .u32 x).wf = true) (y : Int) (wy : (Lit.int .u8 y).wf = true) {a : Option Addr} {n cap : Nat} {bs : List UInt8} {w : World} (HB : Bytes w a n cap bs) :
    Calls Try.prog 6 #[.int .u32 x, .int .u8 y, .slice a n cap] w fun e w' => e = .returned (.bool true) ∧ Below w.heap.size w w' := by
  have hbig := Sl.big HB
  have hle := Sl.le HB
  have hlen := HB.len
  subst hlen
  by_cases h50 : bs.length > 50
  · have d1 : decide ((bs.length : Int) > 50) = true := by simp; omega
    clear h50
    go_enter Try.func6, Try.ntmps6
    go_wp2_with (go_at_call 7; refine (awake04 _).mono ?_; rintro e w1 ⟨rfl, hb1⟩)
    go_ret
    exact ⟨rfl, hb1⟩
  have d1 : decide ((bs.length : Int) > 50) = false := by simp; omega
  have hx := bounds_u32 wx
  have hy := bounds_u8 wy
  obtain ⟨m, rfl⟩ : ∃ m : Nat, x = (m : Int) := ⟨x.toNat, by omega⟩
  have q1 : IntKind.i64.wrap (m : Int) = m := IntWalk.i64_in _ (by omega)
  have q2 : IntKind.u64.wrap (m : Int) = m := IntWalk.u64_in _ (by omega)
  have q3 : IntKind.i64.wrap y = y := IntWalk.i64_in _ (by omega)
  have q4 : IntKind.i64.wrap ((m : Int) - 1) = (m : Int) - 1 := IntWalk.i64_in _ (by omega)
  have q5 : IntKind.i64.wrap ((m : Int) - 1 - y) = (m : Int) - 1 - y := IntWalk.i64_in _ (by omega)
  have q6 : IntKind.i64.wrap ((bs.length : Int) + 1) = (bs.length : Int) + 1 := IntWalk.i64_in _ (by omega)
  have q7 := or_40 m (by omega)
  have hEn := encN_ten m (by omega)
  have hEm := encN_ten (m + 1099511627776) (by omega)
  have hE5 : 5 < (encN (m + 1099511627776)).length := encN_long (k := 5) (by omega)
  have HTN : Hid ((m : Int).toNat = m) := by show _ = _; omega
  obtain ⟨z, hz⟩ : ∃ z : Int, ((m + 1099511627776 : Nat) : Int) = z := ⟨_, rfl⟩
  rw [hz] at q7
  have HZ : Hid (z = ((m + 1099511627776 : Nat) : Int)) := hz.symm
  clear hz
  have HC1 := rLong_cut (v := m + 1099511627776) (by omega) 4611686018427387904
  have HC2 : Hid (m = 0 ∨ (rCount (encN m ++ [0]) ⟨0, 0⟩ ((m : Int) - 1 - y)).2.err = 7) := by
    show _ ∨ _
    by_cases h0 : m = 0
    · exact .inl h0
    · exact .inr (rCount_more (by omega) _ _ (by omega))
  obtain ⟨LM, hLM⟩ : ∃ LM, encN (m + 1099511627776) = LM := ⟨_, rfl⟩
  have HLM : Hid _ := hLM
  rw [hLM] at HC1 hEm hE5
  clear hLM
  obtain ⟨LN, hLN⟩ : ∃ LN, encN m = LN := ⟨_, rfl⟩
  have HLN : Hid _ := hLN
  rw [hLN] at HC2 hEn
  clear hLN
  have hT5 : (LM.take 5).length ≤ 1000000 := by rw [List.length_take]; omega
  have hT6 : (LM.take 5 ++ [0]).length ≤ 1000000 := by rw [List.length_append, List.length_take]; simp only [List.length_singleton]; omega
  have hT7 : (LN ++ [0]).length ≤ 1000000 := by rw [List.length_append]; simp only [List.length_singleton]; omega
  obtain ⟨L5, hL5⟩ : ∃ L5, LM.take 5 = L5 := ⟨_, rfl⟩
  rw [hL5] at HC1 hT5 hT6
  have HL5 : Hid _ := hL5
  clear hL5
  obtain ⟨L6, hL6⟩ : ∃ L6, L5 ++ [0] = L6 := ⟨_, rfl⟩
  rw [hL6] at HC1 hT6
  have HL6 : Hid _ := hL6
  clear hL6
  obtain ⟨L7, hL7⟩ : ∃ L7, LN ++ [0] = L7 := ⟨_, rfl⟩
  rw [hL7] at HC2 hT7
  have HL7 : Hid _ := hL7
  clear hL7
  obtain ⟨s8, hs8⟩ : ∃ s8, (rCount L6 ⟨0, 0⟩ 4611686018427387904).2 = s8 := ⟨_, rfl⟩
  rw [hs8] at HC1
  have HS8 : Hid _ := hs8
  clear hs8
  obtain ⟨s10, hs10⟩ : ∃ s10, (rCount L7 ⟨0, 0⟩ ((m : Int) - 1 - y)).2 = s10 := ⟨_, rfl⟩
  rw [hs10] at HC2
  have HS10 : Hid _ := hs10
  clear hs10
  have HC3 : Hid (s8.err = 4) := HC1
  clear HC1
  have hm1 : (m : Int) - 1 - y < 9223372036854775808 := by omega
  have F1 : Hid (rFail ⟨0, 0⟩ 3 = ⟨0, 3⟩) := rfl
  have F2 : Hid (rFail ⟨0, 0⟩ 5 = ⟨0, 5⟩) := rfl
  have F3 : Hid (rFail ⟨0, 5⟩ 4 = ⟨0, 5⟩) := rfl
  have F4 : Hid (rEnd bs ⟨0, 5⟩ = 5) := rfl
  have F5 : Hid (rLeft bs ⟨0, 5⟩ = 0) := rfl
  go_enter Try.func6, Try.ntmps6
  go_upto_region 22 with (first
    | (go_at_call 7; refine (awake04 _).mono ?_; rintro e w1 ⟨rfl, hb1⟩; have hw0 := Wr.new w1 28; have hb0 := hb1.alloc hb1.size (.cells #[.slice none 0 0] 28); have hB1 := hb1.size)
    | (go_at_call 11; refine (count_calls hw0 (m : Int) ?_ ?_).mono ?_; omega; simp; rintro e w2 ⟨rfl, SA, hwA, hGA, hfA⟩; rw [HTN.out, HLN.out, List.nil_append] at hwA; have hbA := Fr.below hb0 hfA (by simpa using hB1) hb0.size; have hSA := grows_far (C := w.heap.size) (by simpa using hB1) hGA hb0.size)
    | (go_at_call 22; refine (byte_at hwA 0 0 rfl ?_).mono ?_; omega; rintro e w3 ⟨rfl, SB, hwB, hGB, hfB⟩; rw [HL7.out] at hwB; have hbB := Fr.below hbA hfB hSA hbA.size; have hSB := hwB.lt; clear hb0 hbA hfA hGA hfB hGB hwA hw0)
    | (go_at_call 28; refine (refcount_at z (m + 1099511627776) ?_ ?_ _).mono ?_; exact HZ.out; omega; rintro e w4 ⟨v4, rfl, ho4, hb4⟩; rw [HLM.out] at ho4; obtain ⟨g5, c5, rfl, hg5⟩ := ho4.some (by intro h; rw [h] at hE5; simp at hE5); have hc5 := ownB_cap ho4; have ho5 := ownB_front ho4 rfl 5 (by omega); rw [HL5.out] at ho5)
    | (at_builtin; refine app_byte_at (c := 0) rfl _ _ rfl rfl ho5 rfl rfl hb4.size hT5 rfl ?_; intro v6 w6 ho6 hg6 hl6; rw [HL6.out] at ho6; have hb6 := below_app (hb4.alloc hb4.size (.cells #[.int .u8 0] 5)) (own_keep ho5 ((Below.refl _ _).alloc (Nat.le_refl _) (.cells #[.int .u8 0] 5))) hg6 (Nat.le_refl _) (hb4.alloc hb4.size (.cells #[.int .u8 0] 5)).size; obtain ⟨a6, c6, rfl, hy6⟩ := ho6.bytes; have hbw6 := hbB.trans (hb6.mono hbB.size); have hw6 := hwB.keep hb6; clear ho4 ho5 ho6 hg6 hl6 hb4 hwB)
    | (go_at_call 16; with_reducible refine (read_calls hy6 hT6).mono ?_; rintro e w7 ⟨g7, S7, rfl, hr7, hS7, hb7⟩; have R7 := Rb.of hr7 hS7; have hbw7 := hbw6.trans (hb7.mono hbw6.size); have hw7 := hw6.keep hb7; have hSg : ∀ k ∈ SB, k ∉ [g7] := (fun k hk hm => by simp at hm; have := hSB k hk; have := R7.far; have := hb6.size; omega))
    | (go_at_call 20; with_reducible refine (rcount_calls hr7 4611686018427387904 (by omega)).mono ?_; rintro e w8 ⟨rfl, hr8, hf8⟩; rw [HS8.out] at hr8; have R8 := R7.step hr8 hf8; have hw8 := hw7.fr hf8 hSg; have hg7 : w.heap.size ≤ g7 := Nat.le_trans hbw6.size R7.far; have hbw8 := Fr.below hbw7 hf8 (by simpa using hg7) hbw7.size; clear hr7 hr8 hw6 hw7 hb6 hb7 R7)
    | (go_at_call 24; refine (wbytes_calls hw8 hT7).mono ?_; rintro e w9 ⟨v9, rfl, ho9, hb9⟩; obtain ⟨a9, c9, rfl, hy9⟩ := ho9.bytes; have R9 := R8.keep hb9; have hbw9 := hbw8.trans (hb9.mono hbw8.size); clear R8 hw8)
    | (go_at_call 16; with_reducible refine (read_calls hy9 hT7).mono ?_; rintro e w10 ⟨g10, S10, rfl, hr10, hS10, hb10⟩; have Q10 := Rb.of hr10 hS10; have R10 := R9.keep hb10; have hbw10 := hbw9.trans (hb10.mono hbw9.size); have hS7b := R9.top; clear hbw8 hy9 ho9)
    | (go_at_call 20; with_reducible refine (rcount_calls hr10 ((m : Int) - 1 - y) hm1).mono ?_; rintro e w11 ⟨rfl, hr11, hf11⟩; rw [HS10.out] at hr11; have Q11 := Q10.step hr11 hf11; have R11 := R10.beside Q10 hS7b hf11; have hg10 : w.heap.size ≤ g10 := Nat.le_trans hbw9.size Q10.far; have hbw11 := Fr.below hbw10 hf11 (by simpa using hg10) hbw10.size; have y11 := HB.keep hbw11; clear hr10 hr11 R9 R10 Q10)
    | (go_at_call 16; with_reducible refine (read_calls y11 ?_).mono ?_; omega; rintro e w12 ⟨g12, S12, rfl, hr12, hS12, hb12⟩; have P12 := Rb.of hr12 hS12; have Q12 := Q11.keep hb12; have R12 := R11.keep hb12; have hbw12 := hbw11.trans (hb12.mono hbw11.size); have hS7c := R11.top; have hS10c := Q11.top; clear y11)
    | (go_at_call 30; with_reducible refine (rbytes_no hr12 ((bs.length : Int) + 1) (.inr (by simp [rLeft]; omega))).mono ?_; rintro e w13 ⟨rfl, hr13, hf13⟩; rw [F1.out] at hr13; have P13 := P12.step hr13 hf13; have R13 := R12.beside P12 hS7c hf13; have Q13 := Q12.beside P12 hS10c hf13; have hg12 : w.heap.size ≤ g12 := Nat.le_trans hbw11.size P12.far; have hbw13 := Fr.below hbw12 hf13 (by simpa using hg12) hbw12.size; have y13 := HB.keep hbw13; clear hr12 hr13 P12 Q12 R12 Q11 R11)
    | (go_at_call 16; with_reducible refine (read_calls y13 ?_).mono ?_; omega; rintro e w14 ⟨g14, S14, rfl, hr14, hS14, hb14⟩; have T14 := Rb.of hr14 hS14; have P14 := P13.keep hb14; have Q14 := Q13.keep hb14; have R14 := R13.keep hb14; have hbw14 := hbw13.trans (hb14.mono hbw13.size); have hS7d := R13.top; have hS10d := Q13.top; have hS12d := P13.top; clear y13 hbw12 hbw11 hbw10 hbw9)
    | (go_at_call 31; with_reducible refine (rfail_calls hr14 5).mono ?_; rintro e w15 ⟨rfl, hr15, hf15⟩; rw [F2.out] at hr15; have T15 := T14.step hr15 hf15; have R15 := R14.beside T14 hS7d hf15; have Q15 := Q14.beside T14 hS10d hf15; have P15 := P14.beside T14 hS12d hf15; have hg14 : w.heap.size ≤ g14 := Nat.le_trans hbw13.size T14.far; have hbw15 := Fr.below hbw14 hf15 (by simpa using hg14) hbw14.size; clear hr14 P13 Q13 R13 P14 Q14 R14)
    | (go_at_call 31; with_reducible refine (rfail_calls hr15 4).mono ?_; rintro e w16 ⟨rfl, hr16, hf16⟩; rw [F3.out] at hr16; have R16 := R15.beside T15 hS7d hf16; have Q16 := Q15.beside T15 hS10d hf16; have P16 := P15.beside T15 hS12d hf16; have T16 := T15.step hr16 hf16; have hbw16 := Fr.below hbw15 hf16 (by simpa using hg14) hbw15.size; clear P15 Q15 R15 T15 T14 hS7b hS7c hS10c hS7d hS10d hS12d hbw6 hbw7 hbw13 hbw14 hbw15)
    | (go_at_call 14; refine (wint_nil _).mono ?_; rintro e w20 ⟨rfl, rfl⟩)
    | (go_at_call 11; refine (count_nil _).mono ?_; rintro e w20 ⟨rfl, rfl⟩)
    | (go_at_call 29; refine (put_nil _ _ _ _).mono ?_; rintro e w20 ⟨rfl, rfl⟩))
  go_wp2_with (first
    | (go_at_call 31; refine (rfail_nil _ _).mono ?_; rintro e w20 ⟨rfl, rfl⟩)
    | (go_at_call 18; with_reducible refine (rerr_at Q16.rd 7 ?_).mono ?_; rcases HC2.out with h | h; exact absurd h (by omega); exact h; rintro e w21 ⟨rfl, rfl⟩)
    | (go_at_call 18; with_reducible refine (rerr_at R16.rd 4 HC3.out).mono ?_; rintro e w21 ⟨rfl, rfl⟩)
    | (go_at_call 18; with_reducible refine (rerr_at P16.rd 3 rfl).mono ?_; rintro e w21 ⟨rfl, rfl⟩)
    | (go_at_call 18; with_reducible refine (rerr_at T16.rd 5 rfl).mono ?_; rintro e w21 ⟨rfl, rfl⟩)
    | (go_at_call 18; refine (rerr_nil _).mono ?_; rintro e w21 ⟨rfl, rfl⟩)
    | (go_at_call 26; with_reducible refine (rend_calls T16.rd).mono ?_; rintro e w21 ⟨rfl, q, rfl⟩; rw [F4.out])
    | (go_at_call 25; with_reducible refine (rleft_calls (T16.rd.drewN q)).mono ?_; rintro e w21 ⟨rfl, q', rfl⟩; rw [F5.out])
    | (go_at_call 19; refine (rint_nil _).mono ?_; rintro e w22 ⟨rfl, hb22⟩; have hbw22 := (hbw16.trans (below_draws _ _ _)).trans (hb22.mono hbw16.size))
    | (go_at_call 26; refine (rend_nil _).mono ?_; rintro e w23 ⟨rfl, q3, rfl⟩)
    | (go_at_call 17; refine (rat_nil _).mono ?_; rintro e w23 ⟨rfl, rfl⟩)
    | (go_at_call 25; refine (rleft_nil _).mono ?_; rintro e w23 ⟨rfl, rfl⟩)
    | (go_at_call 30; refine (rbytes_nil _).mono ?_; rintro e w24 ⟨rfl, hb24⟩; have hbw24 := (hbw22.trans (below_draws _ _ _)).trans (hb24.mono hbw22.size))
    | (go_at_call 9; refine (wlen_nil _).mono ?_; rintro e w23 ⟨rfl, rfl⟩)
    | (go_at_call 24; refine (wbytes_nil _).mono ?_; rintro e w23 ⟨rfl, rfl⟩))
  all_goals
    go_ret
    exact ⟨rfl, hbw24⟩
end Go.Proofs.Ytiimfijjhlehlaa
