/-
  The walk of the law 'WireBack'.
-/
import Derived.Test.YtiimfijjhlehlaaWireBoth
import Derived.Test.YtiimfijjhlehlaaRBytes
import Derived.Test.YtiimfijjhlehlaaTakes2
import Derived.Test.YtiimfijjhlehlaaStr
import Derived.Deep.RegionWith
import Derived.Deep.CutRange
namespace Go.Proofs.Ytiimfijjhlehlaa
open Go.RowKit

theorem back_ways (a b c : Nat) : ∃ d1 d2 d3 : Bool, decide ((a : Int) > 30) = d1 ∧ decide ((b : Int) > 30) = d2 ∧ decide ((c : Int) > 100) = d3 ∧
    ((d1 = true ∨ (d1 = false ∧ d2 = true) ∨ (d1 = false ∧ d2 = false ∧ d3 = true)) ∨ (d1 = false ∧ d2 = false ∧ d3 = false ∧ Hid (a ≤ 30 ∧ b ≤ 30 ∧ c ≤ 100))) := by
  refine ⟨_, _, _, rfl, rfl, rfl, ?_⟩
  unfold Hid
  simp only [decide_eq_true_eq, decide_eq_false_iff_not]; omega

set_option maxRecDepth 100000 in
set_option maxHeartbeats 8000000 in
theorem back_walk {a : Option Addr} {n cap : Nat} {zs : List Int} {w : World} (HZ : Sl w a n cap 1 (zs.map (Value.int .i64))) (wz : ∀ z ∈ zs, (Lit.int .i64 z).wf = true)
    {a' : Option Addr} {n' cap' : Nat} {cs : List Int} (HC : Sl w a' n' cap' 1 (cs.map (Value.int .u32))) (wcs : ∀ z ∈ cs, (Lit.int .u32 z).wf = true)
    {a2 : Option Addr} {n2 cap2 : Nat} {bs : List UInt8} (HB : Bytes w a2 n2 cap2 bs) :
    Calls Try.prog 5 #[.slice a n cap, .slice a' n' cap', .slice a2 n2 cap2] w fun e w' => e = .returned (.bool true) ∧ Below w.heap.size w w' := by
  have hbig := Sl.big HZ
  have hle := Sl.le HZ
  have hlen : zs.length = n := by have := Sl.len HZ; simpa using this
  subst hlen
  have hbig' := Sl.big HC
  have hle' := Sl.le HC
  have hlen' : cs.length = n' := by have := Sl.len HC; simpa using this
  subst hlen'
  have hbig2 := Sl.big HB
  have hle2 := Sl.le HB
  have hlen2 := HB.len
  subst hlen2
  obtain ⟨d1, d2, d3, t1, t2, t3, hw⟩ := back_ways zs.length cs.length bs.length
  rcases hw with (rfl | ⟨rfl, rfl⟩ | ⟨rfl, rfl, rfl⟩) | ⟨rfl, rfl, rfl, HS⟩
  iterate 3
    · go_enter Try.func5, Try.ntmps5
      go_wp2_with (go_at_call 7; refine (awake04 _).mono ?_; rintro e w1 ⟨rfl, hb1⟩)
      go_ret
      exact ⟨rfl, hb1⟩
  have HI := encI_len zs wz
  have HCL := encC_len cs wcs
  go_enter Try.func5, Try.ntmps5
  go_wp2_with (go_at_call 7; refine (awake04 _).mono ?_; rintro e w1 ⟨rfl, hb1⟩)
  clear t1 t2 t3
  go_loopw [8, 10, 37] (fun v _ i wr => ∃ k : Nat, ∃ S : List Nat, k ≤ zs.length ∧ i = .int .i64 k ∧ Both w wr w1.heap.size S v (encI (zs.take k)) (encI (zs.take k))) (fun _ _ i _ => zs.length - (intOf i).toNat)
  case atStart => exact ⟨0, _, by omega, rfl, ⟨Wr.new w1 _, OwnB.nil _ _, (fun x hx => by cases hx), (fun k hk => by simp at hk; subst hk; exact hb1.size), hb1.alloc hb1.size _⟩⟩
  case round =>
    obtain ⟨k, S, hk, rfl, hB⟩ := hrel
    by_cases hlt : k < zs.length
    · obtain ⟨b, off, x, rfl, hx, k0⟩ := sl_get (HZ.keep hB.below) k hlt
      have hxr := bounds_i64 (wz _ (List.getElem_mem hlt))
      rw [hx.out] at hxr
      have hE := encI_at zs k hlt
      rw [hx.out] at hE
      have hEl := encN_ten (zig x) (by have := zig_lt x (by omega); omega)
      have hIl := HI k
      obtain ⟨L, hL⟩ : ∃ L, encN (zig x) = L := ⟨_, rfl⟩
      obtain ⟨W, hW⟩ : ∃ W, encI (zs.take k) = W := ⟨_, rfl⟩
      rw [hL] at hEl hE
      rw [hW] at hB hIl hE
      have HE : Hid _ := hE
      have HSo := HS.out
      have hWl : W.length ≤ 330 := by omega
      clear hE hIl HSo
      obtain ⟨av, nv, cv, rfl⟩ := hB.own.shape
      go_wp2_with (first
        | (go_at_call 14; refine (wint_calls hB.wr x (by omega) (by omega)).mono ?_; rintro e w2 ⟨rfl, S1, hw1, hG1, hf1⟩; rw [hL] at hw1; have hB1 := hB.step hw1 hG1 hf1)
        | (go_at_call 27; refine (refint_calls x (by omega) _).mono ?_; rintro e w3 ⟨v2, rfl, hv2, hb2⟩; rw [hL] at hv2; obtain ⟨ay, cy, rfl, hy⟩ := hv2.bytes; have hB2 := hB1.keep hb2)
        | (at_builtin; refine app_bytes_at rfl _ _ rfl rfl hB2.own rfl hy (by omega) hB2.below.size ?_; intro v4 w4 ho4 hg4 hl4; have hB4 := hB2.app ho4 hg4 hl4; obtain ⟨a4, n4, c4, rfl⟩ := ho4.shape))
      go_roundw
      case rel => exact ⟨k + 1, S1, by omega, by go_num, by rw [HE.out]; exact hB4⟩
      case measure => simp [intOf]; omega
    · obtain rfl : k = zs.length := by omega
      rw [List.take_length] at hB
      obtain ⟨A0, hA0⟩ : ∃ A0, encI zs = A0 := ⟨_, rfl⟩
      have hA0l := HI zs.length
      rw [List.take_length, hA0] at hA0l
      rw [hA0] at hB
      have HA0 : Hid _ := hA0
      clear hA0
      obtain ⟨av, nv, cv, rfl⟩ := hB.own.shape
      go_wp2
      go_loopw [8, 12, 51] (fun v _ i wr => ∃ k : Nat, ∃ S : List Nat, k ≤ cs.length ∧ i = .int .i64 k ∧ Both w wr w1.heap.size S v (A0 ++ encC (cs.take k)) (A0 ++ encC (cs.take k))) (fun _ _ i _ => cs.length - (intOf i).toNat)
      case atStart => exact ⟨0, _, by omega, rfl, by rw [show A0 ++ encC (cs.take 0) = A0 by simp [encC]]; exact hB⟩
      case round =>
        clear hB
        obtain ⟨k, S, hk, rfl, hB⟩ := hrel
        by_cases hlt : k < cs.length
        · obtain ⟨b, off, x, rfl, hx, k0⟩ := sl_get (HC.keep hB.below) k hlt
          have hxr := bounds_u32 (wcs _ (List.getElem_mem hlt))
          rw [hx.out] at hxr
          have hE := encC_at cs k hlt
          rw [hx.out] at hE
          have hEl := encN_ten x.toNat (by omega)
          have hIl := HCL k
          obtain ⟨L, hL⟩ : ∃ L, encN x.toNat = L := ⟨_, rfl⟩
          obtain ⟨W, hW⟩ : ∃ W, encC (cs.take k) = W := ⟨_, rfl⟩
          rw [hL] at hEl hE
          rw [hW] at hB hIl hE
          have HE : Hid _ := hE
          have HSo := HS.out
          have hWl : (A0 ++ W).length ≤ 660 := by rw [List.length_append]; omega
          clear hE hIl HSo hW
          obtain ⟨AW, hAW⟩ : ∃ AW, A0 ++ W = AW := ⟨_, rfl⟩
          rw [hAW] at hB hWl
          have HAW : Hid _ := hAW
          clear hAW
          have q1 : IntKind.i64.wrap x = x := IntWalk.i64_in _ (by omega)
          have q2 : IntKind.u64.wrap x = x := IntWalk.u64_in _ (by omega)
          obtain ⟨av, nv, cv, rfl⟩ := hB.own.shape
          go_wp2_with (first
            | (go_at_call 11; refine (count_calls hB.wr x (by omega) (by omega)).mono ?_; rintro e w2 ⟨rfl, S1, hw1, hG1, hf1⟩; rw [hL] at hw1; have hB1 := hB.step hw1 hG1 hf1)
            | (go_at_call 28; refine (refcount_at x x.toNat (by omega) (by omega) _).mono ?_; rintro e w3 ⟨v2, rfl, hv2, hb2⟩; rw [hL] at hv2; obtain ⟨ay, cy, rfl, hy⟩ := hv2.bytes; have hB2 := hB1.keep hb2)
            | (at_builtin; refine app_bytes_at rfl _ _ rfl rfl hB2.own rfl hy (by omega) hB2.below.size ?_; intro v4 w4 ho4 hg4 hl4; have hB4 := hB2.app ho4 hg4 hl4; obtain ⟨a4, n4, c4, rfl⟩ := ho4.shape))
          go_roundw
          case rel => exact ⟨k + 1, S1, by omega, by go_num, by rw [HE.out, ← List.append_assoc, HAW.out]; exact hB4⟩
          case measure => simp [intOf]; omega
        · obtain rfl : k = cs.length := by omega
          rw [List.take_length] at hB
          obtain ⟨C0, hC0⟩ : ∃ C0, encC cs = C0 := ⟨_, rfl⟩
          have hC0l := HCL cs.length
          rw [List.take_length, hC0] at hC0l
          rw [hC0] at hB
          have HC0 : Hid _ := hC0
          clear hC0
          have HSo := HS.out
          have hWl : (A0 ++ C0).length ≤ 660 := by rw [List.length_append]; omega
          have hbl : bs.length ≤ 100 := by omega
          clear HSo
          obtain ⟨AW, hAW⟩ : ∃ AW, A0 ++ C0 = AW := ⟨_, rfl⟩
          rw [hAW] at hB hWl
          have HAW : Hid _ := hAW
          clear hAW
          have hWl2 : (AW ++ bs).length ≤ 760 := by rw [List.length_append]; omega
          have hWl3 : (AW ++ bs ++ [7]).length ≤ 1000000 := by rw [List.length_append]; simp only [List.length_singleton]; omega
          obtain ⟨av, nv, cv, rfl⟩ := hB.own.shape
          obtain ⟨T, hT⟩ : ∃ T, AW ++ bs ++ [7] = T := ⟨_, rfl⟩
          have hTn : T ≠ [] := by rw [← hT]; simp
          rw [hT] at hWl3
          have HT : Hid _ := hT
          clear hT
          go_upto_region 22 with (first
            | (go_at_call 29; refine (put_bytes hB.wr (HB.keep hB.below) (by omega) (by omega)).mono ?_; rintro e w2 ⟨rfl, S1, hw1, hG1, hf1⟩; have hB1 := hB.step hw1 hG1 hf1)
            | (go_at_call 22; refine (byte_at hB1.wr 7 7 rfl (by omega)).mono ?_; rintro e w3 ⟨rfl, S2, hw2, hG2, hf2⟩; rw [HT.out] at hw2; have hB2 := hB1.step hw2 hG2 hf2)
            | (at_builtin; refine app_bytes_at rfl _ _ rfl rfl hB2.own rfl (HB.keep hB2.below) (by omega) hB2.below.size ?_; intro v4 w4 ho4 hg4 hl4; have hB4 := hB2.app ho4 hg4 hl4; obtain ⟨a4, n4, c4, rfl⟩ := ho4.shape)
            | (at_builtin; refine app_byte_at (c := 7) rfl _ _ rfl rfl hB4.own rfl rfl hB4.below.size (by omega) rfl ?_; intro v5 w5 ho5 hg5 hl5; rw [HT.out] at ho5; have hB5 := (hB4.alloc _).app ho5 hg5 hl5; obtain ⟨g5, c5, rfl, h5⟩ := ho5.some hTn; clear ho5 hg5 hl5))
          clear hB hB1 hB2 hB4
          have hTo : OwnB w5 w.heap.size _ T := hB5.own
          have y0 : Bytes w5 (some ⟨g5, 0, none⟩) T.length c5 T := by
            obtain ⟨a6, c6, h6, h7⟩ := hTo.bytes
            cases h6; exact h7
          have hs0 := run_str (P := Try.prog) y0.drew 26 9 5 Try.underlying26 Try.underlying5 Try.underlying9
          go_cut [87] from 75 to 87 (fun c wx => c = .bool false ∧ Below w5.heap.size w5 wx)
          case first =>
            clear HI HCL HS wz wcs HZ HC HB hbig hle hbig' hle' hbig2 hle2 hTo
            go_region_with (first
              | (go_at_call 24; refine (wbytes_calls (bs := T) (S := S2) ?_ hWl3).mono ?_; exact hB5.wr; rintro e w9 ⟨v9, rfl, ho9, hb8⟩; have hb9 : Below w5.heap.size w5 w9 := (Below.refl _ _).drew.trans hb8; obtain ⟨a9, c9, rfl, hy9⟩ := ho9.bytes; have hs9 := run_str (P := Try.prog) hy9 26 9 5 Try.underlying26 Try.underlying5 Try.underlying9; have hB9 := hB5.keep hb9; have y9 := y0.keep hb9; have hs10 := run_str (P := Try.prog) y9 26 9 5 Try.underlying26 Try.underlying5 Try.underlying9)
              | (go_at_call 9; refine (wlen_calls (bs := T) (S := S2) ?_).mono ?_; first | exact hB5.wr | exact hB9.wr; rintro e w8 ⟨rfl, rfl⟩))
            all_goals
              go_wp2
              go_meet
              case rel => exact ⟨rfl, hb9⟩
          case rest =>
            obtain ⟨rfl, hbC⟩ := hcut
            have hbw := hB5.below.trans (hbC.mono hB5.below.size)
            have y9 := y0.keep hbC
            clear hB5 hbC y0 hTo hs0
            go_wp2_with (go_at_call 16; refine (read_calls y9 hWl3).mono ?_; rintro e w6 ⟨g6, S6, rfl, hr6, hS6, hb6⟩)
            have hT1 : T = encI zs ++ (encC cs ++ (bs ++ [7])) := by rw [← HT.out, ← HAW.out, ← HA0.out, ← HC0.out]; simp only [List.append_assoc]
            have HT1 : Hid _ := hT1
            clear hT1
            have hg6 : w.heap.size ≤ g6 := by
              obtain ⟨_, _, _, _, _, _, h4, _⟩ := hr6
              exact Nat.le_trans hbw.size (hS6 g6 h4).1
            go_loopw [15, 92] (fun _ i wr => ∃ k : Nat, k ≤ zs.length ∧ i = .int .i64 k ∧ Rd wr g6 S6 T ⟨(encI (zs.take k)).length, 0⟩ ∧ Below w.heap.size w wr) (fun _ i _ => zs.length - (intOf i).toNat)
            case atStart => exact ⟨0, by omega, rfl, hr6, hbw.trans (hb6.mono hbw.size)⟩
            case round =>
              clear hr6 hbw hb6 hS6 y9
              obtain ⟨k, hk, rfl, hr, hb⟩ := hrel
              by_cases hlt : k < zs.length
              · obtain ⟨b, off, x, rfl, hx, k0⟩ := sl_get (HZ.keep hb) k hlt
                have HX := rint_calls hr
                have hti := take_int zs wz k hlt (encC cs ++ (bs ++ [7]))
                rw [← HT1.out, hx.out] at hti
                rw [hti] at HX
                simp only at HX
                clear hti
                go_wp2_with (go_at_call 19; refine HX.mono ?_; rintro e w7 ⟨rfl, hr7, hf7⟩)
                go_roundw
                case rel => exact ⟨k + 1, by omega, by go_num, hr7, Fr.below hb hf7 (by simpa using hg6) hb.size⟩
                case measure => simp [intOf]; omega
              · obtain rfl : k = zs.length := by omega
                rw [List.take_length, HA0.out] at hr
                go_wp2
                go_loopw [17, 103] (fun _ i wr => ∃ k : Nat, k ≤ cs.length ∧ i = .int .i64 k ∧ Rd wr g6 S6 T ⟨A0.length + (encC (cs.take k)).length, 0⟩ ∧ Below w.heap.size w wr) (fun _ i _ => cs.length - (intOf i).toNat)
                case atStart => exact ⟨0, by omega, rfl, hr, hb⟩
                case round =>
                  clear hr hb
                  obtain ⟨k, hk, rfl, hr, hb⟩ := hrel
                  by_cases hlt : k < cs.length
                  · obtain ⟨b, off, x, rfl, hx, k0⟩ := sl_get (HC.keep hb) k hlt
                    have HX := rcount_calls hr 4294967296 (by omega)
                    have hxr := bounds_u32 (wcs _ (List.getElem_mem hlt))
                    obtain ⟨q, hti, hq⟩ := take_count (encI zs) cs wcs k hlt (bs ++ [7])
                    rw [← HT1.out, HA0.out] at hti
                    rw [hti] at HX
                    rw [hx.out] at hq hxr
                    simp only [hq] at HX
                    clear hti hq q
                    have q1 : IntKind.i64.wrap x = x := IntWalk.i64_in _ (by omega)
                    go_wp2_with (go_at_call 20; refine HX.mono ?_; rintro e w7 ⟨rfl, hr7, hf7⟩)
                    go_roundw
                    case rel => exact ⟨k + 1, by omega, by go_num, hr7, Fr.below hb hf7 (by simpa using hg6) hb.size⟩
                    case measure => simp [intOf]; omega
                  · obtain rfl : k = cs.length := by omega
                    rw [List.take_length, HC0.out, ← List.length_append, HAW.out] at hr
                    have hTl : AW.length + bs.length = (AW ++ bs).length := List.length_append.symm
                    have hr := hr
                    rw [← HT.out] at hr
                    have hY := HB.keep hb
                    have hsb := run_str (P := Try.prog) hY.drew 26 9 5 Try.underlying26 Try.underlying5 Try.underlying9
                    have hE0 := rEnd_all T
                    have hbf := hb
                    have hg6' : ∀ (w7 : World), Fr [g6] wr w7 → Bytes w7 a2 bs.length cap2 bs := fun w7 hf => (HB.keep (Fr.below hb hf (by simpa using hg6) hb.size))
                    have HK : Hid _ := hg6'
                    clear hg6'
                    have HG : Hid (∀ (w7 : World), Fr [g6] wr w7 → Below w.heap.size w w7) := fun w7 hf => Fr.below hb hf (by simpa using hg6) hb.size
                    clear hb hbf hg6 HI HCL HS wz wcs HZ HC HB hbig hle hbig' hle' hbig2 hle2 hY HA0 HC0 HT1 HAW
                    go_wp2
                    go_region_with (first
                      | (go_at_call 30; refine (back_bytes (P := AW) (R := [7]) (g := g6) (S := S6) ?_).mono ?_; exact hr.drew; rintro e w9 ⟨a9, c9, rfl, hy9, hr9, hf9⟩; have hf9' : Fr [g6] wr w9 := (Fr.refl _ _).drew.trans hf9 (Grows.refl _ _); have hY9 := HK.out w9 hf9'; have hs9 := run_str (P := Try.prog) hy9 26 9 5 Try.underlying26 Try.underlying5 Try.underlying9; have hs10 := run_str (P := Try.prog) hY9 26 9 5 Try.underlying26 Try.underlying5 Try.underlying9)
                      | (go_at_call 21; refine (back_byte (P := AW ++ bs) (c := 7) (g := g6) (S := S6) ?_ hTl).mono ?_; exact hr9; rintro e w10 ⟨rfl, hr10, hf10⟩; rw [HT.out] at hr10; have hb10 := HG.out w10 (hf9'.trans hf10 (Grows.refl _ _)))
                      | (go_at_call 17; refine (rat_calls (g := g6) (S := S6) (bs := T) (s := ⟨T.length, 0⟩) ?_).mono ?_; exact hr10; rintro e w11 ⟨rfl, rfl⟩)
                      | (go_at_call 26; refine (rend_calls (g := g6) (S := S6) (bs := T) (s := ⟨T.length, 0⟩) ?_).mono ?_; exact hr10; rintro e w12 ⟨rfl, qq, rfl⟩; rw [hE0]))
                    all_goals
                      clear hs9 hs10 hsb
                      go_wp2
                      go_ret
                      exact ⟨rfl, hb10.trans (below_draws _ _ _)⟩
end Go.Proofs.Ytiimfijjhlehlaa
