/-
  The walk of the law 'ArenaRounds'.
-/
import Derived.Test.YtinikogpeccogaaArRoundsP
import Derived.Deep.RegionHeld
namespace Go.Proofs.Ytinikogpeccogaa
open Go.RowKit

set_option maxRecDepth 100000 in
set_option maxHeartbeats 8000000 in
theorem rounds_walk (many : Int) (wm : (Lit.int .u8 many).wf = true) (rounds : Int) (wr' : (Lit.int .u8 rounds).wf = true) (c : Int) (wc' : (Lit.int .u8 c).wf = true) {w : World} :
    Calls Try.prog 3 #[.int .u8 many, .int .u8 rounds, .int .u8 c] w fun e w' => e = .returned (.bool true) ∧ Below w.heap.size w w' := by
  have hm := bounds_u8 wm
  have hro := bounds_u8 wr'
  have hc := bounds_u8 wc'
  obtain ⟨r, hr, hr2⟩ : ∃ r : Nat, many % 20 = (r : Int) ∧ r < 20 := ⟨(many % 20).toNat, by omega, by omega⟩
  obtain ⟨q, hq, hq2⟩ : ∃ q : Nat, rounds % 4 = (q : Int) ∧ q < 4 := ⟨(rounds % 4).toNat, by omega, by omega⟩
  obtain ⟨cb, hcb⟩ : ∃ cb : UInt8, c = (cb.toNat : Int) := ⟨UInt8.ofNat c.toNat, by
    have : (UInt8.ofNat c.toNat).toNat = c.toNat % 256 := rfl
    rw [this]; omega⟩
  have HCB : Hid _ := hcb
  clear hcb
  have HN := new_calls (r : Int)
  rw [show (min (max (r : Int) 0) 4096).toNat = r by omega] at HN
  have q0 : IntKind.i64.wrap (r : Int) = r := IntWalk.i64_in _ (by omega)
  have q1 : IntKind.i64.wrap (q : Int) = q := IntWalk.i64_in _ (by omega)
  obtain ⟨zs, hzs⟩ : ∃ zs, List.replicate 64 (0 : UInt8) = zs := ⟨_, rfl⟩
  have hzl : zs.length = 64 := by rw [← hzs]; simp
  have hmk : ∀ w : World, (Instr.makeSlice 29 (.int .i64 64) (.int .i64 64)).run Try.prog w = .ok (.slice (some ⟨w.heap.size, 0, none⟩) 64 64) (w.alloc (.cells (bytesArr zs) 5)) := by
    intro w
    obtain ⟨i, hi, hz0, hz1, hz2⟩ := info_parts Try.elU8.hi
    have := run_make_bytes w 29 5 i Try.elU8.ht hi hz0 hz1 hz2 64 (by omega)
    rw [hzs] at this
    exact this
  have HZS : Hid _ := hzs
  clear hzs
  go_enter Try.func3, Try.ntmps3
  go_wp2_with (first
    | (go_at_call 6; refine (awake15 _).mono ?_; rintro e w1 ⟨rfl, hb1⟩)
    | (go_at_call 7; (try rw [hr]); refine (HN _).mono ?_; rintro e w2 ⟨g, S, rfl, h2, hS, hb2⟩; have hb3 := hb1.trans (hb2.mono hb1.size)))
  clear hm hro hc hr hq q0 q1
  go_loopw [9, 10, 11, 12, 13, 14, 15, 17, 29] (fun _ _ _ _ _ _ _ _ i wr => ∃ (k : Nat) (S : List Nat) (free : List Int) (most : Int) (mem : Nat → List UInt8), k ≤ q + 1 ∧ i = .int .i64 k ∧ Ar wr g S r free [] most mem ∧ most ≤ r ∧ (0 < k → most = r) ∧ (∀ x ∈ S, w.heap.size ≤ x) ∧ Below w.heap.size w wr) (fun _ _ _ _ _ _ _ _ i _ => (q + 1) - (intOf i).toNat)
  case atStart => exact ⟨0, S, _, 0, _, by omega, rfl, h2, by omega, by omega, fun x hx => Nat.le_trans hb1.size (hS x hx).1, hb3⟩
  case round =>
    clear h2 hS hb1 hb2 hb3
    obtain ⟨k, S, free, most, mem, hk, rfl, hA, hmo, hmk0, hSf, hb⟩ := hrel
    by_cases hkq : k < q + 1
    · have t0 : decide ((k : Int) < 1 + (q : Int)) = true := by simp; omega
      go_wp2
      go_loopw [9, 10, 11, 12, 13, 32] (fun v _ _ _ _ i wr => ∃ (j : Nat) (S : List Nat) (free U : List Int) (most : Int) (mem : Nat → List UInt8), j ≤ r ∧ i = .int .i64 j ∧ Ar wr g S r free U most mem ∧ Bes w wr S v U ∧ U.length = j ∧ most ≤ r ∧ (j : Int) ≤ most) (fun _ _ _ _ _ i _ => r - (intOf i).toNat)
      case atStart => exact ⟨0, S, free, [], most, mem, by omega, rfl, hA, Bes.nil hSf hb, rfl, hmo, hA.nodup.2.2.2.2.1⟩
      case round =>
        clear hA hmo hmk0 hSf hb
        obtain ⟨j, S, free, U, most, mem, hj, rfl, hA, hB, hUl, hmo, hjm⟩ := hrel
        by_cases hjr : j < r
        · obtain ⟨fs, n, rfl, hn⟩ := hA.last (by omega)
          obtain ⟨av, nv, cv, rfl⟩ := hB.own.shape
          have HU : Hid _ := hUl
          clear hUl
          go_wp2_with (first
            | (go_at_call 8; refine (take_ok hA).mono ?_; rintro e w4 ⟨rfl, S1, hA1, hG1, hf1⟩; have hB1 := hB.step hG1 hf1)
            | (go_at_call 9; refine (bytes_ok hA1 n (by simp)).mono ?_; rintro e w5 ⟨v5, rfl, ho5, hb5⟩; rw [if_pos rfl, HZS.out] at ho5; obtain ⟨a5, c5, e5, hy5⟩ := ho5.bytes; rw [hzl] at e5 hy5; subst e5; have hA2 := hA1.keep hb5; have hB2 := hB1.keep hb5))
          have hnb : ∀ p : Addr, a5 = some p → p.block ∉ S1 := by
            rintro p rfl hm
            have h1 := (World.ownsRow.lt ho5 p.block rfl).1
            have h2 := hA1.lt _ hm
            omega
          clear hA hB hA1 hB1 hb5 hf1 hG1 ho5
          have hs0 := run_str (P := Try.prog) hy5.drew 29 9 5 Try.underlying29 Try.underlying5 Try.underlying9
          have hZ := (Below.refl w5.heap.size w5).alloc (Nat.le_refl _) (.cells (bytesArr zs) 5)
          have hyZ : Bytes (w5.alloc (.cells (bytesArr zs) 5)) (some ⟨w5.heap.size, 0, none⟩) 64 64 zs := Bytes.of_heap (heap_new _ _) hzl.symm (by omega) (by decide)
          have hs1 := run_str (P := Try.prog) hyZ.drew 29 9 5 Try.underlying29 Try.underlying5 Try.underlying9
          have hs2 := run_str (P := Try.prog) (hy5.keep hZ).drew 29 9 5 Try.underlying29 Try.underlying5 Try.underlying9
          have hW := (hZ.alloc hZ.size (.cells #[.int .u8 c] 5)).drew
          have hA3 := hA2.keep hW
          have hy3 := hy5.keep hW
          have hs3 := run_str (P := Try.prog) hy3 29 9 5 Try.underlying29 Try.underlying5 Try.underlying9
          have hyc : Bytes (((w5.alloc (.cells (bytesArr zs) 5)).alloc (.cells #[.int .u8 c] 5)).drew) (some ⟨w5.heap.size + 1, 0, none⟩) 1 1 [cb] := by
            have := Bytes.newAt (w5.alloc (.cells (bytesArr zs) 5)) #[.int .u8 c] 5 (0, 0) [cb] (w5.heap.size + 1) 1 (by simp) rfl (by rw [HCB.out]; rfl) (by simp [maxLen])
            exact this.drew
          go_region_held (fun w' => (convert 29 9 (.slice a5 64 c5)).run Try.prog w' = .ok (.string (str zs)) w') (first | exact hs0 | exact hs2 | exact hs3 | exact hs6)
            (first
            | (go_at_call 10; refine (write_ok hA3 n (by simp) 3 hyc (by omega)).mono ?_; rintro e w6 ⟨rfl, hA6, hf6⟩; have hs6 := run_str (P := Try.prog) (Sl.fr hy3 hf6 hnb) 29 9 5 Try.underlying29 Try.underlying5 Try.underlying9))
          all_goals
            have hB3 := (hB2.keep hW).step (Grows.refl _ _) hf6
            have hU6 : U.length ≤ 1000000 := by have := HU.out; omega
            clear hs0 hs1 hs2 hs3 hs6 hyc hy3 hyZ hA3 hW hZ hA2 hB2 hnb
            go_wp2_with (at_builtin; refine app_int_at (z := (n : Int)) rfl _ _ rfl rfl hB3.own rfl rfl hB3.below.size hU6 ?_; intro v7 w7 ho7 hg7 hl7; obtain ⟨a7, n7, c7, rfl⟩ := ho7.shape)
            obtain ⟨hB7, hf7⟩ := (hB3.keep ((Below.refl _ _).alloc (Nat.le_refl _) _)).app (fun k hk => Nat.lt_of_lt_of_le (hA6.lt k hk) (by simp)) ho7 hg7 hl7
            have hA7 := (hA6.keep ((Below.refl _ _).alloc (Nat.le_refl _) _)).fr hf7 hB3.not
            go_roundw
            case rel =>
              exact ⟨j + 1, S1, fs, U ++ [(n : Int)], _, _, by omega, by go_num, hA7, hB7, by rw [List.length_append, HU.out]; rfl, by have := HU.out; omega, by have := HU.out; omega⟩
            case measure => simp [intOf]; omega
        · obtain rfl : j = r := by omega
          obtain ⟨hnd, hcnt, hpos, _⟩ := hA.nodup
          obtain rfl : free = [] := List.eq_nil_of_length_eq_zero (by omega)
          obtain ⟨av, cv, rfl, hyU⟩ := hB.own.ints
          have HP : Hid (∀ z ∈ U, 0 ≤ z ∧ z < (j : Int)) := hpos
          have HND : Hid _ := hnd
          have hUl2 := hUl
          have HJ : Hid ((j : Int) ≤ most) := hjm
          clear hpos hnd hcnt hjm hyU
          go_wp2_with (go_at_call 8; refine (take_full hA).mono ?_; rintro e w4 ⟨rfl, rfl⟩)
          go_loopw [17, 85] (fun _ i wr => ∃ (t : Nat) (S : List Nat) (free U' : List Int) (mem : Nat → List UInt8), t ≤ U.length ∧ i = .int .i64 t ∧ Ar wr g S j free U' most mem ∧ Hid (∀ z, z ∈ U' ↔ z ∈ U.drop t) ∧ Bes w wr S (.slice av U.length cv) U) (fun _ i _ => U.length - (intOf i).toNat)
          case atStart => exact ⟨0, S, [], U, mem, by omega, rfl, hA, fun z => by simp, hB⟩
          case round =>
            clear hA hB
            obtain ⟨t, S, free, U', mem, ht, rfl, hA, HM, hB⟩ := hrel
            by_cases htl : t < U.length
            · obtain ⟨a0, c0, e0, hy0⟩ := hB.own.ints
              cases e0
              obtain ⟨b0, off0, rfl, k0⟩ := hy0.at t htl
              obtain ⟨n, hn⟩ : ∃ n : Nat, U[t] = (n : Int) := ⟨U[t].toNat, by have := HP.out _ (List.getElem_mem htl); omega⟩
              rw [hn] at k0
              have hnU : (n : Int) ∈ U' := by rw [HM.out, List.drop_eq_getElem_cons htl, hn]; simp
              have HN2 : Hid _ := hn
              clear hn hy0
              go_wp2_with (go_at_call 11; refine (give_ok hA n hnU).mono ?_; rintro e w4 ⟨rfl, S1, hA1, hG1, hf1⟩; have hB1 := hB.step hG1 hf1)
              go_roundw
              case rel =>
                refine ⟨t + 1, S1, _, _, mem, by omega, by go_num, hA1, ?_, hB1⟩
                intro z
                have hd := List.drop_eq_getElem_cons htl
                rw [HN2.out] at hd
                rw [less_mem, HM.out, hd, List.mem_cons]
                have hnot : (n : Int) ∉ U.drop (t + 1) := by
                  have h1 : (U.drop t).Nodup := HND.out.sublist (List.drop_sublist _ _)
                  rw [hd] at h1
                  exact (List.nodup_cons.1 h1).1
                constructor
                · rintro ⟨h1 | h1, h2⟩
                  · exact absurd h1 h2
                  · exact h1
                · intro h1; exact ⟨.inr h1, fun e => hnot (e ▸ h1)⟩
              case measure => simp [intOf]; omega
            · obtain rfl : t = U.length := by omega
              obtain rfl : U' = [] := List.eq_nil_iff_forall_not_mem.2 (fun z hz => by have := (HM.out z).1 hz; simp at this)
              go_wp2
              go_roundw
              case rel => exact ⟨k + 1, S, free, most, mem, by omega, by go_num, hA, hmo, fun _ => by have := HJ.out; omega, hB.far, hB.below⟩
              case measure => simp [intOf]; omega
    · obtain rfl : k = q + 1 := by omega
      have hmr := hmk0 (by omega)
      go_wp2_with (first
        | (go_at_call 12; refine (used_calls hA).mono ?_; rintro e w8 ⟨rfl, rfl⟩)
        | (go_at_call 13; refine (most_calls hA).mono ?_; rintro e w8 ⟨rfl, rfl⟩))
      go_ret
      exact ⟨by first | rfl | (rw [hmr]; simp), hb⟩
end Go.Proofs.Ytinikogpeccogaa
