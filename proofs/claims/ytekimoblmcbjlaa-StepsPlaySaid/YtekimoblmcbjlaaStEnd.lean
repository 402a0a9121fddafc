/-
  The walk of the law 'StepsEnd'.
-/
import Derived.Test.YtekimoblmcbjlaaStOdd
namespace Go.Proofs.Ytekimoblmcbjlaa
open Go.RowKit

theorem Mc.lt {w : World} {g : Nat} {S : List Nat} {H U : List Int} {odd : Nat} (h : Mc w g S H U odd) : ∀ k ∈ S, k < w.heap.size := by
  obtain ⟨v, mb, h1, h2, h3, rfl, h4⟩ := h
  intro k hk
  simp only [List.mem_cons, Option.mem_toList] at hk
  rcases hk with rfl | rfl | hk
  · exact heap_lt h1.top
  · exact h3.lt
  · exact (World.ownsRow.lt h1.own k hk).2
theorem next_any {w : World} {g : Nat} {S : List Nat} {H U : List Int} {odd : Nat} (h : Mc w g S H U odd) (p : Int) (wp : -9223372036854775808 ≤ p ∧ p < 9223372036854775808) (hU : U ≠ []) (ho : odd < 1000000) :
    Calls Try.prog 9 #[.pointer (some ⟨g, 0, none⟩), .int .i64 p] w fun e w' => ∃ z H' odd', e = .returned (.tuple #[.int .i64 z, .bool true]) ∧ z ∈ U ∧ odd' ≤ odd + 1 ∧ Mc w' g S H' (less U z) odd' ∧ Fr S w w' := by
  by_cases hp : p ∈ U
  · refine (next_right h p hp).mono ?_
    rintro e w' ⟨rfl, h2, h3⟩
    exact ⟨p, H, odd, rfl, hp, by omega, h2, h3⟩
  · refine (next_odd h p wp hp hU ho).mono ?_
    rintro e w' ⟨z, H', rfl, h1, _, h2, h3⟩
    exact ⟨z, H', odd + 1, rfl, h1, Nat.le_refl _, h2, h3⟩

theorem end_no {V : List Int} {z : Int} (h : z ∉ V) : ∀ p ∈ setU V, p.1 ≠ z := by
  intro p hp
  obtain ⟨y, hy, rfl⟩ := List.mem_map.1 hp
  rintro rfl; exact h hy

set_option maxRecDepth 100000 in
set_option maxHeartbeats 4000000 in
theorem end_walk (many : Int) (_ : (Lit.int .i64 many).wf = true) {a : Option Addr} {l cap : Nat} {bs : List UInt8} {w : World} (HB : Bytes w a l cap bs) :
    Calls Try.prog 4 #[.int .i64 many, .slice a l cap] w fun e w' => e = .returned (.bool true) ∧ Below w.heap.size w w' := by
  have hlen := HB.len
  subst hlen
  by_cases h100 : bs.length > 200
  · have d1 : decide ((bs.length : Int) > 200) = true := by simp; omega
    clear h100
    go_enter Try.func4, Try.ntmps4
    go_wp2_with (go_at_call 7; refine (awake24 _).mono ?_; rintro e w1 ⟨rfl, hb1⟩)
    go_ret
    exact ⟨rfl, hb1⟩
  have d1 : decide ((bs.length : Int) > 200) = false := by simp; omega
  obtain ⟨m, hm, hm2⟩ : ∃ m : Int, (if (0 : Int) > many then (0 : Int) else many) = m ∧ m = max many 0 := ⟨_, rfl, by split <;> omega⟩
  obtain ⟨n, hr, hr2⟩ : ∃ r : Nat, (if (64 : Int) < m then (64 : Int) else m) = (r : Int) ∧ r = (min (max many 0) 64).toNat := ⟨(min (max many 0) 64).toNat, by split <;> omega, rfl⟩
  have HN := snew_calls many
  rw [← hr2] at HN
  have hn64 : n ≤ 64 := by omega
  have hmm := @run_makeMap Try.prog
  clear hm2 hr2
  go_enter Try.func4, Try.ntmps4
  go_wp2_with (first
    | (go_at_call 7; refine (awake24 _).mono ?_; rintro e w1 ⟨rfl, hb1⟩)
    | (go_at_call 8; refine (HN _).mono ?_; rintro e w2 ⟨g, S, rfl, h2, hS, hb2⟩; have hb3 := hb1.trans (hb2.mono hb1.size))
    | (go_at_call 10; refine (left_calls h2).mono ?_; rintro e w2 ⟨rfl, rfl⟩; rw [upTo_len]))
  have h100' : Hid (bs.length ≤ 200) := Nat.le_of_not_lt h100
  clear h100
  go_loopw [8, 9, 10, 11, 28] (fun _ _ _ _ i wr => ∃ (k odd : Nat) (H U V : List Int), k ≤ n ∧ i = .int .i64 k ∧ Mc wr g S H U odd ∧ DictAt wr w2.heap.size (setU V) ∧ Hid (U.length + k = n ∧ odd ≤ k ∧ (∀ z ∈ U, z ∉ V ∧ 0 ≤ z ∧ z < n)) ∧ Hid (∀ x ∈ S, w.heap.size ≤ x ∧ x < w2.heap.size) ∧ Hid (w.heap.size ≤ w2.heap.size) ∧ Below w.heap.size w wr) (fun _ _ _ _ i _ => n - (intOf i).toNat)
  case atStart => exact ⟨0, 0, _, _, [], by omega, rfl, h2.keep ((Below.refl _ _).alloc (Nat.le_refl _) _), DictAt.made _, ⟨by rw [upTo_len, Nat.add_zero], by omega, fun z hz => ⟨by simp, (upTo_mem.1 hz).1, (upTo_mem.1 hz).2⟩⟩, fun x hx => ⟨Nat.le_trans hb1.size (hS x hx), h2.lt x hx⟩, hb3.size, hb3.alloc hb3.size _⟩
  case round =>
    clear h2 hS hb1 hb2 hb3
    obtain ⟨k, odd, H, U, V, hk, rfl, hM, hD, HC, HS, HW, hb⟩ := hrel
    have hSn : ∀ x ∈ S, x ∉ [w2.heap.size] := fun x hx hm => by simp at hm; have := (HS.out x hx).2; omega
    by_cases hlt : k < n
    · have hU : U ≠ [] := by rintro rfl; have := HC.out.1; simp at this; omega
      have ho : odd < 1000000 := by have := HC.out.2.1; omega
      by_cases hkb : k < bs.length
      · obtain ⟨b', off', rfl, k0⟩ := (HB.keep hb).at k hkb
        obtain ⟨x, hx⟩ : ∃ x, x = (bs[k].toNat : Int) := ⟨_, rfl⟩
        have hxb : 0 ≤ x ∧ x < 256 := by have := bs[k].toNat_lt; omega
        rw [← hx] at k0
        clear hx
        obtain ⟨y, hy, hy2⟩ : ∃ y : Nat, x % 70 = (y : Int) ∧ y < 70 := ⟨(x % 70).toNat, by omega, by omega⟩
        have q1 : IntKind.i64.wrap (y : Int) = y := IntWalk.i64_in _ (by omega)
        go_wp2_with (go_at_call 9; refine (next_any hM _ ?_ hU ho).mono ?_; omega; rintro e w4 ⟨z, H', odd', rfl, hz, hod, hM4, hf4⟩; have hzc := HC.out.2.2 z hz; have hD4 := hD.fr hf4 (fun hm => by have := (HS.out _ hm).2; omega); have hlk := set_look hD4 z (by omega) (u := false) (by simp [hzc.1]); have t1 : decide (z < 0) = false := (by simp; omega); have t2 : decide (z ≥ (n : Int)) = false := (by simp; omega); obtain ⟨w5, e5, hD5, hf5⟩ := hD4.add (P := Try.prog) Try.underlying28 Try.underlying3 (z := z) (WalkArith.wf_i64 (by omega)) (end_no hzc.1) (.bool true); have HLL : Hid _ := less_len hM.facts.1 hz; have HZC : Hid _ := hzc; have HOD : Hid _ := hod; clear hzc hod hz)
        go_roundw
        case rel =>
          refine ⟨k + 1, odd', H', _, V ++ [z], by omega, by go_num, hM4.fr hf5 hSn, by rw [setU, List.map_append]; exact hD5, ?_, HS, HW, Fr.below (Fr.below hb hf4 (fun x hx => (HS.out x hx).1) hb.size) hf5 (by simpa using HW.out) (Fr.below hb hf4 (fun x hx => (HS.out x hx).1) hb.size).size⟩
          have hc := HC.out
          have := HLL.out
          have := HOD.out
          refine ⟨by omega, by omega, fun y hy => ?_⟩
          obtain ⟨h1, h2⟩ := less_mem.1 hy
          have h3 := hc.2.2 y h1
          refine ⟨fun hm => ?_, h3.2⟩
          rcases List.mem_append.1 hm with h4 | h4
          · exact h3.1 h4
          · simp at h4; exact h2 h4
        case measure => simp [intOf]; omega
      · go_wp2_with (go_at_call 9; refine (next_any hM _ ?_ hU ho).mono ?_; omega; rintro e w4 ⟨z, H', odd', rfl, hz, hod, hM4, hf4⟩; have hzc := HC.out.2.2 z hz; have hD4 := hD.fr hf4 (fun hm => by have := (HS.out _ hm).2; omega); have hlk := set_look hD4 z (by omega) (u := false) (by simp [hzc.1]); have t1 : decide (z < 0) = false := (by simp; omega); have t2 : decide (z ≥ (n : Int)) = false := (by simp; omega); obtain ⟨w5, e5, hD5, hf5⟩ := hD4.add (P := Try.prog) Try.underlying28 Try.underlying3 (z := z) (WalkArith.wf_i64 (by omega)) (end_no hzc.1) (.bool true); have HLL : Hid _ := less_len hM.facts.1 hz; have HZC : Hid _ := hzc; have HOD : Hid _ := hod; clear hzc hod hz)
        go_roundw
        case rel =>
          refine ⟨k + 1, odd', H', _, V ++ [z], by omega, by go_num, hM4.fr hf5 hSn, by rw [setU, List.map_append]; exact hD5, ?_, HS, HW, Fr.below (Fr.below hb hf4 (fun x hx => (HS.out x hx).1) hb.size) hf5 (by simpa using HW.out) (Fr.below hb hf4 (fun x hx => (HS.out x hx).1) hb.size).size⟩
          have hc := HC.out
          have := HLL.out
          have := HOD.out
          refine ⟨by omega, by omega, fun y hy => ?_⟩
          obtain ⟨h1, h2⟩ := less_mem.1 hy
          have h3 := hc.2.2 y h1
          refine ⟨fun hm => ?_, h3.2⟩
          rcases List.mem_append.1 hm with h4 | h4
          · exact h3.1 h4
          · simp at h4; exact h2 h4
        case measure => simp [intOf]; omega
    · obtain rfl : k = n := by omega
      obtain rfl : U = [] := List.eq_nil_of_length_eq_zero (by have := HC.out.1; omega)
      have ho := HC.out.2.1
      have t1 : decide ((odd : Int) ≤ (k : Int)) = true := by simp; omega
      go_wp2_with (first
        | (go_at_call 9; with_reducible refine (next_none hM _).mono ?_; rintro e w8 ⟨rfl, rfl⟩)
        | (go_at_call 9; with_reducible refine (next_nil _ _).mono ?_; rintro e w8 ⟨rfl, rfl⟩)
        | (go_at_call 10; with_reducible refine (left_calls hM).mono ?_; rintro e w8 ⟨rfl, rfl⟩)
        | (go_at_call 10; with_reducible refine (left_nil _).mono ?_; rintro e w8 ⟨rfl, rfl⟩)
        | (go_at_call 11; with_reducible refine (odd_calls hM).mono ?_; rintro e w8 ⟨rfl, rfl⟩)
        | (go_at_call 11; with_reducible refine (odd_nil _).mono ?_; rintro e w8 ⟨rfl, rfl⟩))
      go_ret
      exact ⟨rfl, hb⟩
end Go.Proofs.Ytekimoblmcbjlaa
