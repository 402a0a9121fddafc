/-
  The walk of the law 'WireAny'.
-/
import Derived.Test.YtiimfijjhlehlaaWireTook
import Derived.Test.YtiimfijjhlehlaaWireAwake
import Derived.Deep.RegionWith
namespace Go.Proofs.Ytiimfijjhlehlaa
open Go.RowKit

theorem Rd.lt {w : World} {g : Nat} {S : List Nat} {bs : List UInt8} {s : Rs} (h : Rd w g S bs s) : g < w.heap.size := by
  obtain ⟨T, a, cap, h1, _⟩ := h
  exact heap_lt h1
theorem Rd.far {w : World} {g : Nat} {S : List Nat} {bs : List UInt8} {s : Rs} (h : Rd w g S bs s) : s.at_ ≤ bs.length := by
  obtain ⟨T, a, cap, h1, h2, h3, h4, h5, h6⟩ := h
  exact h5

/-- A new writer beside a reader. -/
theorem beside_new {w : World} {g : Nat} {S : List Nat} {bs : List UInt8} {s : Rs} (h : Rd w g S bs s) (T : TypeId) : Rd (w.alloc (.cells #[.slice none 0 0] T)) g S bs s ∧ Wr (w.alloc (.cells #[.slice none 0 0] T)) w.heap.size [w.heap.size] [] ∧ w.heap.size ∉ [g] :=
  ⟨h.fr (fr_alloc w _) (by simp), Wr.new w T, by have := h.lt; simp; omega⟩

/-- A part of the bytes, as a slice of theirs. -/
theorem part_slice {w : World} {b off n cap : Nat} {bs : List UInt8} (h : Bytes w (some ⟨b, off, none⟩) n cap bs) (i j : Nat) (hi : i ≤ j) (hj : j ≤ n) : Bytes w (some ⟨b, off + i, none⟩) (j - i) (cap - i) (part bs i j) := by
  have := (Bytes.back h i (by omega)).front (j - i) (by omega)
  exact this

theorem any_below {w wr wB wC : World} {g : Nat} {o : Obj} (hb : Below w.heap.size w wr) (hg : w.heap.size ≤ g) (hfB : Fr [g] (wr.alloc o) wB) (hfC : Fr [wr.heap.size] wB wC) : Below w.heap.size w wC := by
  have h1 : Below w.heap.size w (wr.alloc o) := hb.alloc hb.size o
  have h2 := Fr.below h1 hfB (by simpa using hg) h1.size
  exact Fr.below h2 hfC (by simpa using hb.size) h2.size
theorem any_part_len {bs L : List UInt8} {i j : Nat} (h : L = part bs i j) (hj : j ≤ bs.length) (hl : bs.length ≤ 100) : L.length ≤ 1000000 := by
  rw [h]; unfold part; rw [List.length_take, List.length_drop]; omega

set_option maxRecDepth 100000 in
set_option maxHeartbeats 8000000 in
theorem any_walk {a : Option Addr} {n cap : Nat} {bs : List UInt8} {w : World} (HB : Bytes w a n cap bs) {a' : Option Addr} {n' cap' : Nat} {ks : List UInt8} (HK : Bytes w a' n' cap' ks) (most : Int) (wm : (Lit.int .i64 most).wf = true) :
    Calls Try.prog 4 #[.slice a n cap, .slice a' n' cap', .int .i64 most] w fun e w' => e = .returned (.bool true) ∧ Below w.heap.size w w' := by
  have hbig := Sl.big HB
  have hle := Sl.le HB
  have hlen := HB.len
  subst hlen
  have hbig' := Sl.big HK
  have hle' := Sl.le HK
  have hlen' := HK.len
  subst hlen'
  by_cases h100 : bs.length > 100
  · have d1 : decide ((bs.length : Int) > 100) = true := by simp; omega
    clear h100
    go_enter Try.func4, Try.ntmps4
    go_wp2_with (go_at_call 7; refine (awake04 _).mono ?_; rintro e w1 ⟨rfl, hb1⟩)
    go_ret
    exact ⟨rfl, hb1⟩
  have d1 : decide ((bs.length : Int) > 100) = false := by simp; omega
  by_cases h60 : ks.length > 60
  · have d2 : decide ((ks.length : Int) > 60) = true := by simp; omega
    clear h100 h60
    go_enter Try.func4, Try.ntmps4
    go_wp2_with (go_at_call 7; refine (awake04 _).mono ?_; rintro e w1 ⟨rfl, hb1⟩)
    go_ret
    exact ⟨rfl, hb1⟩
  have d2 : decide ((ks.length : Int) > 60) = false := by simp; omega
  go_enter Try.func4, Try.ntmps4
  go_wp2_with (first
    | (go_at_call 7; refine (awake04 _).mono ?_; rintro e w1 ⟨rfl, hb1⟩)
    | (go_at_call 16; refine (read_calls (HB.keep hb1) (by omega)).mono ?_; rintro e w2 ⟨g, S, rfl, hr0, hS, hb2⟩))
  go_loopw [9, 10, 11, 12, 13, 29] (fun _ _ _ _ _ i wr => ∃ k : Nat, ∃ s : Rs, k ≤ ks.length ∧ i = .int .i64 k ∧ Rd wr g S bs s ∧ (∀ k ∈ S, k < wr.heap.size) ∧ Below w.heap.size w wr) (fun _ _ _ _ _ i _ => ks.length - (intOf i).toNat)
  case atStart => exact ⟨0, ⟨0, 0⟩, by omega, rfl, hr0, fun k hk => (hS k hk).2, hb1.trans (hb2.mono hb1.size)⟩
  case round =>
    have hgS : w.heap.size ≤ g := by
      obtain ⟨_, _, _, _, _, _, h4, _⟩ := hr0
      exact Nat.le_trans hb1.size (hS g h4).1
    clear hr0 hb1 hb2 hS
    obtain ⟨k, s, hk, rfl, hr, HSl, hb⟩ := hrel
    by_cases hlt : k < ks.length
    · obtain ⟨b', off', rfl, k0⟩ := (HK.keep hb).at k hlt
      obtain ⟨x, hx⟩ : ∃ x, x = (ks[k].toNat : Int) := ⟨_, rfl⟩
      have hxb : 0 ≤ x ∧ x < 256 := by have := ks[k].toNat_lt; omega
      rw [← hx] at k0
      clear hx
      obtain ⟨hrA, hwA, hgg⟩ := beside_new hr 28
      obtain ⟨kd, hkd⟩ : ∃ kd, x % 4 = kd := ⟨_, rfl⟩
      have hkdb : 0 ≤ kd ∧ kd < 4 := by omega
      rcases (show kd = 0 ∨ kd = 1 ∨ kd = 2 ∨ kd = 3 by omega) with rfl | rfl | rfl | rfl
      · have HT := took_int hr.far
        have hrg := int_range bs s
        have HX := rint_calls hrA
        obtain ⟨n, s1, hns⟩ : ∃ n s1, rInt bs s = (n, s1) := ⟨_, _, rfl⟩
        rw [hns] at HT HX hrg
        simp only at HT HX hrg
        clear hns
        obtain ⟨L, hL⟩ : ∃ L, encN (zig n) = L := ⟨_, rfl⟩
        rw [hL] at HT
        by_cases he : s1.err = 0
        · have e0 : (s1.err == 0) = true := by rw [beq_iff_eq]; exact he
          obtain ⟨q1, q2, Q3⟩ := HT.ok he
          have q3 : Hid _ := Q3
          clear Q3
          have q4 := HT.far
          obtain ⟨b0, off0, rfl, _⟩ := (HB.keep hb).at s.at_ (by omega)
          go_wp2_with (first
            | (go_at_call 17; refine (rat_calls hr).mono ?_; rintro e wA ⟨rfl, rfl⟩)
            | (go_at_call 19; refine HX.mono ?_; rintro e wB ⟨rfl, hrB, hfB⟩; have hwB := hwA.fr hfB (by simpa using hgg))
            | (go_at_call 14; refine (wint_calls hwB n hrg (by simp)).mono ?_; rintro e wC ⟨rfl, SC, hwC, hgC, hfC⟩; have hrC := hrB.fr hfC (fun k hk hm => by have := HSl k hk; simp at hm; omega); rw [hL, List.nil_append] at hwC)
            | (go_at_call 18; with_reducible refine (rerr_calls hr).mono ?_; rintro e wA ⟨rfl, rfl⟩)
            | (go_at_call 18; with_reducible refine (rerr_calls hrC).mono ?_; rintro e wA ⟨rfl, rfl⟩))
          have hbC := any_below hb hgS hfB hfC
          have hLl : L.length ≤ 1000000 := any_part_len q3.out q4 (by omega)
          have y0 := part_slice (HB.keep hbC) s.at_ s1.at_ (by omega) (by omega)
          rw [← q3.out] at y0
          have hs0 := run_str (P := Try.prog) y0.drew 26 9 5 Try.underlying26 Try.underlying5 Try.underlying9
          have m1 : (s.at_ : Int) ≤ (s1.at_ : Int) := by omega
          have m2 : (s1.at_ : Int) ≤ (bs.length : Int) := by omega
          have m3 : (s1.at_ : Int) ≤ (cap : Int) := by omega
          have m4 : (0 : Int) ≤ (s.at_ : Int) := by omega
          have m5 : ¬ cap = s.at_ := by omega
          go_region_with (first
            | (go_at_call 24; refine (wbytes_calls (bs := L) (S := SC) ?_ hLl).mono ?_; exact hwC; rintro e w9 ⟨v9, rfl, ho9, hb8⟩; have hb9 : Below wA.heap.size wA w9 := (Below.refl _ _).drew.trans hb8; obtain ⟨a9, c9, rfl, hy9⟩ := ho9.bytes; have hs9 := run_str (P := Try.prog) hy9 26 9 5 Try.underlying26 Try.underlying5 Try.underlying9; have hr9 := hrC.fr (Fr.ofBelow hb9) (by simp); have y9 := y0.keep hb9; have hs10 := run_str (P := Try.prog) y9 26 9 5 Try.underlying26 Try.underlying5 Try.underlying9)
            | (go_at_call 17; refine (rat_calls (s := s1) (bs := bs) (S := S) ?_).mono ?_; first | exact hrC | exact hr9; rintro e w8 ⟨rfl, rfl⟩))
          all_goals
            have hb10 := hbC.trans (hb9.mono hbC.size)
            have hS10 := fun k hk => Nat.lt_of_lt_of_le (HSl k hk) (Nat.le_trans (Nat.le_trans ((Below.refl _ _).alloc (Nat.le_refl _) _).size hfB.size) (Nat.le_trans hfC.size hb9.size))
            clear m1 m2 m3 m4 m5 hs0 hs9 hs10
            go_wp2
            go_roundw
            case rel => exact ⟨k + 1, s1, by omega, by go_num, hr9, hS10, hb10⟩
            case measure => simp [intOf]; omega
        · have e0 : (s1.err == 0) = false := by rw [beq_eq_false_iff_ne]; exact he
          obtain ⟨z1, z2⟩ := HT.no he
          have hl0 : rLeft bs s1 = 0 := by unfold rLeft; rw [if_neg he]
          have e3 : (n != 0) = false := by rw [bne_eq_false_iff_eq]; exact z1
          clear z1
          by_cases hse : s.err = 0
          · have e1 : (s.err != 0) = false := by rw [bne_eq_false_iff_eq]; exact hse
            clear z2 hse he HT
            go_wp2_with (first
            | (go_at_call 17; refine (rat_calls hr).mono ?_; rintro e wA ⟨rfl, rfl⟩)
            | (go_at_call 19; refine HX.mono ?_; rintro e wB ⟨rfl, hrB, hfB⟩; have hwB := hwA.fr hfB (by simpa using hgg))
            | (go_at_call 14; refine (wint_calls hwB n hrg (by simp)).mono ?_; rintro e wC ⟨rfl, SC, hwC, hgC, hfC⟩; have hrC := hrB.fr hfC (fun k hk hm => by have := HSl k hk; simp at hm; omega); rw [hL, List.nil_append] at hwC)
            | (go_at_call 18; with_reducible refine (rerr_calls hr).mono ?_; rintro e wA ⟨rfl, rfl⟩)
            | (go_at_call 18; with_reducible refine (rerr_calls hrC).mono ?_; rintro e wA ⟨rfl, rfl⟩)
              | (go_at_call 25; refine (rleft_calls hrC).mono ?_; rintro e w7 ⟨rfl, q, rfl⟩; rw [hl0]))
            have hbC := any_below hb hgS hfB hfC
            have hS10 := fun k hk => Nat.lt_of_lt_of_le (HSl k hk) (Nat.le_trans (Nat.le_trans ((Below.refl _ _).alloc (Nat.le_refl _) _).size hfB.size) hfC.size)
            go_roundw
            case rel => exact ⟨k + 1, s1, by omega, by go_num, hrC.drewN _, hS10, hbC.trans (below_draws _ _ _)⟩
            case measure => simp [intOf]; omega
          · have e1 : (s.err != 0) = true := by rw [bne_iff_ne]; exact hse
            have e2 : (s1.err != s.err) = false := by rw [bne_eq_false_iff_eq]; exact z2 hse
            clear z2 hse he HT
            go_wp2_with (first
            | (go_at_call 17; refine (rat_calls hr).mono ?_; rintro e wA ⟨rfl, rfl⟩)
            | (go_at_call 19; refine HX.mono ?_; rintro e wB ⟨rfl, hrB, hfB⟩; have hwB := hwA.fr hfB (by simpa using hgg))
            | (go_at_call 14; refine (wint_calls hwB n hrg (by simp)).mono ?_; rintro e wC ⟨rfl, SC, hwC, hgC, hfC⟩; have hrC := hrB.fr hfC (fun k hk hm => by have := HSl k hk; simp at hm; omega); rw [hL, List.nil_append] at hwC)
            | (go_at_call 18; with_reducible refine (rerr_calls hr).mono ?_; rintro e wA ⟨rfl, rfl⟩)
            | (go_at_call 18; with_reducible refine (rerr_calls hrC).mono ?_; rintro e wA ⟨rfl, rfl⟩)
              | (go_at_call 25; refine (rleft_calls hrC).mono ?_; rintro e w7 ⟨rfl, q, rfl⟩; rw [hl0])
              | (go_at_call 18; with_reducible refine (rerr_calls (hrC.drewN q)).mono ?_; rintro e wA ⟨rfl, rfl⟩))
            have hbC := any_below hb hgS hfB hfC
            have hS10 := fun k hk => Nat.lt_of_lt_of_le (HSl k hk) (Nat.le_trans (Nat.le_trans ((Below.refl _ _).alloc (Nat.le_refl _) _).size hfB.size) hfC.size)
            go_roundw
            case rel => exact ⟨k + 1, s1, by omega, by go_num, hrC.drewN _, hS10, hbC.trans (below_draws _ _ _)⟩
            case measure => simp [intOf]; omega
      · have HT := took_count most hr.far
        have hrg := count_in bs s most
        have hmost : most < 9223372036854775808 := by have := (bounds_i64 wm).2; omega
        have HX := rcount_calls hrA most hmost
        obtain ⟨n, s1, hns⟩ : ∃ n s1, rCount bs s most = (n, s1) := ⟨_, _, rfl⟩
        rw [hns] at HT HX hrg
        simp only at HT HX hrg
        clear hns
        obtain ⟨mx, hmx, hmx2⟩ : ∃ m : Int, (if (0 : Int) > most then (0 : Int) else most) = m ∧ m = max most 0 := ⟨_, rfl, by split <;> omega⟩
        have x1 : decide ((n : Int) < 0) = false := by simp
        have x2 : decide ((n : Int) > mx) = false := by simp; omega
        have HN63 : Hid ((n : Int) < 9223372036854775808) := by show _ < _; omega
        have HNT : Hid ((n : Int).toNat = n) := by show _ = _; omega
        clear hmx2 hrg hmost
        obtain ⟨L, hL⟩ : ∃ L, encN n = L := ⟨_, rfl⟩
        rw [hL] at HT
        by_cases he : s1.err = 0
        · have e0 : (s1.err == 0) = true := by rw [beq_iff_eq]; exact he
          obtain ⟨q1, q2, Q3⟩ := HT.ok he
          have q3 : Hid _ := Q3
          clear Q3
          have q4 := HT.far
          obtain ⟨b0, off0, rfl, _⟩ := (HB.keep hb).at s.at_ (by omega)
          go_wp2_with (first
            | (go_at_call 17; refine (rat_calls hr).mono ?_; rintro e wA ⟨rfl, rfl⟩)
            | (go_at_call 20; refine HX.mono ?_; rintro e wB ⟨rfl, hrB, hfB⟩; have hwB := hwA.fr hfB (by simpa using hgg))
            | (go_at_call 11; refine (count_calls hwB (n : Int) HN63.out (by simp)).mono ?_; rintro e wC ⟨rfl, SC, hwC, hgC, hfC⟩; have hrC := hrB.fr hfC (fun k hk hm => by have := HSl k hk; simp at hm; omega); rw [HNT.out, hL, List.nil_append] at hwC)
            | (go_at_call 18; with_reducible refine (rerr_calls hr).mono ?_; rintro e wA ⟨rfl, rfl⟩)
            | (go_at_call 18; with_reducible refine (rerr_calls hrC).mono ?_; rintro e wA ⟨rfl, rfl⟩))
          have hbC := any_below hb hgS hfB hfC
          have hLl : L.length ≤ 1000000 := any_part_len q3.out q4 (by omega)
          have y0 := part_slice (HB.keep hbC) s.at_ s1.at_ (by omega) (by omega)
          rw [← q3.out] at y0
          have hs0 := run_str (P := Try.prog) y0.drew 26 9 5 Try.underlying26 Try.underlying5 Try.underlying9
          have m1 : (s.at_ : Int) ≤ (s1.at_ : Int) := by omega
          have m2 : (s1.at_ : Int) ≤ (bs.length : Int) := by omega
          have m3 : (s1.at_ : Int) ≤ (cap : Int) := by omega
          have m4 : (0 : Int) ≤ (s.at_ : Int) := by omega
          have m5 : ¬ cap = s.at_ := by omega
          go_region_with (first
            | (go_at_call 24; refine (wbytes_calls (bs := L) (S := SC) ?_ hLl).mono ?_; exact hwC; rintro e w9 ⟨v9, rfl, ho9, hb8⟩; have hb9 : Below wA.heap.size wA w9 := (Below.refl _ _).drew.trans hb8; obtain ⟨a9, c9, rfl, hy9⟩ := ho9.bytes; have hs9 := run_str (P := Try.prog) hy9 26 9 5 Try.underlying26 Try.underlying5 Try.underlying9; have hr9 := hrC.fr (Fr.ofBelow hb9) (by simp); have y9 := y0.keep hb9; have hs10 := run_str (P := Try.prog) y9 26 9 5 Try.underlying26 Try.underlying5 Try.underlying9)
            | (go_at_call 17; refine (rat_calls (s := s1) (bs := bs) (S := S) ?_).mono ?_; first | exact hrC | exact hr9; rintro e w8 ⟨rfl, rfl⟩))
          all_goals
            have hb10 := hbC.trans (hb9.mono hbC.size)
            have hS10 := fun k hk => Nat.lt_of_lt_of_le (HSl k hk) (Nat.le_trans (Nat.le_trans ((Below.refl _ _).alloc (Nat.le_refl _) _).size hfB.size) (Nat.le_trans hfC.size hb9.size))
            clear m1 m2 m3 m4 m5 hs0 hs9 hs10 x1 x2 hmx HX HT hL hkd hkdb hxb k0 q1 he e0
            clear HNT HN63 hle hbig hgg h100 h60 hr hrA hwA hwB hrB hfB hgC
            go_wp2
            go_roundw
            case rel => exact ⟨k + 1, s1, by omega, by go_num, hr9, hS10, hb10⟩
            case measure => simp [intOf]; omega
        · have e0 : (s1.err == 0) = false := by rw [beq_eq_false_iff_ne]; exact he
          obtain ⟨z1, z2⟩ := HT.no he
          have hl0 : rLeft bs s1 = 0 := by unfold rLeft; rw [if_neg he]
          have e3 : ((n : Int) != 0) = false := by rw [bne_eq_false_iff_eq]; exact z1
          clear z1
          by_cases hse : s.err = 0
          · have e1 : (s.err != 0) = false := by rw [bne_eq_false_iff_eq]; exact hse
            clear z2 hse he HT
            go_wp2_with (first
            | (go_at_call 17; refine (rat_calls hr).mono ?_; rintro e wA ⟨rfl, rfl⟩)
            | (go_at_call 20; refine HX.mono ?_; rintro e wB ⟨rfl, hrB, hfB⟩; have hwB := hwA.fr hfB (by simpa using hgg))
            | (go_at_call 11; refine (count_calls hwB (n : Int) HN63.out (by simp)).mono ?_; rintro e wC ⟨rfl, SC, hwC, hgC, hfC⟩; have hrC := hrB.fr hfC (fun k hk hm => by have := HSl k hk; simp at hm; omega); rw [HNT.out, hL, List.nil_append] at hwC)
            | (go_at_call 18; with_reducible refine (rerr_calls hr).mono ?_; rintro e wA ⟨rfl, rfl⟩)
            | (go_at_call 18; with_reducible refine (rerr_calls hrC).mono ?_; rintro e wA ⟨rfl, rfl⟩)
              | (go_at_call 25; refine (rleft_calls hrC).mono ?_; rintro e w7 ⟨rfl, q, rfl⟩; rw [hl0]))
            have hbC := any_below hb hgS hfB hfC
            have hS10 := fun k hk => Nat.lt_of_lt_of_le (HSl k hk) (Nat.le_trans (Nat.le_trans ((Below.refl _ _).alloc (Nat.le_refl _) _).size hfB.size) hfC.size)
            go_roundw
            case rel => exact ⟨k + 1, s1, by omega, by go_num, hrC.drewN _, hS10, hbC.trans (below_draws _ _ _)⟩
            case measure => simp [intOf]; omega
          · have e1 : (s.err != 0) = true := by rw [bne_iff_ne]; exact hse
            have e2 : (s1.err != s.err) = false := by rw [bne_eq_false_iff_eq]; exact z2 hse
            clear z2 hse he HT
            go_wp2_with (first
            | (go_at_call 17; refine (rat_calls hr).mono ?_; rintro e wA ⟨rfl, rfl⟩)
            | (go_at_call 20; refine HX.mono ?_; rintro e wB ⟨rfl, hrB, hfB⟩; have hwB := hwA.fr hfB (by simpa using hgg))
            | (go_at_call 11; refine (count_calls hwB (n : Int) HN63.out (by simp)).mono ?_; rintro e wC ⟨rfl, SC, hwC, hgC, hfC⟩; have hrC := hrB.fr hfC (fun k hk hm => by have := HSl k hk; simp at hm; omega); rw [HNT.out, hL, List.nil_append] at hwC)
            | (go_at_call 18; with_reducible refine (rerr_calls hr).mono ?_; rintro e wA ⟨rfl, rfl⟩)
            | (go_at_call 18; with_reducible refine (rerr_calls hrC).mono ?_; rintro e wA ⟨rfl, rfl⟩)
              | (go_at_call 25; refine (rleft_calls hrC).mono ?_; rintro e w7 ⟨rfl, q, rfl⟩; rw [hl0])
              | (go_at_call 18; with_reducible refine (rerr_calls (hrC.drewN q)).mono ?_; rintro e wA ⟨rfl, rfl⟩))
            have hbC := any_below hb hgS hfB hfC
            have hS10 := fun k hk => Nat.lt_of_lt_of_le (HSl k hk) (Nat.le_trans (Nat.le_trans ((Below.refl _ _).alloc (Nat.le_refl _) _).size hfB.size) hfC.size)
            go_roundw
            case rel => exact ⟨k + 1, s1, by omega, by go_num, hrC.drewN _, hS10, hbC.trans (below_draws _ _ _)⟩
            case measure => simp [intOf]; omega
      · have HT := took_byte hr.far
        have hrg := rByte_lt bs s
        have HX := rbyte_calls hrA
        obtain ⟨n, s1, hns⟩ : ∃ n s1, rByte bs s = (n, s1) := ⟨_, _, rfl⟩
        rw [hns] at HT HX hrg
        simp only at HT HX hrg
        clear hns
        have x1 : IntKind.u8.wrap (n : Int) = (n : Int) := by rw [IntKind.wrap_u8]; omega
        have hnt : Hid ((n : Int) = ((UInt8.ofNat n).toNat : Int)) := by show _ = _; rw [ofNat_lo hrg]
        obtain ⟨L, hL⟩ : ∃ L, [UInt8.ofNat n] = L := ⟨_, rfl⟩
        rw [hL] at HT
        by_cases he : s1.err = 0
        · have e0 : (s1.err == 0) = true := by rw [beq_iff_eq]; exact he
          obtain ⟨q1, q2, Q3⟩ := HT.ok he
          have q3 : Hid _ := Q3
          clear Q3
          have q4 := HT.far
          obtain ⟨b0, off0, rfl, _⟩ := (HB.keep hb).at s.at_ (by omega)
          go_wp2_with (first
            | (go_at_call 17; refine (rat_calls hr).mono ?_; rintro e wA ⟨rfl, rfl⟩)
            | (go_at_call 21; refine HX.mono ?_; rintro e wB ⟨rfl, hrB, hfB⟩; have hwB := hwA.fr hfB (by simpa using hgg))
            | (go_at_call 22; refine (byte_at hwB (UInt8.ofNat n) _ (by first | exact hnt.out | (rw [← hnt.out])) (by simp)).mono ?_; rintro e wC ⟨rfl, SC, hwC, hgC, hfC⟩; have hrC := hrB.fr hfC (fun k hk hm => by have := HSl k hk; simp at hm; omega); rw [hL, List.nil_append] at hwC)
            | (go_at_call 18; with_reducible refine (rerr_calls hr).mono ?_; rintro e wA ⟨rfl, rfl⟩)
            | (go_at_call 18; with_reducible refine (rerr_calls hrC).mono ?_; rintro e wA ⟨rfl, rfl⟩))
          have hbC := any_below hb hgS hfB hfC
          have hLl : L.length ≤ 1000000 := any_part_len q3.out q4 (by omega)
          have y0 := part_slice (HB.keep hbC) s.at_ s1.at_ (by omega) (by omega)
          rw [← q3.out] at y0
          have hs0 := run_str (P := Try.prog) y0.drew 26 9 5 Try.underlying26 Try.underlying5 Try.underlying9
          have m1 : (s.at_ : Int) ≤ (s1.at_ : Int) := by omega
          have m2 : (s1.at_ : Int) ≤ (bs.length : Int) := by omega
          have m3 : (s1.at_ : Int) ≤ (cap : Int) := by omega
          have m4 : (0 : Int) ≤ (s.at_ : Int) := by omega
          have m5 : ¬ cap = s.at_ := by omega
          go_region_with (first
            | (go_at_call 24; refine (wbytes_calls (bs := L) (S := SC) ?_ hLl).mono ?_; exact hwC; rintro e w9 ⟨v9, rfl, ho9, hb8⟩; have hb9 : Below wA.heap.size wA w9 := (Below.refl _ _).drew.trans hb8; obtain ⟨a9, c9, rfl, hy9⟩ := ho9.bytes; have hs9 := run_str (P := Try.prog) hy9 26 9 5 Try.underlying26 Try.underlying5 Try.underlying9; have hr9 := hrC.fr (Fr.ofBelow hb9) (by simp); have y9 := y0.keep hb9; have hs10 := run_str (P := Try.prog) y9 26 9 5 Try.underlying26 Try.underlying5 Try.underlying9)
            | (go_at_call 17; refine (rat_calls (s := s1) (bs := bs) (S := S) ?_).mono ?_; first | exact hrC | exact hr9; rintro e w8 ⟨rfl, rfl⟩))
          all_goals
            have hb10 := hbC.trans (hb9.mono hbC.size)
            have hS10 := fun k hk => Nat.lt_of_lt_of_le (HSl k hk) (Nat.le_trans (Nat.le_trans ((Below.refl _ _).alloc (Nat.le_refl _) _).size hfB.size) (Nat.le_trans hfC.size hb9.size))
            clear m1 m2 m3 m4 m5 hs0 hs9 hs10
            go_wp2
            go_roundw
            case rel => exact ⟨k + 1, s1, by omega, by go_num, hr9, hS10, hb10⟩
            case measure => simp [intOf]; omega
        · have e0 : (s1.err == 0) = false := by rw [beq_eq_false_iff_ne]; exact he
          obtain ⟨z1, z2⟩ := HT.no he
          have hl0 : rLeft bs s1 = 0 := by unfold rLeft; rw [if_neg he]
          have e3 : ((n : Int) != 0) = false := by rw [bne_eq_false_iff_eq]; exact z1
          clear z1
          by_cases hse : s.err = 0
          · have e1 : (s.err != 0) = false := by rw [bne_eq_false_iff_eq]; exact hse
            clear z2 hse he HT
            go_wp2_with (first
            | (go_at_call 17; refine (rat_calls hr).mono ?_; rintro e wA ⟨rfl, rfl⟩)
            | (go_at_call 21; refine HX.mono ?_; rintro e wB ⟨rfl, hrB, hfB⟩; have hwB := hwA.fr hfB (by simpa using hgg))
            | (go_at_call 22; refine (byte_at hwB (UInt8.ofNat n) _ (by first | exact hnt.out | (rw [← hnt.out])) (by simp)).mono ?_; rintro e wC ⟨rfl, SC, hwC, hgC, hfC⟩; have hrC := hrB.fr hfC (fun k hk hm => by have := HSl k hk; simp at hm; omega); rw [hL, List.nil_append] at hwC)
            | (go_at_call 18; with_reducible refine (rerr_calls hr).mono ?_; rintro e wA ⟨rfl, rfl⟩)
            | (go_at_call 18; with_reducible refine (rerr_calls hrC).mono ?_; rintro e wA ⟨rfl, rfl⟩)
              | (go_at_call 25; refine (rleft_calls hrC).mono ?_; rintro e w7 ⟨rfl, q, rfl⟩; rw [hl0]))
            have hbC := any_below hb hgS hfB hfC
            have hS10 := fun k hk => Nat.lt_of_lt_of_le (HSl k hk) (Nat.le_trans (Nat.le_trans ((Below.refl _ _).alloc (Nat.le_refl _) _).size hfB.size) hfC.size)
            go_roundw
            case rel => exact ⟨k + 1, s1, by omega, by go_num, hrC.drewN _, hS10, hbC.trans (below_draws _ _ _)⟩
            case measure => simp [intOf]; omega
          · have e1 : (s.err != 0) = true := by rw [bne_iff_ne]; exact hse
            have e2 : (s1.err != s.err) = false := by rw [bne_eq_false_iff_eq]; exact z2 hse
            clear z2 hse he HT
            go_wp2_with (first
            | (go_at_call 17; refine (rat_calls hr).mono ?_; rintro e wA ⟨rfl, rfl⟩)
            | (go_at_call 21; refine HX.mono ?_; rintro e wB ⟨rfl, hrB, hfB⟩; have hwB := hwA.fr hfB (by simpa using hgg))
            | (go_at_call 22; refine (byte_at hwB (UInt8.ofNat n) _ (by first | exact hnt.out | (rw [← hnt.out])) (by simp)).mono ?_; rintro e wC ⟨rfl, SC, hwC, hgC, hfC⟩; have hrC := hrB.fr hfC (fun k hk hm => by have := HSl k hk; simp at hm; omega); rw [hL, List.nil_append] at hwC)
            | (go_at_call 18; with_reducible refine (rerr_calls hr).mono ?_; rintro e wA ⟨rfl, rfl⟩)
            | (go_at_call 18; with_reducible refine (rerr_calls hrC).mono ?_; rintro e wA ⟨rfl, rfl⟩)
              | (go_at_call 25; refine (rleft_calls hrC).mono ?_; rintro e w7 ⟨rfl, q, rfl⟩; rw [hl0])
              | (go_at_call 18; with_reducible refine (rerr_calls (hrC.drewN q)).mono ?_; rintro e wA ⟨rfl, rfl⟩))
            have hbC := any_below hb hgS hfB hfC
            have hS10 := fun k hk => Nat.lt_of_lt_of_le (HSl k hk) (Nat.le_trans (Nat.le_trans ((Below.refl _ _).alloc (Nat.le_refl _) _).size hfB.size) hfC.size)
            go_roundw
            case rel => exact ⟨k + 1, s1, by omega, by go_num, hrC.drewN _, hS10, hbC.trans (below_draws _ _ _)⟩
            case measure => simp [intOf]; omega
      · have HT := took_within (-5) most hr.far
        have hrg := within_range bs s (-5) most
        have hin := within_in (bs := bs) (s := s) (-5) most
        have HX := rwithin_calls hrA (-5) most
        obtain ⟨n, s1, hns⟩ : ∃ n s1, rWithin bs s (-5) most = (n, s1) := ⟨_, _, rfl⟩
        rw [hns] at HT HX hrg hin
        simp only at HT HX hrg hin
        clear hns
        obtain ⟨L, hL⟩ : ∃ L, encN (zig n) = L := ⟨_, rfl⟩
        rw [hL] at HT
        by_cases he : s1.err = 0
        · have e0 : (s1.err == 0) = true := by rw [beq_iff_eq]; exact he
          have x1 : decide (n < -5) = false := by simp; have := hin he; omega
          have x2 : decide (n > most) = false := by simp; have := hin he; omega
          obtain ⟨q1, q2, Q3⟩ := HT.ok he
          have q3 : Hid _ := Q3
          clear Q3
          have q4 := HT.far
          obtain ⟨b0, off0, rfl, _⟩ := (HB.keep hb).at s.at_ (by omega)
          go_wp2_with (first
            | (go_at_call 17; refine (rat_calls hr).mono ?_; rintro e wA ⟨rfl, rfl⟩)
            | (go_at_call 23; refine HX.mono ?_; rintro e wB ⟨rfl, hrB, hfB⟩; have hwB := hwA.fr hfB (by simpa using hgg))
            | (go_at_call 14; refine (wint_calls hwB n hrg (by simp)).mono ?_; rintro e wC ⟨rfl, SC, hwC, hgC, hfC⟩; have hrC := hrB.fr hfC (fun k hk hm => by have := HSl k hk; simp at hm; omega); rw [hL, List.nil_append] at hwC)
            | (go_at_call 18; with_reducible refine (rerr_calls hr).mono ?_; rintro e wA ⟨rfl, rfl⟩)
            | (go_at_call 18; with_reducible refine (rerr_calls hrC).mono ?_; rintro e wA ⟨rfl, rfl⟩))
          have hbC := any_below hb hgS hfB hfC
          have hLl : L.length ≤ 1000000 := any_part_len q3.out q4 (by omega)
          have y0 := part_slice (HB.keep hbC) s.at_ s1.at_ (by omega) (by omega)
          rw [← q3.out] at y0
          have hs0 := run_str (P := Try.prog) y0.drew 26 9 5 Try.underlying26 Try.underlying5 Try.underlying9
          have m1 : (s.at_ : Int) ≤ (s1.at_ : Int) := by omega
          have m2 : (s1.at_ : Int) ≤ (bs.length : Int) := by omega
          have m3 : (s1.at_ : Int) ≤ (cap : Int) := by omega
          have m4 : (0 : Int) ≤ (s.at_ : Int) := by omega
          have m5 : ¬ cap = s.at_ := by omega
          go_region_with (first
            | (go_at_call 24; refine (wbytes_calls (bs := L) (S := SC) ?_ hLl).mono ?_; exact hwC; rintro e w9 ⟨v9, rfl, ho9, hb8⟩; have hb9 : Below wA.heap.size wA w9 := (Below.refl _ _).drew.trans hb8; obtain ⟨a9, c9, rfl, hy9⟩ := ho9.bytes; have hs9 := run_str (P := Try.prog) hy9 26 9 5 Try.underlying26 Try.underlying5 Try.underlying9; have hr9 := hrC.fr (Fr.ofBelow hb9) (by simp); have y9 := y0.keep hb9; have hs10 := run_str (P := Try.prog) y9 26 9 5 Try.underlying26 Try.underlying5 Try.underlying9)
            | (go_at_call 17; refine (rat_calls (s := s1) (bs := bs) (S := S) ?_).mono ?_; first | exact hrC | exact hr9; rintro e w8 ⟨rfl, rfl⟩))
          all_goals
            have hb10 := hbC.trans (hb9.mono hbC.size)
            have hS10 := fun k hk => Nat.lt_of_lt_of_le (HSl k hk) (Nat.le_trans (Nat.le_trans ((Below.refl _ _).alloc (Nat.le_refl _) _).size hfB.size) (Nat.le_trans hfC.size hb9.size))
            clear m1 m2 m3 m4 m5 hs0 hs9 hs10
            go_wp2
            go_roundw
            case rel => exact ⟨k + 1, s1, by omega, by go_num, hr9, hS10, hb10⟩
            case measure => simp [intOf]; omega
        · have e0 : (s1.err == 0) = false := by rw [beq_eq_false_iff_ne]; exact he
          obtain ⟨z1, z2⟩ := HT.no he
          have hl0 : rLeft bs s1 = 0 := by unfold rLeft; rw [if_neg he]
          have e3 : (n != 0) = false := by rw [bne_eq_false_iff_eq]; exact z1
          clear z1
          by_cases hse : s.err = 0
          · have e1 : (s.err != 0) = false := by rw [bne_eq_false_iff_eq]; exact hse
            clear z2 hse he HT
            go_wp2_with (first
            | (go_at_call 17; refine (rat_calls hr).mono ?_; rintro e wA ⟨rfl, rfl⟩)
            | (go_at_call 23; refine HX.mono ?_; rintro e wB ⟨rfl, hrB, hfB⟩; have hwB := hwA.fr hfB (by simpa using hgg))
            | (go_at_call 14; refine (wint_calls hwB n hrg (by simp)).mono ?_; rintro e wC ⟨rfl, SC, hwC, hgC, hfC⟩; have hrC := hrB.fr hfC (fun k hk hm => by have := HSl k hk; simp at hm; omega); rw [hL, List.nil_append] at hwC)
            | (go_at_call 18; with_reducible refine (rerr_calls hr).mono ?_; rintro e wA ⟨rfl, rfl⟩)
            | (go_at_call 18; with_reducible refine (rerr_calls hrC).mono ?_; rintro e wA ⟨rfl, rfl⟩)
              | (go_at_call 25; refine (rleft_calls hrC).mono ?_; rintro e w7 ⟨rfl, q, rfl⟩; rw [hl0]))
            have hbC := any_below hb hgS hfB hfC
            have hS10 := fun k hk => Nat.lt_of_lt_of_le (HSl k hk) (Nat.le_trans (Nat.le_trans ((Below.refl _ _).alloc (Nat.le_refl _) _).size hfB.size) hfC.size)
            go_roundw
            case rel => exact ⟨k + 1, s1, by omega, by go_num, hrC.drewN _, hS10, hbC.trans (below_draws _ _ _)⟩
            case measure => simp [intOf]; omega
          · have e1 : (s.err != 0) = true := by rw [bne_iff_ne]; exact hse
            have e2 : (s1.err != s.err) = false := by rw [bne_eq_false_iff_eq]; exact z2 hse
            clear z2 hse he HT
            go_wp2_with (first
            | (go_at_call 17; refine (rat_calls hr).mono ?_; rintro e wA ⟨rfl, rfl⟩)
            | (go_at_call 23; refine HX.mono ?_; rintro e wB ⟨rfl, hrB, hfB⟩; have hwB := hwA.fr hfB (by simpa using hgg))
            | (go_at_call 14; refine (wint_calls hwB n hrg (by simp)).mono ?_; rintro e wC ⟨rfl, SC, hwC, hgC, hfC⟩; have hrC := hrB.fr hfC (fun k hk hm => by have := HSl k hk; simp at hm; omega); rw [hL, List.nil_append] at hwC)
            | (go_at_call 18; with_reducible refine (rerr_calls hr).mono ?_; rintro e wA ⟨rfl, rfl⟩)
            | (go_at_call 18; with_reducible refine (rerr_calls hrC).mono ?_; rintro e wA ⟨rfl, rfl⟩)
              | (go_at_call 25; refine (rleft_calls hrC).mono ?_; rintro e w7 ⟨rfl, q, rfl⟩; rw [hl0])
              | (go_at_call 18; with_reducible refine (rerr_calls (hrC.drewN q)).mono ?_; rintro e wA ⟨rfl, rfl⟩))
            have hbC := any_below hb hgS hfB hfC
            have hS10 := fun k hk => Nat.lt_of_lt_of_le (HSl k hk) (Nat.le_trans (Nat.le_trans ((Below.refl _ _).alloc (Nat.le_refl _) _).size hfB.size) hfC.size)
            go_roundw
            case rel => exact ⟨k + 1, s1, by omega, by go_num, hrC.drewN _, hS10, hbC.trans (below_draws _ _ _)⟩
            case measure => simp [intOf]; omega
    · have q4 := hr.far
      by_cases he : s.err = 0
      · by_cases hl : s.at_ < bs.length
        · have hE : rEnd bs s = 15 := by unfold rEnd; rw [if_pos ⟨he, hl⟩]
          have e0 : (s.err == 0) = true := by rw [beq_iff_eq]; exact he
          have e1 : decide ((s.at_ : Int) < (bs.length : Int)) = true := by simp; omega
          clear he
          go_wp2_with (first
            | (go_at_call 17; refine (rat_calls hr).mono ?_; rintro e wA ⟨rfl, rfl⟩)
            | (go_at_call 18; refine (rerr_calls hr).mono ?_; rintro e wA ⟨rfl, rfl⟩)
            | (go_at_call 26; refine (rend_calls hr).mono ?_; rintro e wA ⟨rfl, q, rfl⟩; rw [hE]))
          go_ret
          exact ⟨rfl, hb.trans (below_draws _ _ _)⟩
        · have hE : rEnd bs s = 0 := by unfold rEnd; rw [if_neg (fun h => hl h.2)]; exact he
          have e1 : decide ((s.at_ : Int) < (bs.length : Int)) = false := by simp; omega
          go_wp2_with (first
            | (go_at_call 17; refine (rat_calls hr).mono ?_; rintro e wA ⟨rfl, rfl⟩)
            | (go_at_call 18; refine (rerr_calls hr).mono ?_; rintro e wA ⟨rfl, rfl⟩; rw [he])
            | (go_at_call 26; refine (rend_calls hr).mono ?_; rintro e wA ⟨rfl, q, rfl⟩; rw [hE]))
          go_ret
          exact ⟨rfl, hb.trans (below_draws _ _ _)⟩
      · have hE : rEnd bs s = s.err := by unfold rEnd; rw [if_neg (fun h => he h.1)]
        have e0 : (s.err == 0) = false := by rw [beq_eq_false_iff_ne]; exact he
        clear he
        go_wp2_with (first
          | (go_at_call 18; refine (rerr_calls hr).mono ?_; rintro e wA ⟨rfl, rfl⟩)
          | (go_at_call 26; refine (rend_calls hr).mono ?_; rintro e wA ⟨rfl, q, rfl⟩; rw [hE]))
        go_ret
        exact ⟨rfl, hb.trans (below_draws _ _ _)⟩
end Go.Proofs.Ytiimfijjhlehlaa
