/-
  The reader's Within, End; making one.
-/
import Derived.Test.YtmholpploaecgaaTakes
namespace Go.Proofs.Ytmholpploaecgaa
open Go.RowKit

set_option maxRecDepth 10000 in
set_option maxHeartbeats 1000000 in
theorem rwithin_calls {w : World} {g : Nat} {S : List Nat} {bs : List UInt8} {s : Rs} (h : Rd w g S bs s) (lo hi : Int) :
    Calls Try.prog 31 #[.pointer (some ⟨g, 0, none⟩), .int .i64 lo, .int .i64 hi] w fun x w' => x = .returned (.int .i64 (rWithin bs s lo hi).1) ∧ Rd w' g S bs (rWithin bs s lo hi).2 ∧ Fr [g] w w' := by
  have HB := rint_calls h
  obtain ⟨n, s1, hus⟩ : ∃ n s1, rInt bs s = (n, s1) := ⟨_, _, rfl⟩
  rw [hus] at HB
  simp only at HB
  obtain ⟨sat, serr⟩ := s1
  by_cases he : serr = 0
  · subst he
    by_cases hb : n < lo ∨ n > hi
    · have HR : Hid (rWithin bs s lo hi = (0, ⟨sat, 2⟩)) := by
        show _ = _; unfold rWithin; rw [hus]
        have : (n < lo ∨ n > hi) = True := eq_true hb
        simp only [this, rFail]; rfl
      have HF : rFail ⟨sat, 0⟩ 2 = ⟨sat, 2⟩ := rfl
      obtain ⟨b1, b2, e1, e2, hw⟩ : ∃ b1 b2 : Bool, decide (n < lo) = b1 ∧ decide (n > hi) = b2 ∧ (b1 = true ∨ (b1 = false ∧ b2 = true)) := ⟨_, _, rfl, rfl, by simp only [decide_eq_true_eq, decide_eq_false_iff_not]; omega⟩
      clear hb hus
      rcases hw with rfl | ⟨rfl, rfl⟩
      all_goals
        go_enter Try.func31, Try.ntmps31
        go_wp2_with (first
          | (go_at_call 37; refine HB.mono ?_; rintro x w1 ⟨rfl, hr1, hf1⟩)
          | (go_at_call 32; refine (rfail_calls hr1 2).mono ?_; rintro x w2 ⟨rfl, hr2, hf2⟩; rw [HF] at hr2)
          | (go_at_call 19; with_reducible refine (rerr_calls hr2).mono ?_; rintro x w3 ⟨rfl, rfl⟩)
          | (go_at_call 19; with_reducible refine (rerr_calls hr1).mono ?_; rintro x w3 ⟨rfl, rfl⟩))
        go_ret
        rw [HR.out]
        exact ⟨rfl, hr2, hf1.trans hf2 (Grows.refl _ _)⟩
    · have HR : Hid (rWithin bs s lo hi = (n, ⟨sat, 0⟩)) := by
        show _ = _; unfold rWithin; rw [hus]
        have : (n < lo ∨ n > hi) = False := eq_false hb
        simp only [this, rFail]; rfl
      have b1 : decide (n < lo) = false := by simp; omega
      have b2 : decide (n > hi) = false := by simp; omega
      clear hb hus
      go_enter Try.func31, Try.ntmps31
      go_wp2_with (first
        | (go_at_call 37; refine HB.mono ?_; rintro x w1 ⟨rfl, hr1, hf1⟩)
        | (go_at_call 19; refine (rerr_calls hr1).mono ?_; rintro x w3 ⟨rfl, rfl⟩))
      go_ret
      rw [HR.out]
      exact ⟨rfl, hr1, hf1⟩
  · have HR : Hid (rWithin bs s lo hi = (0, ⟨sat, serr⟩)) := by
      show _ = _; unfold rWithin; rw [hus]
      have : (serr = 0) = False := eq_false he
      simp only [this, false_and, if_false]
    have b0 : (serr == 0) = false := by rw [beq_eq_false_iff_ne]; exact he
    have b1 : (serr != 0) = true := by rw [bne_iff_ne]; exact he
    clear he hus
    go_enter Try.func31, Try.ntmps31
    go_wp2_with (first
      | (go_at_call 37; refine HB.mono ?_; rintro x w1 ⟨rfl, hr1, hf1⟩)
      | (go_at_call 19; refine (rerr_calls hr1).mono ?_; rintro x w3 ⟨rfl, rfl⟩))
    go_ret
    rw [HR.out]
    exact ⟨rfl, hr1, hf1⟩

set_option maxRecDepth 10000 in
theorem rend_calls {w : World} {g : Nat} {S : List Nat} {bs : List UInt8} {s : Rs} (h : Rd w g S bs s) :
    Calls Try.prog 18 #[.pointer (some ⟨g, 0, none⟩)] w fun x w' => x = .returned (.int .i64 (rEnd bs s)) ∧ ∃ q, w' = w.drewN q := by
  have h0 := h
  obtain ⟨sat, serr⟩ := s
  obtain ⟨T, a, cap, h1, h2, h3, h4, h5, h6⟩ := h
  have c0 := cell_at h1 0
  have c1 := cell_at h1 1
  have c2 := cell_at h1 2
  simp only at h5
  by_cases he : serr = 0
  · subst he
    by_cases hl : sat < bs.length
    · have HE : Hid (rEnd bs ⟨sat, 0⟩ = 15) := by show _ = _; unfold rEnd; rw [if_pos ⟨rfl, hl⟩]
      have hl2 : decide ((sat : Int) < (bs.length : Int)) = true := by simp; omega
      go_enter Try.func18, Try.ntmps18
      go_wp2
      go_quiet (fail)
      go_wp2
      go_ret
      exact ⟨by rw [HE.out]; rfl, _, rfl⟩
    · have HE : Hid (rEnd bs ⟨sat, 0⟩ = 0) := by show _ = _; unfold rEnd; rw [if_neg (fun h => hl h.2)]
      have hl2 : decide ((sat : Int) < (bs.length : Int)) = false := by simp; omega
      go_enter Try.func18, Try.ntmps18
      go_wp2
      go_quiet (fail)
      go_wp2_with (go_at_call 19; refine (rerr_calls (h0.drewN _)).mono ?_; rintro x w3 ⟨rfl, rfl⟩)
      go_ret
      exact ⟨by rw [HE.out]; rfl, _, rfl⟩
  · have HE : Hid (rEnd bs ⟨sat, serr⟩ = serr) := by show _ = _; unfold rEnd; rw [if_neg (fun h => he h.1)]
    have b0 : (serr == 0) = false := by rw [beq_eq_false_iff_ne]; exact he
    clear he
    go_enter Try.func18, Try.ntmps18
    go_wp2
    go_quiet (fail)
    go_wp2_with (go_at_call 19; refine (rerr_calls (h0.drewN _)).mono ?_; rintro x w3 ⟨rfl, rfl⟩)
    go_ret
    exact ⟨by rw [HE.out]; rfl, _, rfl⟩

theorem read_calls {w : World} {a : Option Addr} {n cap : Nat} {bs : List UInt8} (h : Bytes w a n cap bs) (hl : n ≤ 1000000) :
    Calls Try.prog 15 #[.slice a n cap] w fun x w' => ∃ g S, x = .returned (.pointer (some ⟨g, 0, none⟩)) ∧ Rd w' g S bs ⟨0, 0⟩ ∧ (∀ k ∈ S, w.heap.size ≤ k ∧ k < w'.heap.size) ∧ Below w.heap.size w w' := by
  have hn := h.len
  subst hn
  have hb1 : Bytes (w.alloc (.cells #[] 5)) a bs.length cap bs := h.keep ((Below.refl _ _).alloc (Nat.le_refl _) _)
  have hal : Below w.heap.size w (w.alloc (.cells #[] 5)) := (Below.refl _ _).alloc (Nat.le_refl _) _
  go_enter Try.func15, Try.ntmps15
  go_wp2_with (at_builtin; refine app_bytes_at rfl _ _ rfl rfl (OwnB.emptyAt w w.heap.size _ (by simp) (Nat.le_refl _)) rfl hb1 (by simp; omega) (by simp) ?_; intro v1 w1 ho1 hg1 hl1; obtain ⟨a1, c1, rfl, hb2⟩ := ho1.bytes; have hlt := World.ownsRow.lt ho1)
  go_ret
  have hgn := heap_new w1 (.cells #[.slice a1 bs.length c1, .int .i64 0, .int .i64 0] 80)
  have hbw : Below w.heap.size w w1 := hal.grown hg1 (by simp) (fun j hj => by cases hj; exact Nat.le_refl _)
  refine ⟨w1.heap.size, w1.heap.size :: (Value.slice a1 bs.length c1).ownBlock.toList, rfl, ⟨_, a1, c1, hgn, hb2.keep ((Below.refl _ _).alloc (Nat.le_refl _) _), ?_, by simp, Nat.zero_le _, hl⟩, ?_, hbw.alloc hbw.size _⟩
  · rintro p rfl
    have := (hlt p.block rfl).2
    exact ⟨by omega, by simp [Value.ownBlock]⟩
  · intro k hk
    simp only [List.mem_cons, Option.mem_toList] at hk
    have hs : (w1.alloc (.cells #[.slice a1 bs.length c1, .int .i64 0, .int .i64 0] 80)).heap.size = w1.heap.size + 1 := by simp
    rcases hk with rfl | hk
    · exact ⟨hbw.size, Nat.lt_of_lt_of_eq (Nat.lt_succ_self _) hs.symm⟩
    · exact ⟨(hlt k hk).1, Nat.lt_of_lt_of_eq (Nat.lt_succ_of_lt (hlt k hk).2) hs.symm⟩
end Go.Proofs.Ytmholpploaecgaa
