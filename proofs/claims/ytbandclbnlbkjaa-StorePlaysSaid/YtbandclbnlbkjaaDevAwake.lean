/-
  Chapter 6's fixed fact; the law 'StoreNone'.
-/
import Derived.Test.YtbandclbnlbkjaaDevPut
namespace Go.Proofs.Ytbandclbnlbkjaa
open Go.RowKit

theorem make_64 (w : World) : (Instr.makeSlice 22 (.int .i64 64) (.int .i64 64)).run Try.prog w = .ok (.slice (some ⟨w.heap.size, 0, none⟩) 64 64) (w.alloc (.cells (bytesArr (List.replicate 64 0)) 5)) := by
  obtain ⟨i, hi, hz0, hz1, hz2⟩ := info_parts Try.elU8.hi
  exact run_make_bytes w 22 5 i Try.elU8.ht hi hz0 hz1 hz2 64 (by decide)

theorem bytes_64 (w : World) : Bytes (w.alloc (.cells (bytesArr (List.replicate 64 0)) 5)) (some ⟨w.heap.size, 0, none⟩) 64 64 (List.replicate 64 0) := Bytes.of_heap (heap_new _ _) (by simp) (by simp) (by decide)
theorem bytes_64d (w : World) : Bytes (w.alloc (.cells (bytesArr (List.replicate 64 0)) 5)).drew (some ⟨w.heap.size, 0, none⟩) 64 64 (List.replicate 64 0) := (bytes_64 w).drew
theorem put_plain {C : Nat} {w wa w1 w2 : World} {g mb : Nat} (hC : C = w.heap.size) (h0 : Below C w wa) (hb1 : Below wa.heap.size wa w1) (hge : wa.heap.size ≤ g ∧ wa.heap.size ≤ mb) (f2 : Fr [g, mb] w1 w2) : Below C w w2 := by
  have hs := h0.size
  have h1 := h0.trans (hb1.mono (by omega))
  refine Fr.below h1 f2 (fun k hk => ?_) (by have := h1.size; omega)
  simp at hk
  rcases hk with rfl | rfl
  · have := hge.1; omega
  · have := hge.2; omega
theorem put_alloc {C : Nat} {w wa w1 w2 : World} {g mb : Nat} (hC : C = w.heap.size) (h0 : Below C w wa) (hb1 : Below wa.heap.size wa w1) (o : Obj) (hge : wa.heap.size ≤ g ∧ wa.heap.size ≤ mb) (f2 : Fr [g, mb] (w1.alloc o) w2) : Below C w w2 :=
  put_plain hC h0 (hb1.alloc hb1.size o) hge f2

/-- A device of some room, without a plan. -/
def fresh (r : Nat) : Dev := ⟨[], r, 0, 0, 0, 0, [], [], []⟩
theorem dnew_room (many : Int) (r : Nat) (hr : (min (max many 0) 4096).toNat = r) (w : World) :
    Calls Try.prog 8 #[.int .i64 many, .agg #[.slice none 0 0, .slice none 0 0, .map none]] w fun e w' => ∃ g mb bb v1 v2, e = .returned (.pointer (some ⟨g, 0, none⟩)) ∧ Dvx w' g mb bb v1 v2 [] (fresh r) ∧ (w.heap.size ≤ g ∧ w.heap.size ≤ mb) ∧ Below w.heap.size w w' := by
  subst hr; exact dnew_nil many w
theorem put_first {w : World} {g mb bb : Nat} {v1 v2 : Value} (h : Dvx w g mb bb v1 v2 [] (fresh 1)) {a : Option Addr} {c : Nat} {bs : List UInt8} (HB : Bytes w a 64 c bs) (ha : ∀ p, a = some p → p.block ∉ [g, mb]) :
    Calls Try.prog 9 #[.pointer (some ⟨g, 0, none⟩), .slice a 64 c] w fun e w' => e = .returned (.tuple #[.int .i64 1, .int .i64 0]) ∧ Fr [g, mb] w w' := by
  refine (dput_ok h HB ha (by decide) (by decide) (by decide) (by simp [fresh])).mono ?_
  rintro e w' ⟨rfl, _, hf⟩
  exact ⟨rfl, hf⟩
theorem put_none {w : World} {g mb bb : Nat} {v1 v2 : Value} (h : Dvx w g mb bb v1 v2 [] (fresh 0)) {a : Option Addr} {c : Nat} :
    Calls Try.prog 9 #[.pointer (some ⟨g, 0, none⟩), .slice a 64 c] w fun e w' => e = .returned (.tuple #[.int .i64 0, .int .i64 8]) ∧ Fr [g, mb] w w' := by
  refine (dput_full h (by decide) (.inl (by decide))).mono ?_
  rintro e w' ⟨rfl, _, hf⟩
  exact ⟨rfl, hf⟩

set_option maxRecDepth 10000 in
set_option maxHeartbeats 8000000 in
theorem awake06 (w : World) :
    Calls Try.prog 7 #[] w fun e w' => e = .returned (.bool true) ∧ Below w.heap.size w w' := by
  have hmk := make_64
  have b1 := bytes_64
  have b2 := bytes_64d
  obtain ⟨zs, hzs⟩ : ∃ zs, List.replicate 64 (0 : UInt8) = zs := ⟨_, rfl⟩
  rw [hzs] at hmk b1 b2
  clear hzs
  have b0 : ∀ w' : World, Below w'.heap.size w' (w'.alloc (.cells (bytesArr zs) 5)) := fun w' => (Below.refl _ _).alloc (Nat.le_refl _) _
  go_enter Try.func7, Try.ntmps7
  go_upto_region 1 with (fail)
  go_cut [1, 2] from 5 to 11 (fun _ v2 wx => v2 = .int .i64 8 ∧ Below w.heap.size w wx)
  case first =>
    go_region_with (first
      | (go_at_call 8; refine (dnew_room 0 0 rfl _).mono ?_; rintro e w1 ⟨g, mb, bb, v1, v2, rfl, h1, hge, hb1⟩)
      | (go_at_call 9; with_reducible refine (put_none h1).mono ?_; rintro e w2 ⟨rfl, f2⟩; have hbw := put_plain (w := w) rfl ((Below.refl _ _).alloc (Nat.le_refl _) _).drew hb1 hge f2)
      | (go_at_call 9; with_reducible refine (put_none (h1.keep (b0 _))).mono ?_; rintro e w2 ⟨rfl, f2⟩; have hbw := put_alloc (w := w) rfl (Below.refl _ _).drew hb1 _ hge f2))
    all_goals
      clear h1 f2 hge hb1
      go_wp2
      go_meet
      case rel => exact ⟨rfl, hbw⟩
  case rest =>
    obtain ⟨rfl, hbw⟩ := hcut
    obtain ⟨w2, hw2⟩ : ∃ w2, w2 = wc := ⟨_, rfl⟩
    subst hw2
    go_upto_region 2 with (fail)
    go_region_with (first
      | (go_at_call 8; refine (dnew_room 1 1 rfl _).mono ?_; rintro e w3 ⟨g3, mb3, bb3, v3, v4, rfl, h3, hge3, hb3⟩)
      | (go_at_call 9; with_reducible refine (put_first h3 ((b2 _).keep hb3) (by intro p hp; cases hp; have h5 := hge3.1; have h6 := hge3.2; simp at h5 h6 ⊢; omega)).mono ?_; rintro e w4 ⟨rfl, f4⟩; have hbz := put_plain (w := w2) rfl ((Below.refl _ _).alloc (Nat.le_refl _) _).drew hb3 hge3 f4)
      | (go_at_call 9; with_reducible refine (put_first (h3.keep (b0 _)) (b1 _) (by intro p hp; cases hp; have := h3.lt; simp; omega)).mono ?_; rintro e w4 ⟨rfl, f4⟩; have hbz := put_alloc (w := w2) rfl (Below.refl _ _).drew hb3 _ hge3 f4))
    all_goals
      clear h3 f4 hge3 hb3
      go_wp2
      go_ret
      exact ⟨rfl, hbw.trans (hbz.mono hbw.size)⟩
end Go.Proofs.Ytbandclbnlbkjaa
