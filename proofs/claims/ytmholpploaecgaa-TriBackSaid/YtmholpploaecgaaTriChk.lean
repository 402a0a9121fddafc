/-
  setup.Tri's Check.
-/
import Derived.Test.YtmholpploaecgaaColour
import Derived.Test.YtmholpploaecgaaEq
import Derived.Test.YtmholpploaecgaaGrow
import Derived.Deep.CutRange
namespace Go.Proofs.Ytmholpploaecgaa
open Go.RowKit
set_option linter.unusedVariables false
set_option linter.unusedSimpArgs false

/-- A corner that may be. -/
def okC (x : Nat → Int) (i : Nat) : Prop := Close (x (2 * i)) ∧ Close (x (2 * i + 1)) ∧ (0 ≤ x (6 + i) ∧ x (6 + i) ≤ 65535) ∧ (1 ≤ x (9 + i) ∧ x (9 + i) ≤ 1024) ∧ (0 ≤ x (12 + 4 * i) ∧ x (12 + 4 * i) ≤ 65536) ∧ (0 ≤ x (13 + 4 * i) ∧ x (13 + 4 * i) ≤ 65536) ∧ (0 ≤ x (14 + 4 * i) ∧ x (14 + 4 * i) ≤ 65536) ∧ (0 ≤ x (15 + 4 * i) ∧ x (15 + 4 * i) ≤ 65536)
def triArea (x : Nat → Int) : Int := side (x 0) (x 1) (x 2) (x 3) (x 4) (x 5)
instance (x : Nat → Int) (i : Nat) : Decidable (okC x i) := by unfold okC; infer_instance
def chkTri (x : Nat → Int) : Int := if okC x 0 ∧ okC x 1 ∧ okC x 2 then (if triArea x ≤ 0 then 4 else 0) else 2
theorem near_eq (x : Int) : (x != near x) = !decide (Close x) := by
  by_cases h : Close x
  · rw [near_id h]; simp [h]
  · have : x ≠ near x := by unfold Close at h; unfold near clampTo; omega
    simp [h, this]
theorem col_eq (x : Int) : col x = x ↔ 0 ≤ x ∧ x ≤ 65536 := by unfold col; omega

theorem Try.infoInt' : (Try.prog.info? 3).isSome = true := by kernel_rfl
theorem neq_vec (w : World) (a b c d a' b' c' d' : Int) : (binOp .neq 38 (.agg #[.int .i64 a, .int .i64 b, .int .i64 c, .int .i64 d]) (.agg #[.int .i64 a', .int .i64 b', .int .i64 c', .int .i64 d'])).run Try.prog w = .ok (.bool (!([a, b, c, d] == [a', b', c', d']))) w := by
  obtain ⟨i, hi⟩ := Option.isSome_iff_exists.1 Try.infoInt'
  exact run_neq_ints (P := Try.prog) Try.underlying38 Try.underlying3 hi (by kernel_rfl) [a, b, c, d] [a', b', c', d'] rfl rfl w

set_option maxRecDepth 10000 in
set_option maxHeartbeats 4000000 in
theorem trichk_calls (x : Nat → Int) (w : World) :
    Calls Try.prog 13 #[.agg #[.int .i64 (x 0), .int .i64 (x 1), .int .i64 (x 2), .int .i64 (x 3), .int .i64 (x 4), .int .i64 (x 5), .int .i64 (x 6), .int .i64 (x 7), .int .i64 (x 8), .int .i64 (x 9), .int .i64 (x 10), .int .i64 (x 11), .int .i64 (x 12), .int .i64 (x 13), .int .i64 (x 14), .int .i64 (x 15), .int .i64 (x 16), .int .i64 (x 17), .int .i64 (x 18), .int .i64 (x 19), .int .i64 (x 20), .int .i64 (x 21), .int .i64 (x 22), .int .i64 (x 23)]] w fun e w' => e = .returned (.int .i64 (chkTri x)) ∧ Below w.heap.size w w' := by
  obtain ⟨B, hB⟩ : ∃ B, w.heap.size = B := ⟨_, rfl⟩
  have hbox := heap_new w (.cells #[.int .i64 (x 0), .int .i64 (x 1), .int .i64 (x 2), .int .i64 (x 3), .int .i64 (x 4), .int .i64 (x 5), .int .i64 (x 6), .int .i64 (x 7), .int .i64 (x 8), .int .i64 (x 9), .int .i64 (x 10), .int .i64 (x 11), .int .i64 (x 12), .int .i64 (x 13), .int .i64 (x 14), .int .i64 (x 15), .int .i64 (x 16), .int .i64 (x 17), .int .i64 (x 18), .int .i64 (x 19), .int .i64 (x 20), .int .i64 (x 21), .int .i64 (x 22), .int .i64 (x 23)] 41)
  have hb0 := (Below.refl w.heap.size w).alloc (Nat.le_refl _) (.cells #[.int .i64 (x 0), .int .i64 (x 1), .int .i64 (x 2), .int .i64 (x 3), .int .i64 (x 4), .int .i64 (x 5), .int .i64 (x 6), .int .i64 (x 7), .int .i64 (x 8), .int .i64 (x 9), .int .i64 (x 10), .int .i64 (x 11), .int .i64 (x 12), .int .i64 (x 13), .int .i64 (x 14), .int .i64 (x 15), .int .i64 (x 16), .int .i64 (x 17), .int .i64 (x 18), .int .i64 (x 19), .int .i64 (x 20), .int .i64 (x 21), .int .i64 (x 22), .int .i64 (x 23)] 41)
  rw [hB] at hbox hb0
  have HBOX := hid1 hbox
  have HB0 := hid1 hb0
  have HBE := hid1 hB
  clear hbox hb0
  go_enter Try.func13, Try.ntmps13
  go_wp2
  clear hB
  obtain ⟨v0, hv0⟩ : ∃ v0 : Value, Value.agg #[.int .i64 (x 0), .int .i64 (x 1), .int .i64 (x 2), .int .i64 (x 3), .int .i64 (x 4), .int .i64 (x 5), .int .i64 (x 6), .int .i64 (x 7), .int .i64 (x 8), .int .i64 (x 9), .int .i64 (x 10), .int .i64 (x 11), .int .i64 (x 12), .int .i64 (x 13), .int .i64 (x 14), .int .i64 (x 15), .int .i64 (x 16), .int .i64 (x 17), .int .i64 (x 18), .int .i64 (x 19), .int .i64 (x 20), .int .i64 (x 21), .int .i64 (x 22), .int .i64 (x 23)] = v0 := ⟨_, rfl⟩
  rw [hv0]
  clear hv0
  go_loopw [5] (fun k wr => ∃ j : Nat, j ≤ 3 ∧ k = .int .i64 j ∧ Hid (∀ i, i < j → okC x i) ∧ Hid (wr.heap[B]? = some (.cells #[.int .i64 (x 0), .int .i64 (x 1), .int .i64 (x 2), .int .i64 (x 3), .int .i64 (x 4), .int .i64 (x 5), .int .i64 (x 6), .int .i64 (x 7), .int .i64 (x 8), .int .i64 (x 9), .int .i64 (x 10), .int .i64 (x 11), .int .i64 (x 12), .int .i64 (x 13), .int .i64 (x 14), .int .i64 (x 15), .int .i64 (x 16), .int .i64 (x 17), .int .i64 (x 18), .int .i64 (x 19), .int .i64 (x 20), .int .i64 (x 21), .int .i64 (x 22), .int .i64 (x 23)] 41 (0, 0))) ∧ Hid (Below B w wr)) (fun k _ => 3 - (intOf k).toNat)
  case atStart => exact ⟨0, by omega, rfl, (fun i hi => by omega), HBOX.out, HB0.out⟩
  case round =>
    clear HB0 HBOX
    obtain ⟨j, hj, rfl, HOK, HBOX, HB⟩ := hrel
    by_cases hlt : j < 3
    · rcases (show j = 0 ∨ j = 1 ∨ j = 2 by omega) with rfl | rfl | rfl
      · have e0 := cell_at HBOX.out 0
        have e1 := cell_at HBOX.out 1
        go_upto_region 5 with (fail)
        have hpt := heap_new wr (.cells #[.int .i64 (x 0), .int .i64 (x 1)] 33)
        have hbx := heap_keep HBOX.out (.cells #[.int .i64 (x 0), .int .i64 (x 1)] 33)
        have hbw := HB.out.alloc (Nat.le_of_lt (heap_lt HBOX.out)) (.cells #[.int .i64 (x 0), .int .i64 (x 1)] 33)
        obtain ⟨W, hW⟩ : ∃ W, wr.alloc (.cells #[.int .i64 (x 0), .int .i64 (x 1)] 33) = W := ⟨_, rfl⟩
        obtain ⟨P, hP⟩ : ∃ P, wr.heap.size = P := ⟨_, rfl⟩
        rw [hW] at hpt hbx hbw ⊢
        rw [hP] at hpt ⊢
        have HBW := hid1 hbw
        have HBX := hid1 hbx
        have k6 := fun q => ext_cell (cell_at hbx 6) q
        have k9 := fun q => ext_cell (cell_at hbx 9) q
        have k12 := fun q => ext_cell (cell_at hbx 12) q
        have k13 := fun q => ext_cell (cell_at hbx 13) q
        have k14 := fun q => ext_cell (cell_at hbx 14) q
        have k15 := fun q => ext_cell (cell_at hbx 15) q
        have kp0 := fun q => ext_cell (cell_at hpt 0) q
        have kp1 := fun q => ext_cell (cell_at hpt 1) q
        clear hW hP hpt hbx hbw e0 e1
        refine wp_region_grow (by kernel_rfl) (by kernel_rfl) ?_
        have n1 := near_eq (x 0)
        have n2 := near_eq (x 1)
        unfold near at n1 n2
        by_cases hok : okC x 0
        · have hok2 := hok
          unfold okC at hok2
          simp only [Nat.mul_zero, Nat.zero_add, Nat.add_zero, Nat.reduceMul, Nat.reduceAdd] at hok2
          obtain ⟨o1, o2, o3, o4, o5, o6, o7, o8⟩ := hok2
          have b1 : (x 0 != clampTo (x 0) 16384) = false := by rw [n1]; simpa using o1
          have b2 : (x 1 != clampTo (x 1) 16384) = false := by rw [n2]; simpa using o2
          have b3 : decide (x 6 < 0) = false := by simp; omega
          have b4 : decide (x 6 > 65535) = false := by simp; omega
          have b5 : decide (x 9 < 1) = false := by simp; omega
          have b6 : decide (x 9 > 1024) = false := by simp; omega
          have b7 : ∀ w, (binOp .neq 38 (.agg #[.int .i64 (x 12), .int .i64 (x 13), .int .i64 (x 14), .int .i64 (x 15)]) (.agg #[.int .i64 (col (x 12)), .int .i64 (col (x 13)), .int .i64 (col (x 14)), .int .i64 (col (x 15))])).run Try.prog w = .ok (.bool false) w := fun w => by rw [neq_vec, (col_eq _).2 o5, (col_eq _).2 o6, (col_eq _).2 o7, (col_eq _).2 o8]; simp
          have HOK2 := hid1 hok
          clear hok o1 o2 o3 o4 o5 o6 o7 o8 n1 n2
          repeat (go_big_quiet_step (first
            | (go_at_call 25; exact Calls.grow_same (within_fix _ 16384 (by decide) _))
            | (go_at_call 26; exact Calls.grow (colour_calls _ _ _ _ _))))
          refine wpQuiet_nil ?_
          rintro _ ⟨q, rfl⟩
          have HC := hid1 (ext_below q)
          obtain ⟨w3, hw3⟩ : ∃ w3, ext W q = w3 := ⟨_, rfl⟩
          rw [hw3] at HC ⊢
          clear hw3
          have HBZ := hid1 (HBW.out.trans (HC.out.mono (Nat.le_of_lt (heap_lt HBX.out))))
          have HBY := hid1 ((Fr.ofBelow HC.out).heap HBX.out (by simp))
          clear k6 k9 k12 k13 k14 k15 kp0 kp1  b1 b2 b3 b4 b5 b6 b7
          go_wp2
          go_roundw
          case rel => exact ⟨1, by omega, by go_num, (fun i hi => by rcases (show i < 0 ∨ i = 0 by omega) with h | rfl; exact HOK.out i h; exact HOK2.out), HBY.out, HBZ.out⟩
          case measure => simp [intOf]
        · have hck : chkTri x = 2 := by unfold chkTri; rw [if_neg (fun h => hok h.1)]
          have HCK := hid1 hck
          have hw : ((x 0 != clampTo (x 0) 16384) = true) ∨ ((x 0 != clampTo (x 0) 16384) = false ∧ (x 1 != clampTo (x 1) 16384) = true) ∨ ((x 0 != clampTo (x 0) 16384) = false ∧ (x 1 != clampTo (x 1) 16384) = false ∧ (decide (x 6 < 0) = true ∨ (decide (x 6 < 0) = false ∧ (decide (x 6 > 65535) = true ∨ (decide (x 6 > 65535) = false ∧ (decide (x 9 < 1) = true ∨ (decide (x 9 < 1) = false ∧ (decide (x 9 > 1024) = true ∨ (decide (x 9 > 1024) = false ∧ ∀ w, (binOp .neq 38 (.agg #[.int .i64 (x 12), .int .i64 (x 13), .int .i64 (x 14), .int .i64 (x 15)]) (.agg #[.int .i64 (col (x 12)), .int .i64 (col (x 13)), .int .i64 (col (x 14)), .int .i64 (col (x 15))])).run Try.prog w = .ok (.bool true) w))))))))) := by
            rw [n1, n2]
            by_cases h1 : Close (x 0)
            · by_cases h2 : Close (x 1)
              · right; right
                refine ⟨by simpa using h1, by simpa using h2, ?_⟩
                by_cases h3 : x 6 < 0
                · exact .inl (by simpa using h3)
                refine .inr ⟨by simp; omega, ?_⟩
                by_cases h4 : x 6 > 65535
                · exact .inl (by simpa using h4)
                refine .inr ⟨by simp; omega, ?_⟩
                by_cases h5 : x 9 < 1
                · exact .inl (by simpa using h5)
                refine .inr ⟨by simp; omega, ?_⟩
                by_cases h6 : x 9 > 1024
                · exact .inl (by simpa using h6)
                refine .inr ⟨by simp; omega, fun w => ?_⟩
                have hne : ¬ ([x 12, x 13, x 14, x 15] = [col (x 12), col (x 13), col (x 14), col (x 15)]) := fun h => by
                  simp only [List.cons.injEq, and_true] at h
                  refine hok ?_
                  unfold okC
                  simp only [Nat.mul_zero, Nat.zero_add, Nat.add_zero, Nat.reduceMul, Nat.reduceAdd]
                  exact ⟨h1, h2, by omega, by omega, (col_eq _).1 h.1.symm, (col_eq _).1 h.2.1.symm, (col_eq _).1 h.2.2.1.symm, (col_eq _).1 h.2.2.2.symm⟩
                rw [neq_vec, beq_eq_false_iff_ne.2 hne]; rfl
              · exact .inr (.inl ⟨by simpa using h1, by simpa using h2⟩)
            · exact .inl (by simpa using h1)
          obtain ⟨c1, hc1⟩ : ∃ c, (x 0 != clampTo (x 0) 16384) = c := ⟨_, rfl⟩
          obtain ⟨c2, hc2⟩ : ∃ c, (x 1 != clampTo (x 1) 16384) = c := ⟨_, rfl⟩
          obtain ⟨c3, hc3⟩ : ∃ c, decide (x 6 < 0) = c := ⟨_, rfl⟩
          obtain ⟨c4, hc4⟩ : ∃ c, decide (x 6 > 65535) = c := ⟨_, rfl⟩
          obtain ⟨c5, hc5⟩ : ∃ c, decide (x 9 < 1) = c := ⟨_, rfl⟩
          obtain ⟨c6, hc6⟩ : ∃ c, decide (x 9 > 1024) = c := ⟨_, rfl⟩
          rw [hc1, hc2, hc3, hc4, hc5, hc6] at hw
          clear n1 n2 hok hck
          rcases hw with rfl | ⟨rfl, rfl⟩ | ⟨rfl, rfl, rfl | ⟨rfl, rfl | ⟨rfl, rfl | ⟨rfl, rfl | ⟨rfl, b7⟩⟩⟩⟩⟩
          all_goals
            as_aux_lemma =>
              repeat (go_big_quiet_step (first
                | (go_at_call 25; exact Calls.grow_same (within_fix _ 16384 (by decide) _))
                | (go_at_call 26; exact Calls.grow (colour_calls _ _ _ _ _))))
              refine wpQuiet_nil ?_
              rintro _ ⟨q, rfl⟩
              have HC := hid1 (ext_below q)
              obtain ⟨w3, hw3⟩ : ∃ w3, ext W q = w3 := ⟨_, rfl⟩
              rw [hw3] at HC ⊢
              clear hw3
              have HBZ := hid1 (HBW.out.trans (HC.out.mono (Nat.le_of_lt (heap_lt HBX.out))))
              go_wp2
              go_ret
              rw [HCK.out, HBE.out]
              exact ⟨rfl, HBZ.out⟩
      · have e0 := cell_at HBOX.out 2
        have e1 := cell_at HBOX.out 3
        go_upto_region 5 with (fail)
        have hpt := heap_new wr (.cells #[.int .i64 (x 2), .int .i64 (x 3)] 33)
        have hbx := heap_keep HBOX.out (.cells #[.int .i64 (x 2), .int .i64 (x 3)] 33)
        have hbw := HB.out.alloc (Nat.le_of_lt (heap_lt HBOX.out)) (.cells #[.int .i64 (x 2), .int .i64 (x 3)] 33)
        obtain ⟨W, hW⟩ : ∃ W, wr.alloc (.cells #[.int .i64 (x 2), .int .i64 (x 3)] 33) = W := ⟨_, rfl⟩
        obtain ⟨P, hP⟩ : ∃ P, wr.heap.size = P := ⟨_, rfl⟩
        rw [hW] at hpt hbx hbw ⊢
        rw [hP] at hpt ⊢
        have HBW := hid1 hbw
        have HBX := hid1 hbx
        have k7 := fun q => ext_cell (cell_at hbx 7) q
        have k10 := fun q => ext_cell (cell_at hbx 10) q
        have k16 := fun q => ext_cell (cell_at hbx 16) q
        have k17 := fun q => ext_cell (cell_at hbx 17) q
        have k18 := fun q => ext_cell (cell_at hbx 18) q
        have k19 := fun q => ext_cell (cell_at hbx 19) q
        have kp0 := fun q => ext_cell (cell_at hpt 0) q
        have kp1 := fun q => ext_cell (cell_at hpt 1) q
        clear hW hP hpt hbx hbw e0 e1
        refine wp_region_grow (by kernel_rfl) (by kernel_rfl) ?_
        have n1 := near_eq (x 2)
        have n2 := near_eq (x 3)
        unfold near at n1 n2
        by_cases hok : okC x 1
        · have hok2 := hok
          unfold okC at hok2
          simp only [Nat.mul_zero, Nat.zero_add, Nat.add_zero, Nat.reduceMul, Nat.reduceAdd] at hok2
          obtain ⟨o1, o2, o3, o4, o5, o6, o7, o8⟩ := hok2
          have b1 : (x 2 != clampTo (x 2) 16384) = false := by rw [n1]; simpa using o1
          have b2 : (x 3 != clampTo (x 3) 16384) = false := by rw [n2]; simpa using o2
          have b3 : decide (x 7 < 0) = false := by simp; omega
          have b4 : decide (x 7 > 65535) = false := by simp; omega
          have b5 : decide (x 10 < 1) = false := by simp; omega
          have b6 : decide (x 10 > 1024) = false := by simp; omega
          have b7 : ∀ w, (binOp .neq 38 (.agg #[.int .i64 (x 16), .int .i64 (x 17), .int .i64 (x 18), .int .i64 (x 19)]) (.agg #[.int .i64 (col (x 16)), .int .i64 (col (x 17)), .int .i64 (col (x 18)), .int .i64 (col (x 19))])).run Try.prog w = .ok (.bool false) w := fun w => by rw [neq_vec, (col_eq _).2 o5, (col_eq _).2 o6, (col_eq _).2 o7, (col_eq _).2 o8]; simp
          have HOK2 := hid1 hok
          clear hok o1 o2 o3 o4 o5 o6 o7 o8 n1 n2
          repeat (go_big_quiet_step (first
            | (go_at_call 25; exact Calls.grow_same (within_fix _ 16384 (by decide) _))
            | (go_at_call 26; exact Calls.grow (colour_calls _ _ _ _ _))))
          refine wpQuiet_nil ?_
          rintro _ ⟨q, rfl⟩
          have HC := hid1 (ext_below q)
          obtain ⟨w3, hw3⟩ : ∃ w3, ext W q = w3 := ⟨_, rfl⟩
          rw [hw3] at HC ⊢
          clear hw3
          have HBZ := hid1 (HBW.out.trans (HC.out.mono (Nat.le_of_lt (heap_lt HBX.out))))
          have HBY := hid1 ((Fr.ofBelow HC.out).heap HBX.out (by simp))
          clear k7 k10 k16 k17 k18 k19 kp0 kp1  b1 b2 b3 b4 b5 b6 b7
          go_wp2
          go_roundw
          case rel => exact ⟨2, by omega, by go_num, (fun i hi => by rcases (show i < 1 ∨ i = 1 by omega) with h | rfl; exact HOK.out i h; exact HOK2.out), HBY.out, HBZ.out⟩
          case measure => simp [intOf]
        · have hck : chkTri x = 2 := by unfold chkTri; rw [if_neg (fun h => hok h.2.1)]
          have HCK := hid1 hck
          have hw : ((x 2 != clampTo (x 2) 16384) = true) ∨ ((x 2 != clampTo (x 2) 16384) = false ∧ (x 3 != clampTo (x 3) 16384) = true) ∨ ((x 2 != clampTo (x 2) 16384) = false ∧ (x 3 != clampTo (x 3) 16384) = false ∧ (decide (x 7 < 0) = true ∨ (decide (x 7 < 0) = false ∧ (decide (x 7 > 65535) = true ∨ (decide (x 7 > 65535) = false ∧ (decide (x 10 < 1) = true ∨ (decide (x 10 < 1) = false ∧ (decide (x 10 > 1024) = true ∨ (decide (x 10 > 1024) = false ∧ ∀ w, (binOp .neq 38 (.agg #[.int .i64 (x 16), .int .i64 (x 17), .int .i64 (x 18), .int .i64 (x 19)]) (.agg #[.int .i64 (col (x 16)), .int .i64 (col (x 17)), .int .i64 (col (x 18)), .int .i64 (col (x 19))])).run Try.prog w = .ok (.bool true) w))))))))) := by
            rw [n1, n2]
            by_cases h1 : Close (x 2)
            · by_cases h2 : Close (x 3)
              · right; right
                refine ⟨by simpa using h1, by simpa using h2, ?_⟩
                by_cases h3 : x 7 < 0
                · exact .inl (by simpa using h3)
                refine .inr ⟨by simp; omega, ?_⟩
                by_cases h4 : x 7 > 65535
                · exact .inl (by simpa using h4)
                refine .inr ⟨by simp; omega, ?_⟩
                by_cases h5 : x 10 < 1
                · exact .inl (by simpa using h5)
                refine .inr ⟨by simp; omega, ?_⟩
                by_cases h6 : x 10 > 1024
                · exact .inl (by simpa using h6)
                refine .inr ⟨by simp; omega, fun w => ?_⟩
                have hne : ¬ ([x 16, x 17, x 18, x 19] = [col (x 16), col (x 17), col (x 18), col (x 19)]) := fun h => by
                  simp only [List.cons.injEq, and_true] at h
                  refine hok ?_
                  unfold okC
                  simp only [Nat.mul_zero, Nat.zero_add, Nat.add_zero, Nat.reduceMul, Nat.reduceAdd]
                  exact ⟨h1, h2, by omega, by omega, (col_eq _).1 h.1.symm, (col_eq _).1 h.2.1.symm, (col_eq _).1 h.2.2.1.symm, (col_eq _).1 h.2.2.2.symm⟩
                rw [neq_vec, beq_eq_false_iff_ne.2 hne]; rfl
              · exact .inr (.inl ⟨by simpa using h1, by simpa using h2⟩)
            · exact .inl (by simpa using h1)
          obtain ⟨c1, hc1⟩ : ∃ c, (x 2 != clampTo (x 2) 16384) = c := ⟨_, rfl⟩
          obtain ⟨c2, hc2⟩ : ∃ c, (x 3 != clampTo (x 3) 16384) = c := ⟨_, rfl⟩
          obtain ⟨c3, hc3⟩ : ∃ c, decide (x 7 < 0) = c := ⟨_, rfl⟩
          obtain ⟨c4, hc4⟩ : ∃ c, decide (x 7 > 65535) = c := ⟨_, rfl⟩
          obtain ⟨c5, hc5⟩ : ∃ c, decide (x 10 < 1) = c := ⟨_, rfl⟩
          obtain ⟨c6, hc6⟩ : ∃ c, decide (x 10 > 1024) = c := ⟨_, rfl⟩
          rw [hc1, hc2, hc3, hc4, hc5, hc6] at hw
          clear n1 n2 hok hck
          rcases hw with rfl | ⟨rfl, rfl⟩ | ⟨rfl, rfl, rfl | ⟨rfl, rfl | ⟨rfl, rfl | ⟨rfl, rfl | ⟨rfl, b7⟩⟩⟩⟩⟩
          all_goals
            as_aux_lemma =>
              repeat (go_big_quiet_step (first
                | (go_at_call 25; exact Calls.grow_same (within_fix _ 16384 (by decide) _))
                | (go_at_call 26; exact Calls.grow (colour_calls _ _ _ _ _))))
              refine wpQuiet_nil ?_
              rintro _ ⟨q, rfl⟩
              have HC := hid1 (ext_below q)
              obtain ⟨w3, hw3⟩ : ∃ w3, ext W q = w3 := ⟨_, rfl⟩
              rw [hw3] at HC ⊢
              clear hw3
              have HBZ := hid1 (HBW.out.trans (HC.out.mono (Nat.le_of_lt (heap_lt HBX.out))))
              go_wp2
              go_ret
              rw [HCK.out, HBE.out]
              exact ⟨rfl, HBZ.out⟩
      · have e0 := cell_at HBOX.out 4
        have e1 := cell_at HBOX.out 5
        go_upto_region 5 with (fail)
        have hpt := heap_new wr (.cells #[.int .i64 (x 4), .int .i64 (x 5)] 33)
        have hbx := heap_keep HBOX.out (.cells #[.int .i64 (x 4), .int .i64 (x 5)] 33)
        have hbw := HB.out.alloc (Nat.le_of_lt (heap_lt HBOX.out)) (.cells #[.int .i64 (x 4), .int .i64 (x 5)] 33)
        obtain ⟨W, hW⟩ : ∃ W, wr.alloc (.cells #[.int .i64 (x 4), .int .i64 (x 5)] 33) = W := ⟨_, rfl⟩
        obtain ⟨P, hP⟩ : ∃ P, wr.heap.size = P := ⟨_, rfl⟩
        rw [hW] at hpt hbx hbw ⊢
        rw [hP] at hpt ⊢
        have HBW := hid1 hbw
        have HBX := hid1 hbx
        have k8 := fun q => ext_cell (cell_at hbx 8) q
        have k11 := fun q => ext_cell (cell_at hbx 11) q
        have k20 := fun q => ext_cell (cell_at hbx 20) q
        have k21 := fun q => ext_cell (cell_at hbx 21) q
        have k22 := fun q => ext_cell (cell_at hbx 22) q
        have k23 := fun q => ext_cell (cell_at hbx 23) q
        have kp0 := fun q => ext_cell (cell_at hpt 0) q
        have kp1 := fun q => ext_cell (cell_at hpt 1) q
        clear hW hP hpt hbx hbw e0 e1
        refine wp_region_grow (by kernel_rfl) (by kernel_rfl) ?_
        have n1 := near_eq (x 4)
        have n2 := near_eq (x 5)
        unfold near at n1 n2
        by_cases hok : okC x 2
        · have hok2 := hok
          unfold okC at hok2
          simp only [Nat.mul_zero, Nat.zero_add, Nat.add_zero, Nat.reduceMul, Nat.reduceAdd] at hok2
          obtain ⟨o1, o2, o3, o4, o5, o6, o7, o8⟩ := hok2
          have b1 : (x 4 != clampTo (x 4) 16384) = false := by rw [n1]; simpa using o1
          have b2 : (x 5 != clampTo (x 5) 16384) = false := by rw [n2]; simpa using o2
          have b3 : decide (x 8 < 0) = false := by simp; omega
          have b4 : decide (x 8 > 65535) = false := by simp; omega
          have b5 : decide (x 11 < 1) = false := by simp; omega
          have b6 : decide (x 11 > 1024) = false := by simp; omega
          have b7 : ∀ w, (binOp .neq 38 (.agg #[.int .i64 (x 20), .int .i64 (x 21), .int .i64 (x 22), .int .i64 (x 23)]) (.agg #[.int .i64 (col (x 20)), .int .i64 (col (x 21)), .int .i64 (col (x 22)), .int .i64 (col (x 23))])).run Try.prog w = .ok (.bool false) w := fun w => by rw [neq_vec, (col_eq _).2 o5, (col_eq _).2 o6, (col_eq _).2 o7, (col_eq _).2 o8]; simp
          have HOK2 := hid1 hok
          clear hok o1 o2 o3 o4 o5 o6 o7 o8 n1 n2
          repeat (go_big_quiet_step (first
            | (go_at_call 25; exact Calls.grow_same (within_fix _ 16384 (by decide) _))
            | (go_at_call 26; exact Calls.grow (colour_calls _ _ _ _ _))))
          refine wpQuiet_nil ?_
          rintro _ ⟨q, rfl⟩
          have HC := hid1 (ext_below q)
          obtain ⟨w3, hw3⟩ : ∃ w3, ext W q = w3 := ⟨_, rfl⟩
          rw [hw3] at HC ⊢
          clear hw3
          have HBZ := hid1 (HBW.out.trans (HC.out.mono (Nat.le_of_lt (heap_lt HBX.out))))
          have HBY := hid1 ((Fr.ofBelow HC.out).heap HBX.out (by simp))
          clear k8 k11 k20 k21 k22 k23 kp0 kp1  b1 b2 b3 b4 b5 b6 b7
          go_wp2
          go_roundw
          case rel => exact ⟨3, by omega, by go_num, (fun i hi => by rcases (show i < 2 ∨ i = 2 by omega) with h | rfl; exact HOK.out i h; exact HOK2.out), HBY.out, HBZ.out⟩
          case measure => simp [intOf]
        · have hck : chkTri x = 2 := by unfold chkTri; rw [if_neg (fun h => hok h.2.2)]
          have HCK := hid1 hck
          have hw : ((x 4 != clampTo (x 4) 16384) = true) ∨ ((x 4 != clampTo (x 4) 16384) = false ∧ (x 5 != clampTo (x 5) 16384) = true) ∨ ((x 4 != clampTo (x 4) 16384) = false ∧ (x 5 != clampTo (x 5) 16384) = false ∧ (decide (x 8 < 0) = true ∨ (decide (x 8 < 0) = false ∧ (decide (x 8 > 65535) = true ∨ (decide (x 8 > 65535) = false ∧ (decide (x 11 < 1) = true ∨ (decide (x 11 < 1) = false ∧ (decide (x 11 > 1024) = true ∨ (decide (x 11 > 1024) = false ∧ ∀ w, (binOp .neq 38 (.agg #[.int .i64 (x 20), .int .i64 (x 21), .int .i64 (x 22), .int .i64 (x 23)]) (.agg #[.int .i64 (col (x 20)), .int .i64 (col (x 21)), .int .i64 (col (x 22)), .int .i64 (col (x 23))])).run Try.prog w = .ok (.bool true) w))))))))) := by
            rw [n1, n2]
            by_cases h1 : Close (x 4)
            · by_cases h2 : Close (x 5)
              · right; right
                refine ⟨by simpa using h1, by simpa using h2, ?_⟩
                by_cases h3 : x 8 < 0
                · exact .inl (by simpa using h3)
                refine .inr ⟨by simp; omega, ?_⟩
                by_cases h4 : x 8 > 65535
                · exact .inl (by simpa using h4)
                refine .inr ⟨by simp; omega, ?_⟩
                by_cases h5 : x 11 < 1
                · exact .inl (by simpa using h5)
                refine .inr ⟨by simp; omega, ?_⟩
                by_cases h6 : x 11 > 1024
                · exact .inl (by simpa using h6)
                refine .inr ⟨by simp; omega, fun w => ?_⟩
                have hne : ¬ ([x 20, x 21, x 22, x 23] = [col (x 20), col (x 21), col (x 22), col (x 23)]) := fun h => by
                  simp only [List.cons.injEq, and_true] at h
                  refine hok ?_
                  unfold okC
                  simp only [Nat.mul_zero, Nat.zero_add, Nat.add_zero, Nat.reduceMul, Nat.reduceAdd]
                  exact ⟨h1, h2, by omega, by omega, (col_eq _).1 h.1.symm, (col_eq _).1 h.2.1.symm, (col_eq _).1 h.2.2.1.symm, (col_eq _).1 h.2.2.2.symm⟩
                rw [neq_vec, beq_eq_false_iff_ne.2 hne]; rfl
              · exact .inr (.inl ⟨by simpa using h1, by simpa using h2⟩)
            · exact .inl (by simpa using h1)
          obtain ⟨c1, hc1⟩ : ∃ c, (x 4 != clampTo (x 4) 16384) = c := ⟨_, rfl⟩
          obtain ⟨c2, hc2⟩ : ∃ c, (x 5 != clampTo (x 5) 16384) = c := ⟨_, rfl⟩
          obtain ⟨c3, hc3⟩ : ∃ c, decide (x 8 < 0) = c := ⟨_, rfl⟩
          obtain ⟨c4, hc4⟩ : ∃ c, decide (x 8 > 65535) = c := ⟨_, rfl⟩
          obtain ⟨c5, hc5⟩ : ∃ c, decide (x 11 < 1) = c := ⟨_, rfl⟩
          obtain ⟨c6, hc6⟩ : ∃ c, decide (x 11 > 1024) = c := ⟨_, rfl⟩
          rw [hc1, hc2, hc3, hc4, hc5, hc6] at hw
          clear n1 n2 hok hck
          rcases hw with rfl | ⟨rfl, rfl⟩ | ⟨rfl, rfl, rfl | ⟨rfl, rfl | ⟨rfl, rfl | ⟨rfl, rfl | ⟨rfl, b7⟩⟩⟩⟩⟩
          all_goals
            as_aux_lemma =>
              repeat (go_big_quiet_step (first
                | (go_at_call 25; exact Calls.grow_same (within_fix _ 16384 (by decide) _))
                | (go_at_call 26; exact Calls.grow (colour_calls _ _ _ _ _))))
              refine wpQuiet_nil ?_
              rintro _ ⟨q, rfl⟩
              have HC := hid1 (ext_below q)
              obtain ⟨w3, hw3⟩ : ∃ w3, ext W q = w3 := ⟨_, rfl⟩
              rw [hw3] at HC ⊢
              clear hw3
              have HBZ := hid1 (HBW.out.trans (HC.out.mono (Nat.le_of_lt (heap_lt HBX.out))))
              go_wp2
              go_ret
              rw [HCK.out, HBE.out]
              exact ⟨rfl, HBZ.out⟩
    · obtain rfl : j = 3 := by omega
      have hlt2 : ¬ ((3 : Nat) : Int) < 3 := by omega
      have h0 := HOK.out 0 (by omega)
      have h1 := HOK.out 1 (by omega)
      have h2 := HOK.out 2 (by omega)
      have hck : chkTri x = if triArea x ≤ 0 then 4 else 0 := by unfold chkTri; rw [if_pos ⟨h0, h1, h2⟩]
      have HC := hid1 (area_calls h0.1 h0.2.1 h1.1 h1.2.1 h2.1 h2.2.1)
      have HAR : Hid (side (x 0) (x 1) (x 2) (x 3) (x 4) (x 5) = triArea x) := rfl
      have HCK := hid1 hck
      have k0 := cell_at HBOX.out 0
      have k1 := cell_at HBOX.out 1
      have k2 := cell_at HBOX.out 2
      have k3 := cell_at HBOX.out 3
      have k4 := cell_at HBOX.out 4
      have k5 := cell_at HBOX.out 5
      obtain ⟨ar, har⟩ : ∃ ar, triArea x = ar := ⟨_, rfl⟩
      rw [har] at HAR HCK
      simp only [Nat.mul_zero, Nat.zero_add, Nat.add_zero, Nat.reduceMul, Nat.reduceAdd] at HC
      clear h0 h1 h2 hck har hlt
      by_cases ha : ar ≤ 0
      · have d1 : decide (ar ≤ 0) = true := by simp; omega
        rw [if_pos ha] at HCK
        clear ha
        go_wp2_with (go_at_call 27; refine (HC.out _).mono ?_; rintro e w3 ⟨rfl, hb3⟩; rw [HAR.out])
        go_ret
        rw [HCK.out, HBE.out]
        exact ⟨rfl, HB.out.trans (hb3.mono (Nat.le_of_lt (heap_lt HBOX.out)))⟩
      · have d1 : decide (ar ≤ 0) = false := by simp; omega
        rw [if_neg ha] at HCK
        clear ha
        go_wp2_with (go_at_call 27; refine (HC.out _).mono ?_; rintro e w3 ⟨rfl, hb3⟩; rw [HAR.out])
        go_ret
        rw [HCK.out, HBE.out]
        exact ⟨rfl, HB.out.trans (hb3.mono (Nat.le_of_lt (heap_lt HBOX.out)))⟩
end Go.Proofs.Ytmholpploaecgaa
