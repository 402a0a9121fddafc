/-
  The law's Record: of a triangle by small numbers, or none.
-/
import Derived.Test.YtmholpploaecgaaSmall2
import Derived.Test.YtmholpploaecgaaHeldBy2
namespace Go.Proofs.Ytmholpploaecgaa
open Go.RowKit
set_option linter.unusedVariables false
set_option linter.unusedSimpArgs false

theorem smN_chk {x : Nat → Int} (h : ∀ n, n < 24 → smN n (x n)) (ha : 0 < triArea x) : chkTri x = 0 := by
  have g := fun n (hn : n < 24) => h n hn
  unfold smN at g
  have k : okC x 0 ∧ okC x 1 ∧ okC x 2 := by
    refine ⟨?_, ?_, ?_⟩
    · have a0 := g 0 (by omega)
      have a1 := g 1 (by omega)
      have a2 := g 6 (by omega)
      have a3 := g 9 (by omega)
      have a4 := g 12 (by omega)
      have a5 := g 13 (by omega)
      have a6 := g 14 (by omega)
      have a7 := g 15 (by omega)
      simp at a0 a1 a2 a3 a4 a5 a6 a7
      exact ⟨by unfold Close; simp; omega, by unfold Close; simp; omega, by simp; omega, by simp; omega, by simp; omega, by simp; omega, by simp; omega, by simp; omega⟩
    · have a0 := g 2 (by omega)
      have a1 := g 3 (by omega)
      have a2 := g 7 (by omega)
      have a3 := g 10 (by omega)
      have a4 := g 16 (by omega)
      have a5 := g 17 (by omega)
      have a6 := g 18 (by omega)
      have a7 := g 19 (by omega)
      simp at a0 a1 a2 a3 a4 a5 a6 a7
      exact ⟨by unfold Close; simp; omega, by unfold Close; simp; omega, by simp; omega, by simp; omega, by simp; omega, by simp; omega, by simp; omega, by simp; omega⟩
    · have a0 := g 4 (by omega)
      have a1 := g 5 (by omega)
      have a2 := g 8 (by omega)
      have a3 := g 11 (by omega)
      have a4 := g 20 (by omega)
      have a5 := g 21 (by omega)
      have a6 := g 22 (by omega)
      have a7 := g 23 (by omega)
      simp at a0 a1 a2 a3 a4 a5 a6 a7
      exact ⟨by unfold Close; simp; omega, by unfold Close; simp; omega, by simp; omega, by simp; omega, by simp; omega, by simp; omega, by simp; omega, by simp; omega⟩
  unfold chkTri
  rw [if_pos k, if_neg (by omega)]
theorem chkRec_true {r : Int} {x : Nat → Int} (h : 0 ≤ r ∧ r ≤ 31) : chkRec r true x = chkTri x := by unfold chkRec; rw [if_neg (by omega), if_pos rfl]
/-- What Record answers. -/
def RecAns (r : Int) (some' : Bool) (w : World) (e : Ending) (w' : World) : Prop := ∃ s x, e = .returned (.agg (recRow r s x)) ∧ chkRec r s x = 0 ∧ (s = true → ∀ n, n < 24 → smN n (x n)) ∧ (s = false → x = fun _ => 0) ∧ (s = true → some' = true) ∧ Below w.heap.size w w'
set_option maxRecDepth 10000 in
set_option maxHeartbeats 4000000 in
theorem record_calls {p : Nat → Int} (hp : SmOk p) {d : Int} (hd : 0 ≤ d ∧ d ≤ 255) (some' : Bool) (w : World) :
    Calls Try.prog 8 #[.agg (smRow p), .int .u8 d, .bool some'] w fun e w' => RecAns (d % 32) some' w e w' := by
  obtain ⟨r, hr⟩ : ∃ r, d.tmod 32 = r := ⟨_, rfl⟩
  have hrd : d % 32 = r := by rw [← hr, Int.tmod_eq_emod_of_nonneg (by omega)]
  rw [hrd]
  have HR32 := hid1 (show 0 ≤ r ∧ r ≤ 31 by omega)
  have hr2 := HR32.out
  have n1 : IntKind.u8.wrap r = r := IntWalk.u8_in _ (by omega)
  have n2 : IntKind.i64.wrap r = r := IntWalk.i64_in _ (by omega)
  have HC := hid1 (fun w => small13_calls hp w)
  have h0 := heap_keep (heap_keep (heap_new w (.cells (smRow p) 31)) (.cells (recRow 0 false (fun _ => 0)) 44)) (.cells (recRow 0 false (fun _ => 0)) 44)
  have h1 := heap_keep (heap_new (w.alloc (.cells (smRow p) 31)) (.cells (recRow 0 false (fun _ => 0)) 44)) (.cells (recRow 0 false (fun _ => 0)) 44)
  have h2 := heap_new ((w.alloc (.cells (smRow p) 31)).alloc (.cells (recRow 0 false (fun _ => 0)) 44)) (.cells (recRow 0 false (fun _ => 0)) 44)
  have hb := (((Below.refl w.heap.size w).alloc (Nat.le_refl _) (.cells (smRow p) 31)).alloc (by simp) (.cells (recRow 0 false (fun _ => 0)) 44)).alloc (by simp; omega) (.cells (recRow 0 false (fun _ => 0)) 44)
  obtain ⟨B, hB⟩ : ∃ B, w.heap.size = B := ⟨_, rfl⟩
  simp only [World.size_alloc] at h1 h2
  rw [hB] at h0 h1 h2 hb
  have H0 := hid1 h0
  have H1 := hid1 h1
  have H2 := hid1 h2
  have HB0 := hid1 hb
  have HBE := hid1 hB
  clear h0 h1 h2 hb hp hrd
  go_enter Try.func8, Try.ntmps8
  go_upto_region 3 with (first 
    | (refine wpList_store_row (w := ((w.alloc (.cells (smRow p) 31)).alloc (.cells (recRow 0 false (fun _ => 0)) 44)).alloc (.cells (recRow 0 false (fun _ => 0)) 44)) rfl 44 (.tmp 7) (.tmp 13) rfl (B + 2) (recRow r false (fun _ => 0)) rfl rfl _ _ H2.out (Try.infoRecRow _ _ _) rfl (recRow_one _ _ _) ?_; have hf := fr_row (((w.alloc (.cells (smRow p) 31)).alloc (.cells (recRow 0 false (fun _ => 0)) 44)).alloc (.cells (recRow 0 false (fun _ => 0)) 44)) (B + 2) (recRow r false (fun _ => 0)); have hs := hf.heap H0.out (fun hm => by have := List.mem_singleton.1 hm; omega); have hz := hf.heap H1.out (fun hm => by have := List.mem_singleton.1 hm; omega); have hr3 := setRow_heap _ _ _ (recRow r false (fun _ => 0)) _ _ H2.out; have hb := Fr.below HB0.out hf (fun k hk => by have := List.mem_singleton.1 hk; omega) (by rw [← HBE.out]; exact HB0.out.size); obtain ⟨W, hW⟩ : ∃ W, (((w.alloc (.cells (smRow p) 31)).alloc (.cells (recRow 0 false (fun _ => 0)) 44)).alloc (.cells (recRow 0 false (fun _ => 0)) 44)).setRow (B + 2) (recRow r false (fun _ => 0)) = W := ⟨_, rfl⟩; rw [hW] at hs hz hr3 hb ⊢; have HS := hid1 hs; have HZ := hid1 hz; have HR := hid1 hr3; have HB := hid1 hb; clear hs hz hr3 hb hf hW)
    | (refine wpList_load_row rfl 31 (.tmp 3) rfl B rfl _ (smRow p) _ _ HS.out Try.underlying31 rfl (Try.infoSm _) ?_)
    | (go_at_call 21; refine (HC.out _).mono ?_; rintro e w1 ⟨x, ok, rfl, hall, hok, hb1⟩; have HALL := hid1 hall; have HOK := hid1 hok; have HS1 := hid1 (heap_keep ((Fr.ofBelow hb1).heap HS.out (by simp)) (.cells (triRow (fun _ => 0)) 41)); have HZ1 := hid1 (heap_keep ((Fr.ofBelow hb1).heap HZ.out (by simp)) (.cells (triRow (fun _ => 0)) 41)); have HR1 := hid1 (heap_keep ((Fr.ofBelow hb1).heap HR.out (by simp)) (.cells (triRow (fun _ => 0)) 41)); have HT1 := hid1 (heap_new w1 (.cells (triRow (fun _ => 0)) 41)); have hbl : B ≤ W.heap.size := Nat.le_of_lt (heap_lt HS.out); have HB1 := hid1 ((HB.out.trans (hb1.mono hbl)).alloc (Nat.le_trans hbl hb1.size) (.cells (triRow (fun _ => 0)) 41)); have HL1 := hid1 (show B + 2 < w1.heap.size from heap_lt ((Fr.ofBelow hb1).heap HR.out (by simp))); clear hall hok hb1 hbl)
    | (refine wpList_store_row (w := w1.alloc (.cells (triRow (fun _ => 0)) 41)) rfl 41 (.tmp 8) (.tmp 17) rfl w1.heap.size (triRow x) rfl rfl _ _ HT1.out (Try.infoTri _) rfl (triRow_one _) ?_; have hf := fr_row (w1.alloc (.cells (triRow (fun _ => 0)) 41)) w1.heap.size (triRow x); have hs := hf.heap HS1.out (fun hm => by have := List.mem_singleton.1 hm; have := HL1.out; omega); have hz := hf.heap HZ1.out (fun hm => by have := List.mem_singleton.1 hm; have := HL1.out; omega); have hr3 := hf.heap HR1.out (fun hm => by have := List.mem_singleton.1 hm; have := HL1.out; omega); have ht := setRow_heap _ _ _ (triRow x) _ _ HT1.out; have hb := Fr.below HB1.out hf (fun k hk => by have := List.mem_singleton.1 hk; have := HL1.out; omega) (Nat.le_of_lt (heap_lt HS1.out)); obtain ⟨T, hT⟩ : ∃ T, w1.heap.size = T := ⟨_, rfl⟩; rw [hT] at hs hz hr3 ht hb HL1 ⊢; obtain ⟨V, hV⟩ : ∃ V, (w1.alloc (.cells (triRow (fun _ => 0)) 41)).setRow T (triRow x) = V := ⟨_, rfl⟩; rw [hV] at hs hz hr3 ht hb ⊢; have HSV := hid1 hs; have HZV := hid1 hz; have HRV := hid1 hr3; have HTV := hid1 ht; have HBV := hid1 hb; clear hs hz hr3 ht hb hf hV hT HS1 HZ1 HR1 HT1 HB1))
  cases ok with
  | false =>
    cases some' with
    | false =>
      go_wp2_with (first
        | (refine wpList_load_row rfl 44 (.tmp 7) rfl (B + 2) rfl _ (recRow r false (fun _ => 0)) _ _ HRV.out Try.underlying44 rfl (Try.infoRecRow _ _ _) ?_)
        | (refine wpList_store_row rfl 44 (.tmp 6) (.tmp 26) rfl (B + 1) (recRow r false (fun _ => 0)) rfl rfl _ _ HZV.out (Try.infoRecRow _ _ _) rfl (recRow_one _ _ _) ?_))
      refine bodyPost_ret (v := .agg (recRow r false (fun _ => 0))) (results_cell_row (p := 6) (ty := 44) rfl _ _ (B + 1) _ (recRow r false (fun _ => 0)) _ _ rfl (setRow_heap _ _ _ _ _ _ HZV.out) Try.underlying44 rfl (Try.infoRecRow _ _ _)) rfl ⟨_, _, rfl, by unfold chkRec; rw [if_neg (by omega), if_neg (by decide), if_pos (show zero24 (fun _ => 0) from same24_refl _)], (fun h => by cases h), (fun _ => rfl), (fun h => by cases h), ?_⟩
      rw [HBE.out]
      exact Fr.below HBV.out (fr_row _ _ _) (fun k hk => by have := List.mem_singleton.1 hk; omega) (Nat.le_of_lt (Nat.lt_trans (Nat.lt_succ_self B) (heap_lt HZV.out)))
    | true =>
      go_wp2_with (first
        | (refine wpList_load_row rfl 44 (.tmp 7) rfl (B + 2) rfl _ (recRow r false (fun _ => 0)) _ _ HRV.out Try.underlying44 rfl (Try.infoRecRow _ _ _) ?_)
        | (refine wpList_store_row rfl 44 (.tmp 6) (.tmp 26) rfl (B + 1) (recRow r false (fun _ => 0)) rfl rfl _ _ HZV.out (Try.infoRecRow _ _ _) rfl (recRow_one _ _ _) ?_))
      refine bodyPost_ret (v := .agg (recRow r false (fun _ => 0))) (results_cell_row (p := 6) (ty := 44) rfl _ _ (B + 1) _ (recRow r false (fun _ => 0)) _ _ rfl (setRow_heap _ _ _ _ _ _ HZV.out) Try.underlying44 rfl (Try.infoRecRow _ _ _)) rfl ⟨_, _, rfl, by unfold chkRec; rw [if_neg (by omega), if_neg (by decide), if_pos (show zero24 (fun _ => 0) from same24_refl _)], (fun h => by cases h), (fun _ => rfl), (fun h => by cases h), ?_⟩
      rw [HBE.out]
      exact Fr.below HBV.out (fr_row _ _ _) (fun k hk => by have := List.mem_singleton.1 hk; omega) (Nat.le_of_lt (Nat.lt_trans (Nat.lt_succ_self B) (heap_lt HZV.out)))
  | true =>
    cases some' with
    | false =>
      go_wp2_with (first
        | (refine wpList_load_row rfl 44 (.tmp 7) rfl (B + 2) rfl _ (recRow r false (fun _ => 0)) _ _ HRV.out Try.underlying44 rfl (Try.infoRecRow _ _ _) ?_)
        | (refine wpList_store_row rfl 44 (.tmp 6) (.tmp 26) rfl (B + 1) (recRow r false (fun _ => 0)) rfl rfl _ _ HZV.out (Try.infoRecRow _ _ _) rfl (recRow_one _ _ _) ?_))
      refine bodyPost_ret (v := .agg (recRow r false (fun _ => 0))) (results_cell_row (p := 6) (ty := 44) rfl _ _ (B + 1) _ (recRow r false (fun _ => 0)) _ _ rfl (setRow_heap _ _ _ _ _ _ HZV.out) Try.underlying44 rfl (Try.infoRecRow _ _ _)) rfl ⟨_, _, rfl, by unfold chkRec; rw [if_neg (by omega), if_neg (by decide), if_pos (show zero24 (fun _ => 0) from same24_refl _)], (fun h => by cases h), (fun _ => rfl), (fun h => by cases h), ?_⟩
      rw [HBE.out]
      exact Fr.below HBV.out (fr_row _ _ _) (fun k hk => by have := List.mem_singleton.1 hk; omega) (Nat.le_of_lt (Nat.lt_trans (Nat.lt_succ_self B) (heap_lt HZV.out)))
    | true =>
      go_upto_region 4 with fail
      have hf1 := (Fr.refl [B + 2] V.drew).set ⟨B + 2, 1, none⟩ (.inl (by simp)) (.bool true)
      have ht0 : V.drew.heap[T]? = some (.cells (triRow x) 41 (0, 0)) := HTV.out
      have ht1 := hf1.heap ht0 (fun hm => by have := List.mem_singleton.1 hm; have := HL1.out; omega)
      have hr0 : V.drew.heap[B + 2]? = some (.cells (recRow r false (fun _ => 0)) 44 (0, 0)) := HRV.out
      have hr1 := heap_set (a := ⟨B + 2, 1, none⟩) hr0 rfl (.bool true)
      have c1 : V.drew.cell? ⟨B + 2, 1, none⟩ = some (.bool false) := cell_at hr0 1
      have z1 := free_at hr0 1
      have HF1 := hid1 hf1
      have HT0 := hid1 ht0
      have HT1 := hid1 ht1
      have HR1 := hid1 (show (V.drew.setCell ⟨B + 2, 1, none⟩ (.bool true)).heap[B + 2]? = some (.cells (recRow r true (fun _ => 0)) 44 (0, 0)) from hr1)
      clear hf1 ht0 ht1 hr0 hr1
      refine wp_region_held (S := fun w' => w'.heap[T]? = some (.cells (triRow x) 41 (0, 0))) (by kernel_rfl) ?_
      change wpAnyH _ _ _ _ _ 5 (Array.replicate 5 false) _ V.drew
      refine held_load_row (i := 0) rfl rfl (some 23) rfl 41 (.tmp 8) rfl (by kernel_rfl) (by kernel_rfl) (by kernel_rfl) (fun _ _ _ _ h => h) T rfl 41 (triRow x) (0, 0) _ (fun _ h => h) Try.underlying41 rfl (Try.infoTri _) HT0.out ?_
      simp only [Act.put, List.setIfInBounds_toArray, List.set_cons_succ, List.set_cons_zero]
      refine held_take (i := 1) rfl rfl (some 24) rfl (.pointer (some ⟨B + 2, 1, none⟩)) (by kernel_rfl) (by kernel_rfl) (by kernel_rfl) (fun _ _ _ _ h => h) HT0.out (fun w' hw => by go_simp) ?_
      simp only [Act.put, List.setIfInBounds_toArray, List.set_cons_succ, List.set_cons_zero]
      refine held_do (i := 2) rfl rfl none rfl (by kernel_rfl) (V.drew.setCell ⟨B + 2, 1, none⟩ (.bool true)) (by go_simp) HT1.out ?_
      simp only [Act.put, List.setIfInBounds_toArray, List.set_cons_succ, List.set_cons_zero]
      refine held_take (i := 3) rfl rfl (some 25) rfl (.pointer (some ⟨B + 2, 2, none⟩)) (by kernel_rfl) (by kernel_rfl) (by kernel_rfl) (fun _ _ _ _ h => h) HT1.out (fun w' hw => by go_simp) ?_
      simp only [Act.put, List.setIfInBounds_toArray, List.set_cons_succ, List.set_cons_zero]
      refine held_store_part (i := 4) rfl rfl none rfl 41 (.tmp 25) (.tmp 23) rfl (by kernel_rfl) (B + 2) 2 (triRow x) rfl rfl _ _ (recRow r true x) HR1.out (Try.infoTri _) (show 2 + 24 ≤ 26 by decide) (triRow_one _) rfl ((fr_row _ (B + 2) (recRow r true x)).heap HT1.out (fun hm => by have := List.mem_singleton.1 hm; have := HL1.out; omega)) ?_
      simp only [Act.put, List.setIfInBounds_toArray, List.set_cons_succ, List.set_cons_zero]
      refine wpAnyH_done (by kernel_rfl) ?_ _
      have hq := setRow_heap _ _ _ (recRow r true x) _ _ HR1.out
      have hfq := HF1.out.trans (fr_row _ (B + 2) (recRow r true x)) (fun k hk => .inl hk)
      have hz2 := hfq.heap (HZV.out : V.drew.heap[B + 1]? = _) (fun hm => by have := List.mem_singleton.1 hm; omega)
      have hb2 := Fr.below (HBV.out.trans (below_draws B V 1)) hfq (fun k hk => by have := List.mem_singleton.1 hk; omega) (Nat.le_of_lt (heap_lt HSV.out))
      obtain ⟨U, hU⟩ : ∃ U, (V.drew.setCell ⟨B + 2, 1, none⟩ (.bool true)).setRow (B + 2) (recRow r true x) = U := ⟨_, rfl⟩
      rw [hU] at hq hz2 hb2 ⊢
      have HRU := hid1 hq
      have HZU := hid1 hz2
      have HBU := hid1 hb2
      clear hq hfq hz2 hb2 hU c1 z1
      go_wp2_with (first
        | (refine wpList_load_row rfl 44 (.tmp 7) rfl (B + 2) rfl _ (recRow r true x) _ _ HRU.out Try.underlying44 rfl (Try.infoRecRow _ _ _) ?_)
        | (refine wpList_store_row rfl 44 (.tmp 6) (.tmp 26) rfl (B + 1) (recRow r true x) rfl rfl _ _ HZU.out (Try.infoRecRow _ _ _) rfl (recRow_one _ _ _) ?_))
      refine bodyPost_ret (v := .agg (recRow r true x)) (results_cell_row (p := 6) (ty := 44) rfl _ _ (B + 1) _ (recRow r true x) _ _ rfl (setRow_heap _ _ _ _ _ _ HZU.out) Try.underlying44 rfl (Try.infoRecRow _ _ _)) rfl ⟨_, _, rfl, by rw [chkRec_true HR32.out]; exact smN_chk HALL.out (by simpa using HOK.out.symm), (fun _ => HALL.out), (fun h => by cases h), (fun _ => rfl), ?_⟩
      rw [HBE.out]
      exact Fr.below HBU.out (fr_row _ _ _) (fun k hk => by have := List.mem_singleton.1 hk; omega) (Nat.le_of_lt (Nat.lt_trans (Nat.lt_succ_self B) (heap_lt HZU.out)))
end Go.Proofs.Ytmholpploaecgaa
