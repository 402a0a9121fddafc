/-
  A record, taken out of bytes: Take's walk.
-/
import Derived.Test.YtmholpploaecgaaRecTakeP
import Derived.Test.YtmholpploaecgaaRecPut2
import Derived.Test.YtmholpploaecgaaTakeAt
import Derived.StillTailTactics
import Derived.Laws.CopyOwn
namespace Go.Proofs.Ytmholpploaecgaa
open Go.RowKit
set_option linter.unusedVariables false

/-- What Take answers. -/
def gotA (bs : List UInt8) (s : Rs) : Int := if (tkEnd bs s).err = 0 then tkDraw bs s else 0
def gotS (bs : List UInt8) (s : Rs) : Bool := if (tkEnd bs s).err = 0 then tkSome bs s else false
def gotX (bs : List UInt8) (s : Rs) : Nat → Int := if (tkEnd bs s).err = 0 then tkXs bs s else fun _ => 0
/-- Corner i is what q says. -/
def upC (f : Nat → Nat → Int) (i : Nat) (q : Nat → Int) : Nat → Nat → Int := fun j k => if j = i then q k else f j k
/-- The corners ahead of i, taken. -/
def tkF (bs : List UInt8) (s : Rs) (i : Nat) : Nat → Nat → Int := fun j k => if j < i then (tkCor bs s (j + 1)).1 k else 0
theorem tkF_succ (bs : List UInt8) (s : Rs) (i : Nat) : tkF bs s (i + 1) = upC (tkF bs s i) i (tkCor bs s (i + 1)).1 := by
  funext j k
  show (if j < i + 1 then (tkCor bs s (j + 1)).1 k else 0) = if j = i then (tkCor bs s (i + 1)).1 k else if j < i then (tkCor bs s (j + 1)).1 k else 0
  by_cases h : j = i
  · subst h; rw [if_pos (by omega), if_pos rfl]
  · rw [if_neg h]
    by_cases h2 : j < i
    · rw [if_pos h2, if_pos (by omega)]
    · rw [if_neg h2, if_neg (by omega)]
theorem set_8 (q : Nat → Int) {k : Nat} (hk : k < 8) (n : Int) : (#[.int .i64 (q 0), .int .i64 (q 1), .int .i64 (q 2), .int .i64 (q 3), .int .i64 (q 4), .int .i64 (q 5), .int .i64 (q 6), .int .i64 (q 7)] : Array Value).setIfInBounds k (.int .i64 (q k + n)) = #[.int .i64 (if 0 = k then q k + n else q 0), .int .i64 (if 1 = k then q k + n else q 1), .int .i64 (if 2 = k then q k + n else q 2), .int .i64 (if 3 = k then q k + n else q 3), .int .i64 (if 4 = k then q k + n else q 4), .int .i64 (if 5 = k then q k + n else q 5), .int .i64 (if 6 = k then q k + n else q 6), .int .i64 (if 7 = k then q k + n else q 7)] := by
  rcases (show k = 0 ∨ k = 1 ∨ k = 2 ∨ k = 3 ∨ k = 4 ∨ k = 5 ∨ k = 6 ∨ k = 7 by omega) with rfl | rfl | rfl | rfl | rfl | rfl | rfl | rfl <;> rfl

/-- A record's cells. -/
def recRow (a : Int) (s : Bool) (x : Nat → Int) : Array Value := #[.int .i64 a, .bool s, .int .i64 (x 0), .int .i64 (x 1), .int .i64 (x 2), .int .i64 (x 3), .int .i64 (x 4), .int .i64 (x 5), .int .i64 (x 6), .int .i64 (x 7), .int .i64 (x 8), .int .i64 (x 9), .int .i64 (x 10), .int .i64 (x 11), .int .i64 (x 12), .int .i64 (x 13), .int .i64 (x 14), .int .i64 (x 15), .int .i64 (x 16), .int .i64 (x 17), .int .i64 (x 18), .int .i64 (x 19), .int .i64 (x 20), .int .i64 (x 21), .int .i64 (x 22), .int .i64 (x 23)]
theorem Try.infoRecRow (a : Int) (s : Bool) (x : Nat → Int) : (Try.prog.info? 44).map (·.size) = some (recRow a s x).size := Try.infoRec
theorem recRow_one (a : Int) (s : Bool) (x : Nat → Int) : (recRow a s x).all (·.oneCell') = true := by simp [recRow, Value.oneCell']
theorem recchk_row (a : Int) (s : Bool) (x : Nat → Int) (w : World) : Calls Try.prog 11 #[.agg (recRow a s x)] w fun e w' => e = .returned (.int .i64 (chkRec a s x)) ∧ Below w.heap.size w w' := recchk_calls a s x w
/-- What is behind the reading, and what then is answered. -/
structure Ends (bs : List UInt8) (s : Rs) (a : Int) (sm : Bool) (x : Nat → Int) (s2 : Rs) : Prop where
  bad : s2.err ≠ 0 → recRow (gotA bs s) (gotS bs s) (gotX bs s) = recRow 0 false (fun _ => 0) ∧ tkEnd bs s = s2
  no : s2.err = 0 → chkRec a sm x ≠ 0 → recRow (gotA bs s) (gotS bs s) (gotX bs s) = recRow 0 false (fun _ => 0) ∧ tkEnd bs s = rFail s2 (chkRec a sm x)
  ok : s2.err = 0 → chkRec a sm x = 0 → recRow (gotA bs s) (gotS bs s) (gotX bs s) = recRow a sm x ∧ tkEnd bs s = s2
theorem ends_of {bs : List UInt8} {s : Rs} {a : Int} {sm : Bool} {x : Nat → Int} {s2 : Rs} (ha : tkDraw bs s = a) (hs : tkSome bs s = sm) (hx : recRow a sm (tkXs bs s) = recRow a sm x) (hc : chkRec a sm (tkXs bs s) = chkRec a sm x) (h2 : tkRs bs s = s2) : Ends bs s a sm x s2 := by
  have e : tkEnd bs s = if s2.err = 0 then (if chkRec a sm x ≠ 0 then rFail s2 (chkRec a sm x) else s2) else s2 := by unfold tkEnd; rw [ha, hs, h2, hc]
  refine ⟨fun h => ?_, fun h h3 => ?_, fun h h3 => ?_⟩
  · rw [if_neg h] at e
    refine ⟨?_, e⟩
    unfold gotA gotS gotX; rw [e, if_neg h, if_neg h, if_neg h]
  · rw [if_pos h, if_pos h3] at e
    have : (rFail s2 (chkRec a sm x)).err ≠ 0 := by unfold rFail; rw [if_pos h]; exact h3
    refine ⟨?_, e⟩
    unfold gotA gotS gotX; rw [e, if_neg this, if_neg this, if_neg this]
  · rw [if_pos h, if_neg (by simpa using h3)] at e
    refine ⟨?_, e⟩
    unfold gotA gotS gotX; rw [e, if_pos h, if_pos h, if_pos h, ha, hs, hx]
set_option maxRecDepth 10000 in
set_option maxHeartbeats 4000000 in
theorem rectake_none {w : World} {g : Nat} {S : List Nat} {bs : List UInt8} {s : Rs} (h : Rd w g S bs s) (hS : ∀ k ∈ S, k < w.heap.size) (hev : tkSome bs s = false) :
    Calls Try.prog 17 #[.pointer (some ⟨g, 0, none⟩)] w fun e w' => e = .returned (.agg (recRow (gotA bs s) (gotS bs s) (gotX bs s))) ∧ Rd w' g S bs (tkEnd bs s) ∧ Fr [g] w w' := by
  obtain ⟨n, s1, hc⟩ : ∃ n s1, rCount bs s 63 = (n, s1) := ⟨_, _, rfl⟩
  have HC := hid1 hc
  obtain ⟨a, hn⟩ : ∃ a, n = 2 * a := ⟨n / 2, by unfold tkSome at hev; rw [hc] at hev; simp at hev; omega⟩
  have HE := hid1 (show Ends bs s (a : Int) false (fun _ => 0) s1 from ends_of (by unfold tkDraw; rw [hc]; show ((n / 2 : Nat) : Int) = _; omega) hev (by unfold tkXs; rw [if_neg (by rw [hev]; decide)]) (by unfold tkXs; rw [if_neg (by rw [hev]; decide)]) (by unfold tkRs; rw [if_neg (by rw [hev]; decide), hc]))
  have hle : (n : Int) ≤ 63 := by have := count_in bs s 63; rw [hc] at this; have h2 : (n : Int) ≤ max 63 0 := this; omega
  have n1 : ((n : Nat) : Int) / 2 = (a : Int) := by omega
  have n3 : IntKind.i64.wrap (a : Int) = (a : Int) := IntWalk.i64_in _ (by omega)
  have n2 : ((n : Nat) : Int) % 2 = 0 := by omega
  have HS := hid1 hS
  have HG := hid1 h.lt
  have HR := hid1 (h.fr (S' := []) ((Fr.refl [] w).alloc (.cells (recRow 0 false (fun _ => 0)) 44)) (fun _ _ h => by cases h))
  have hb0 := hid1 (heap_new w (.cells (recRow 0 false (fun _ => 0)) 44))
  have hf0 := hid1 ((Fr.refl [g] w).alloc (.cells (recRow 0 false (fun _ => 0)) 44))
  clear hc hS hn hev h hle
  go_enter Try.func17, Try.ntmps17
  go_wp2_with (first
    | (go_at_call 30; refine (rcount_at HR.out (by decide) HC.out).mono ?_; rintro x w1 ⟨rfl, hr1, hf1⟩; have hz1 := heap_new w1 (.cells (recRow 0 false (fun _ => 0)) 44); have HZ1 := hid1 hz1; have HR1 := hid1 (hr1.fr (fr_alloc w1 (.cells (recRow 0 false (fun _ => 0)) 44)) (fun _ _ h => by cases h)); have HX1 := hid1 (heap_keep (hf1.heap hb0.out (by simp; have := HG.out; omega)) (.cells (recRow 0 false (fun _ => 0)) 44)); have HF1 := hid1 ((hf0.out.trans hf1 (Grows.refl _ _)).alloc (.cells (recRow 0 false (fun _ => 0)) 44)); have HBN := hid1 (show w.heap.size < w1.heap.size from heap_lt (hf1.heap hb0.out (by simp; have := HG.out; omega))); have HBR := hid1 (show w1.heap.size ∉ S from fun hm => by have := HS.out _ hm; have := HBN.out; omega); have HXR := hid1 (show w.heap.size ∉ S from fun hm => by have := HS.out _ hm; omega); clear hr1 hf1 hz1)
    | (refine wpList_store_row (w := w1.alloc (.cells (recRow 0 false (fun _ => 0)) 44)) rfl 44 (.tmp 4) (.tmp 16) rfl w1.heap.size (recRow (a : Int) false (fun _ => 0)) rfl rfl _ _ HZ1.out (Try.infoRecRow _ _ _) rfl (recRow_one _ _ _) ?_; have hb := setRow_heap _ _ _ (recRow (a : Int) false (fun _ => 0)) _ _ HZ1.out; have hr := HR1.out.fr (fr_row (w1.alloc (.cells (recRow 0 false (fun _ => 0)) 44)) w1.heap.size (recRow (a : Int) false (fun _ => 0))) (fun k hk hm => by simp at hm; subst hm; exact HBR.out hk); have hx := (fr_row (w1.alloc (.cells (recRow 0 false (fun _ => 0)) 44)) w1.heap.size (recRow (a : Int) false (fun _ => 0))).heap HX1.out (by simp; have := HBN.out; omega); have hf := HF1.out.trans (fr_row (w1.alloc (.cells (recRow 0 false (fun _ => 0)) 44)) w1.heap.size (recRow (a : Int) false (fun _ => 0))) (fun k hk => by simp at hk; subst hk; have := HBN.out; exact .inr (by omega)); obtain ⟨B, hB⟩ : ∃ B, w1.heap.size = B := ⟨_, rfl⟩; rw [hB] at hb hr hx hf HBN ⊢; obtain ⟨W, hW⟩ : ∃ W, (w1.alloc (.cells (recRow 0 false (fun _ => 0)) 44)).setRow B (recRow (a : Int) false (fun _ => 0)) = W := ⟨_, rfl⟩; rw [hW] at hb hr hx hf ⊢; have c1 : W.cell? ⟨B, 1, none⟩ = some (.bool false) := cell_at hb 1; have HB := hid1 hb; have HRW := hid1 hr; have HX := hid1 hx; have HF := hid1 hf; clear hb hr hx hf HZ1 HR1 HX1 HF1 hW hB hb0 hf0 HBR; clear HR))
  all_goals (

    by_cases he : s1.err = 0
    · have HCK := fun w => recchk_row (a : Int) false (fun _ => 0) w
      obtain ⟨ec, hec⟩ : ∃ ec, chkRec (a : Int) false (fun _ => 0) = ec := ⟨_, rfl⟩
      rw [hec] at HCK
      have HCK := hid1 HCK
      by_cases hc : ec = 0
      · subst hc
        have HQ := hid1 (HE.out.ok he hec)
        go_wp2_with (first
          | (go_at_call 19; refine (rerr_calls HRW.out).mono ?_; rintro e W ⟨rfl, rfl⟩)
          | (go_at_call 19; refine (rerr_calls HR1.out).mono ?_; rintro e W1 ⟨rfl, rfl⟩)
          | (go_at_call 19; refine (rerr_calls HR2.out).mono ?_; rintro e W2 ⟨rfl, rfl⟩)
          | (go_at_call 11; refine (HCK.out _).mono ?_; rintro e W1 ⟨rfl, hb1⟩; have HB1 := hid1 ((Fr.ofBelow hb1).heap HB.out (by simp)); have HX1 := hid1 ((Fr.ofBelow hb1).heap HX.out (by simp)); have HR1 := hid1 (HRW.out.fr (Fr.ofBelow hb1) (by simp)); have HF1 := hid1 (HF.out.trans (Fr.ofBelow hb1) (fun _ h => by cases h)); clear hb1)
          | (refine wpList_load_row rfl 44 (.tmp 4) rfl B rfl _ (recRow (a : Int) false (fun _ => 0)) _ _ HB.out Try.underlying44 rfl (Try.infoRecRow _ _ _) ?_)
          | (refine wpList_load_row rfl 44 (.tmp 4) rfl B rfl _ (recRow (a : Int) false (fun _ => 0)) _ _ HB1.out Try.underlying44 rfl (Try.infoRecRow _ _ _) ?_)
          | (refine wpList_store_row rfl 44 (.tmp 2) (.tmp 81) rfl w.heap.size (recRow (a : Int) false (fun _ => 0)) rfl rfl _ _ HX1.out (Try.infoRecRow _ _ _) rfl (recRow_one _ _ _) ?_))
        refine bodyPost_ret (v := .agg (recRow (a : Int) false (fun _ => 0))) (results_cell_row (p := 2) (ty := 44) rfl _ _ w.heap.size _ (recRow (a : Int) false (fun _ => 0)) _ _ rfl (setRow_heap _ _ _ _ _ _ HX1.out) Try.underlying44 rfl (Try.infoRecRow _ _ _)) rfl ⟨by rw [HQ.out.1], by rw [HQ.out.2]; exact HR1.out.fr (fr_row W1 w.heap.size (recRow (a : Int) false (fun _ => 0))) (fun k hk hm => by simp at hm; subst hm; exact HXR.out hk), HF1.out.trans (fr_row W1 w.heap.size (recRow (a : Int) false (fun _ => 0))) (fun k hk => by simp at hk; subst hk; exact .inr (Nat.le_refl _))⟩
      · have HQ := hid1 (HE.out.no he (by rw [hec]; exact hc))
        rw [hec] at HQ
        have hne : ¬ (rFail s1 ec).err = 0 := by unfold rFail; rw [if_pos he]; exact hc
        obtain ⟨s3, hs3⟩ : ∃ s3, rFail s1 ec = s3 := ⟨_, rfl⟩
        rw [hs3] at HQ hne
        have HS3 := hid1 hs3
        clear hs3 hec
        go_wp2_with (first
          | (go_at_call 19; refine (rerr_calls HRW.out).mono ?_; rintro e W ⟨rfl, rfl⟩)
          | (go_at_call 19; refine (rerr_calls HR1.out).mono ?_; rintro e W1 ⟨rfl, rfl⟩)
          | (go_at_call 19; refine (rerr_calls HR2.out).mono ?_; rintro e W2 ⟨rfl, rfl⟩)
          | (go_at_call 11; refine (HCK.out _).mono ?_; rintro e W1 ⟨rfl, hb1⟩; have HB1 := hid1 ((Fr.ofBelow hb1).heap HB.out (by simp)); have HX1 := hid1 ((Fr.ofBelow hb1).heap HX.out (by simp)); have HR1 := hid1 (HRW.out.fr (Fr.ofBelow hb1) (by simp)); have HF1 := hid1 (HF.out.trans (Fr.ofBelow hb1) (fun _ h => by cases h)); clear hb1)
          | (refine wpList_load_row rfl 44 (.tmp 4) rfl B rfl _ (recRow (a : Int) false (fun _ => 0)) _ _ HB.out Try.underlying44 rfl (Try.infoRecRow _ _ _) ?_)
          | (go_at_call 32; refine (rfail_calls HR1.out ec).mono ?_; rintro e W2 ⟨rfl, hr2, hf2⟩; rw [HS3.out] at hr2; have HR2 := hid1 hr2; have HX2 := hid1 (hf2.heap HX1.out (by simp; have := HG.out; omega)); have HF2 := hid1 (HF1.out.trans hf2 (fun k hk => .inl hk)); clear hr2 hf2)
          | (refine wpList_store_row rfl 44 (.tmp 2) (.tmp 80) rfl w.heap.size (recRow 0 false (fun _ => 0)) rfl rfl _ _ HX2.out (Try.infoRecRow _ _ _) rfl (recRow_one _ _ _) ?_))
        refine bodyPost_ret (v := .agg (recRow 0 false (fun _ => 0))) (results_cell_row (p := 2) (ty := 44) rfl _ _ w.heap.size _ (recRow 0 false (fun _ => 0)) _ _ rfl (setRow_heap _ _ _ _ _ _ HX2.out) Try.underlying44 rfl (Try.infoRecRow _ _ _)) rfl ⟨by rw [HQ.out.1], by rw [HQ.out.2]; exact HR2.out.fr (fr_row W2 w.heap.size (recRow 0 false (fun _ => 0))) (fun k hk hm => by simp at hm; subst hm; exact HXR.out hk), HF2.out.trans (fr_row W2 w.heap.size (recRow 0 false (fun _ => 0))) (fun k hk => by simp at hk; subst hk; exact .inr (Nat.le_refl _))⟩
    · have HQ := hid1 (HE.out.bad he)
      go_wp2_with (first
          | (go_at_call 19; refine (rerr_calls HRW.out).mono ?_; rintro e W ⟨rfl, rfl⟩)
          | (go_at_call 19; refine (rerr_calls HR1.out).mono ?_; rintro e W1 ⟨rfl, rfl⟩)
          | (go_at_call 19; refine (rerr_calls HR2.out).mono ?_; rintro e W2 ⟨rfl, rfl⟩)
          | (refine wpList_store_row rfl 44 (.tmp 2) (.tmp 80) rfl w.heap.size (recRow 0 false (fun _ => 0)) rfl rfl _ _ HX.out (Try.infoRecRow _ _ _) rfl (recRow_one _ _ _) ?_))
      refine bodyPost_ret (v := .agg (recRow 0 false (fun _ => 0))) (results_cell_row (p := 2) (ty := 44) rfl _ _ w.heap.size _ (recRow 0 false (fun _ => 0)) _ _ rfl (setRow_heap _ _ _ _ _ _ HX.out) Try.underlying44 rfl (Try.infoRecRow _ _ _)) rfl ⟨by rw [HQ.out.1], by rw [HQ.out.2]; exact HRW.out.fr (fr_row W w.heap.size (recRow 0 false (fun _ => 0))) (fun k hk hm => by simp at hm; subst hm; exact HXR.out hk), HF.out.trans (fr_row W w.heap.size (recRow 0 false (fun _ => 0))) (fun k hk => by simp at hk; subst hk; exact .inr (Nat.le_refl _))⟩
  )
end Go.Proofs.Ytmholpploaecgaa
