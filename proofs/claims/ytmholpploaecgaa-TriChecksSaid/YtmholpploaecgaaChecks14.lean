/-
  TriChecks: the law's walk.
-/
import Derived.Test.YtmholpploaecgaaRecLaw
import Derived.Test.YtmholpploaecgaaOpenTri
import Derived.Test.YtmholpploaecgaaQuietTail
import Derived.Test.YtmholpploaecgaaWireLen
import Derived.Great.BuildSlice
namespace Go.Proofs.Ytmholpploaecgaa
open Go.RowKit
set_option linter.unusedVariables false
set_option linter.unusedSimpArgs false

theorem bad7 {x : Nat → Int} {n : Int} (h : n < 0 ∨ 65535 < n) : chkTri (upd x 7 n) = 2 := by
  unfold chkTri
  rw [if_neg]
  rintro ⟨h0, h1, h2⟩
  have := h1
  unfold okC at this
  simp [upd] at this
  omega
theorem good7 {x : Nat → Int} {n : Int} (hx : ∀ m, m < 24 → smN m (x m)) (h : chkTri x = 0) (hn : 0 ≤ n ∧ n ≤ 65535) : chkTri (upd x 7 n) = 0 := by
  have h2 : okC x 0 ∧ okC x 1 ∧ okC x 2 ∧ 0 < triArea x := by
    unfold chkTri at h
    split at h
    · rename_i hk
      split at h
      · cases h
      · exact ⟨hk.1, hk.2.1, hk.2.2, by omega⟩
    · cases h
  obtain ⟨a0, a1, a2, ha⟩ := h2
  unfold chkTri
  rw [if_pos, if_neg]
  · have : triArea (upd x 7 n) = triArea x := by simp [triArea, upd]
    omega
  · unfold okC Close at a0 a1 a2 ⊢
    simp at a0 a1 a2
    simp [upd]
    omega
theorem bad11 {x : Nat → Int} {n : Int} (h : n < 1 ∨ 1024 < n) : chkTri (upd x 11 n) = 2 := by
  unfold chkTri
  rw [if_neg]
  rintro ⟨h0, h1, h2⟩
  have := h2
  unfold okC at this
  simp [upd] at this
  omega
theorem good11 {x : Nat → Int} {n : Int} (hx : ∀ m, m < 24 → smN m (x m)) (h : chkTri x = 0) (hn : 1 ≤ n ∧ n ≤ 1024) : chkTri (upd x 11 n) = 0 := by
  have h2 : okC x 0 ∧ okC x 1 ∧ okC x 2 ∧ 0 < triArea x := by
    unfold chkTri at h
    split at h
    · rename_i hk
      split at h
      · cases h
      · exact ⟨hk.1, hk.2.1, hk.2.2, by omega⟩
    · cases h
  obtain ⟨a0, a1, a2, ha⟩ := h2
  unfold chkTri
  rw [if_pos, if_neg]
  · have : triArea (upd x 11 n) = triArea x := by simp [triArea, upd]
    omega
  · unfold okC Close at a0 a1 a2 ⊢
    simp at a0 a1 a2
    simp [upd]
    omega
theorem bad15 {x : Nat → Int} {n : Int} (h : n < 0 ∨ 65536 < n) : chkTri (upd x 15 n) = 2 := by
  unfold chkTri
  rw [if_neg]
  rintro ⟨h0, h1, h2⟩
  have := h0
  unfold okC at this
  simp [upd] at this
  omega
theorem good15 {x : Nat → Int} {n : Int} (hx : ∀ m, m < 24 → smN m (x m)) (h : chkTri x = 0) (hn : 0 ≤ n ∧ n ≤ 65536) : chkTri (upd x 15 n) = 0 := by
  have h2 : okC x 0 ∧ okC x 1 ∧ okC x 2 ∧ 0 < triArea x := by
    unfold chkTri at h
    split at h
    · rename_i hk
      split at h
      · cases h
      · exact ⟨hk.1, hk.2.1, hk.2.2, by omega⟩
    · cases h
  obtain ⟨a0, a1, a2, ha⟩ := h2
  unfold chkTri
  rw [if_pos, if_neg]
  · have : triArea (upd x 15 n) = triArea x := by simp [triArea, upd]
    omega
  · unfold okC Close at a0 a1 a2 ⊢
    simp at a0 a1 a2
    simp [upd]
    omega
theorem side_turned (a b c d e f : Int) : side a b e f c d = -(side a b c d e f) := by
  unfold side
  have h1 := Int.mul_comm (e - a) (d - b)
  have h2 := Int.mul_comm (f - b) (c - a)
  omega
theorem turned_bad {x : Nat → Int} (h : chkTri x = 0) : chkTri (upd (upd (upd (upd x 2 (x 4)) 3 (x 5)) 4 (x 2)) 5 (x 3)) = 4 := by
  have h2 : okC x 0 ∧ okC x 1 ∧ okC x 2 ∧ 0 < triArea x := by
    unfold chkTri at h
    split at h
    · rename_i hk
      split at h
      · cases h
      · exact ⟨hk.1, hk.2.1, hk.2.2, by omega⟩
    · cases h
  obtain ⟨a0, a1, a2, ha⟩ := h2
  unfold chkTri
  rw [if_pos, if_pos]
  · have : triArea (upd (upd (upd (upd x 2 (x 4)) 3 (x 5)) 4 (x 2)) 5 (x 3)) = -(triArea x) := by
      rw [show triArea x = side (x 0) (x 1) (x 2) (x 3) (x 4) (x 5) from rfl, ← side_turned]
      simp [triArea, upd]
    omega
  · unfold okC Close at a0 a1 a2 ⊢
    simp at a0 a1 a2
    simp [upd]
    omega
theorem recBytes_pos (a : Int) (b : Bool) (y : Nat → Int) : (0 : Int) < (((([] : List UInt8) ++ recBytes a b y).length : Nat) : Int) := by
  have h : ∀ n, 1 ≤ (encN n).length := fun n => by
    unfold encN
    split <;> simp
  unfold recBytes
  split
  · have := h (2 * a + 1).toNat; simp only [List.nil_append, List.length_append]; omega
  · have := h (2 * a).toNat; simp only [List.nil_append]; omega
theorem chkRec_form {x : Nat → Int} (h : chkTri x = 0) : chkRec 3 false x = 4 := by
  have h9 : x 9 ≠ 0 := by
    unfold chkTri at h
    split at h
    · rename_i hk
      have := hk.1
      unfold okC at this
      simp at this
      omega
    · cases h
  unfold chkRec
  rw [if_neg (by omega), if_neg (by decide), if_neg]
  intro hz
  unfold zero24 same24 at hz
  exact h9 hz.2.2.1.1
set_option maxRecDepth 10000 in
set_option maxHeartbeats 40000000 in
theorem trichecks_walk {w : World} {s : SmallR} (hs : s.good) {draw : Int} (hd : (Lit.int .i64 draw).wf = true) {what : Int} (hwh : (Lit.int .u8 what).wf = true) {n : Int} (hn : (Lit.int .i64 n).wf = true) {t : TriR} (ht : t.good) :
    Calls Try.prog 3 #[.agg (smRow s.p), .int .i64 draw, .int .u8 what, .int .i64 n, .agg (triRow t.x)] w fun e w' => e = .returned (.bool true) ∧ Below w.heap.size w w' := by
  have hwb := bounds_u8 hwh
  obtain ⟨tg, htg⟩ : ∃ r, what.tmod 6 = r := ⟨_, rfl⟩
  have htb : 0 ≤ tg ∧ tg ≤ 5 := by rw [← htg, Int.tmod_eq_emod_of_nonneg (by omega)]; omega
  have n1 : IntKind.u8.wrap tg = tg := IntWalk.u8_in _ (by omega)
  have HREC := hid1 (fun w => record_calls hs (d := 3) (by omega) true w)
  rw [show (3 : Int) % 32 = 3 by decide] at HREC
  have h0 := heap_keep (heap_new w (.cells (smRow s.p) 31)) (.cells (triRow t.x) 41)
  have h1 := heap_new (w.alloc (.cells (smRow s.p) 31)) (.cells (triRow t.x) 41)
  have hb := ((Below.refl w.heap.size w).alloc (Nat.le_refl _) (.cells (smRow s.p) 31)).alloc (by simp) (.cells (triRow t.x) 41)
  obtain ⟨B, hB⟩ : ∃ B, w.heap.size = B := ⟨_, rfl⟩
  simp only [World.size_alloc] at h1
  rw [hB] at h0 h1 hb
  have H0 := hid1 h0
  have H1 := hid1 h1
  have HB0 := hid1 hb
  have HBE := hid1 hB
  clear h0 h1 hb hwb hwh hd hn
  have HWO := hid1 (fun w : World => Wr.new w 51)
  have HCKY := hid1 (fun w => recchk_row 0 true t.x w)
  have HCKT := hid1 (fun w => trichk_calls t.x w)
  rw [chkRec_true (by omega)] at HCKY
  obtain ⟨ct, hct⟩ : ∃ ct, chkTri t.x = ct := ⟨_, rfl⟩
  rw [hct] at HCKY HCKT
  clear hct
  go_enter Try.func3, Try.ntmps3
  go_upto_region 4 with (first 
    | (go_at_call 7; refine (awake14 _).mono ?_; rintro e w1 ⟨rfl, hb1⟩; have HS1 := hid1 ((Fr.ofBelow hb1).heap H0.out (by simp)); have HT1 := hid1 ((Fr.ofBelow hb1).heap H1.out (by simp)); have HB1 := hid1 (HB0.out.trans (hb1.mono (by rw [← HBE.out]; exact HB0.out.size))); clear hb1)
    | (refine wpList_load_row rfl 31 (.tmp 5) rfl B rfl _ (smRow s.p) _ _ HS1.out Try.underlying31 rfl (Try.infoSm _) ?_)
    | (go_at_call 8; refine (HREC.out w1).mono ?_; rintro e w2 ⟨sm, x, rfl, hchk, hsm, hz, _, hb2⟩; have HCHK := hid1 hchk; have HSM := hid1 hsm; have hbl : B ≤ w1.heap.size := Nat.le_of_lt (heap_lt HS1.out); have HT2 := hid1 (heap_keep ((Fr.ofBelow hb2).heap HT1.out (by simp)) (.cells (recRow 0 false (fun _ => 0)) 44)); have HX2 := hid1 (heap_new w2 (.cells (recRow 0 false (fun _ => 0)) 44)); have HL2 := hid1 (show B + 1 < w2.heap.size from heap_lt ((Fr.ofBelow hb2).heap HT1.out (by simp))); have HB2 := hid1 ((HB1.out.trans (hb2.mono hbl)).alloc (Nat.le_trans hbl hb2.size) (.cells (recRow 0 false (fun _ => 0)) 44)); clear hchk hsm hz hb2 hbl)
    | (refine wpList_store_row (w := w2.alloc (.cells (recRow 0 false (fun _ => 0)) 44)) rfl 44 (.tmp 11) (.tmp 19) rfl w2.heap.size (recRow 3 sm x) rfl rfl _ _ HX2.out (Try.infoRecRow _ _ _) rfl (recRow_one _ _ _) ?_; have hf := fr_row (w2.alloc (.cells (recRow 0 false (fun _ => 0)) 44)) w2.heap.size (recRow 3 sm x); have ht := hf.heap HT2.out (fun hm => by have := List.mem_singleton.1 hm; have := HL2.out; omega); have hx := setRow_heap _ _ _ (recRow 3 sm x) _ _ HX2.out; have hb := Fr.below HB2.out hf (fun k hk => by have := List.mem_singleton.1 hk; have := HL2.out; omega) (by rw [← HBE.out]; exact HB2.out.size); obtain ⟨X, hX⟩ : ∃ X, w2.heap.size = X := ⟨_, rfl⟩; rw [hX] at ht hx hb HL2 ⊢; obtain ⟨V, hV⟩ : ∃ V, (w2.alloc (.cells (recRow 0 false (fun _ => 0)) 44)).setRow X (recRow 3 sm x) = V := ⟨_, rfl⟩; rw [hV] at ht hx hb ⊢; have c1 : V.cell? ⟨X, 1, none⟩ = some (.bool sm) := cell_at hx 1; have HTV := hid1 ht; have HXV := hid1 hx; have HBV := hid1 hb; clear ht hx hb hf hV hX HT2 HX2 HB2))
  cases sm with
  | false =>
    go_wp2
    go_ret
    exact ⟨rfl, by rw [HBE.out]; exact HBV.out⟩
  | true =>
    go_upto_region 7 with fail
    clear c1
    have HCHK0 := (chkRec_true (r := 3) (x := x) (by omega)).symm.trans HCHK.out
    rcases (show tg = 0 ∨ tg = 1 ∨ tg = 2 ∨ tg = 3 ∨ tg = 4 ∨ tg = 5 by omega) with rfl | rfl | rfl | rfl | rfl | rfl
    · rcases (show draw < 0 ∨ (¬ draw < 0 ∧ 31 < draw) ∨ (¬ draw < 0 ∧ ¬ 31 < draw) by omega) with hr | hr | hr
      · skip
        have d0 : decide (draw < 0) = true := by simpa using hr
        have hx0 := HXV.out
        have e0 : V.cell? ⟨X, 0, none⟩ = some (.int .i64 3) := cell_at hx0 0
        have z0 := free_at hx0 0
        have hx2 := heap_set (a := ⟨X, 0, none⟩) hx0 rfl (.int .i64 draw)
        have hf2 := (Fr.refl [X] V).set ⟨X, 0, none⟩ (.inl (by simp)) (.int .i64 draw)
        have HX2a := hid1 hx2
        have HT2a := hid1 (hf2.heap HTV.out (fun hm => by have := List.mem_singleton.1 hm; have := HL2.out; omega))
        have HB2a := hid1 (Fr.below HBV.out hf2 (fun k hk => by have := List.mem_singleton.1 hk; have := HL2.out; omega) (by have := heap_lt HTV.out; omega))
        have HCH := hid1 (show chkRec draw true x = 2 by unfold chkRec; rw [if_pos (by omega)])
        have HNE := hid1 (show chkRec draw true x ≠ 0 by rw [HCH.out]; decide)
        clear hx0 hx2 hf2
        go_upto_region 27 with fail
        clear e0 z0
        obtain ⟨V2, hV2⟩ : ∃ V2, V.setCell ⟨X, 0, none⟩ (.int .i64 draw) = V2 := ⟨_, rfl⟩
        rw [hV2] at HX2a HT2a HB2a ⊢
        have HX2 : Hid (V2.heap[X]? = some (.cells (recRow draw true x) 44 (0, 0))) := HX2a
        have HT2 := HT2a
        have HB2 := HB2a
        clear HX2a HT2a HB2a hV2 HXV HTV HBV

        have hxn := heap_keep HX2.out (.cells #[.slice none 0 0] 51)
        have HXN := hid1 hxn
        have HCK := hid1 (fun w => recchk_row draw true x w)
        rw [HCH.out] at HCK
        have HNIL := hid1 (fun w : World => recput_nil (w := w) draw true x)
        clear hxn
        go_wp2_with (first
          | (refine wpList_load_row rfl 44 (.tmp 11) rfl X rfl _ (recRow draw true x) _ _ HXN.out Try.underlying44 rfl (Try.infoRecRow _ _ _) ?_)
          | (go_at_call 10; refine (recput_no draw true x HNE.out).mono ?_; rw [HCH.out]; rintro e w4 ⟨rfl, hb4⟩; have hnx : X < V2.heap.size := heap_lt HX2.out; have hnt : B + 1 < V2.heap.size := heap_lt HT2.out; have HX4 := hid1 (heap_keep ((Fr.ofBelow hb4).heap (heap_keep HX2.out (.cells #[.slice none 0 0] 51)) (by simp)) (.cells (recRow 0 false (fun _ => 0)) 44)); have HT4 := hid1 (heap_keep ((Fr.ofBelow hb4).heap (heap_keep HT2.out (.cells #[.slice none 0 0] 51)) (by simp)) (.cells (recRow 0 false (fun _ => 0)) 44)); have HT4P := hid1 ((Fr.ofBelow hb4).heap (heap_keep HT2.out (.cells #[.slice none 0 0] 51)) (by simp)); have hw4 := (HWO.out V2).fr (Fr.ofBelow hb4) (by simp); have HW4 := hid1 (hw4.fr (fr_alloc w4 (.cells (recRow 0 false (fun _ => 0)) 44)) (fun _ _ h => by cases h)); have HSL := hid1 hw4.lt; have hb5 := (HB2.out.alloc (by omega) (.cells #[.slice none 0 0] 51)).trans (hb4.mono (by simp; omega)); have HB4 := hid1 (hb5.alloc (by have := hb4.size; simp at this; omega) (.cells (recRow 0 false (fun _ => 0)) 44)); have HY4 := hid1 (heap_new w4 (.cells (recRow 0 false (fun _ => 0)) 44)); have HL4 := hid1 (show X < w4.heap.size ∧ B + 1 < w4.heap.size from ⟨heap_lt ((Fr.ofBelow hb4).heap (heap_keep HX2.out (.cells #[.slice none 0 0] 51)) (by simp)), heap_lt ((Fr.ofBelow hb4).heap (heap_keep HT2.out (.cells #[.slice none 0 0] 51)) (by simp))⟩); clear hw4 hb4 hb5 hnx hnt)
          | (refine wpList_load_row rfl 41 (.tmp 9) rfl (B + 1) rfl _ (triRow t.x) _ _ HT4P.out Try.underlying41 rfl (Try.infoTri _) ?_)
          | (refine wpList_buildTo rfl 44 _ rfl (some 87) rfl (recRow 0 true t.x) (by kernel_rfl) ?_)
          | (refine wpList_store_row (w := w4.alloc (.cells (recRow 0 false (fun _ => 0)) 44)) rfl 44 (.tmp 15) (.tmp 87) rfl w4.heap.size (recRow 0 true t.x) rfl rfl _ _ HY4.out (Try.infoRecRow _ _ _) rfl (recRow_one _ _ _) ?_))
        have hfy := fr_row (w4.alloc (.cells (recRow 0 false (fun _ => 0)) 44)) w4.heap.size (recRow 0 true t.x)
        have hx9 := hfy.heap HX4.out (fun hm => by have := List.mem_singleton.1 hm; have := HL4.out; omega)
        have ht9 := hfy.heap HT4.out (fun hm => by have := List.mem_singleton.1 hm; have := HL4.out; omega)
        have hy9 := setRow_heap _ _ _ (recRow 0 true t.x) _ _ HY4.out
        have hw9 := HW4.out.fr hfy (fun k hk hm => by have := List.mem_singleton.1 hm; have := HSL.out k hk; omega)
        have hb9 := Fr.below HB4.out hfy (fun k hk => by have := List.mem_singleton.1 hk; have := HL4.out; have := HL2.out; omega) (by have := heap_lt HT4.out; omega)
        obtain ⟨Yb, hYb⟩ : ∃ Yb, w4.heap.size = Yb := ⟨_, rfl⟩
        rw [hYb] at hx9 ht9 hy9 hw9 hb9 ⊢
        obtain ⟨U, hU⟩ : ∃ U, (w4.alloc (.cells (recRow 0 false (fun _ => 0)) 44)).setRow Yb (recRow 0 true t.x) = U := ⟨_, rfl⟩
        rw [hU] at hx9 ht9 hy9 hw9 hb9 ⊢
        have HXH := hid1 (fun (w' : World) (hw : ∃ q : Ext U, w' = ext U q) => show w'.heap[X]? = some (.cells (recRow draw true x) 44 (0, 0)) by obtain ⟨q, rfl⟩ := hw; exact ext_heap hx9 q)
        have HTH := hid1 (fun (w' : World) (hw : ∃ q : Ext U, w' = ext U q) => show w'.heap[B + 1]? = some (.cells (triRow t.x) 41 (0, 0)) by obtain ⟨q, rfl⟩ := hw; exact ext_heap ht9 q)
        have HYH := hid1 (fun (w' : World) (hw : ∃ q : Ext U, w' = ext U q) => show w'.heap[Yb]? = some (.cells (recRow 0 true t.x) 44 (0, 0)) by obtain ⟨q, rfl⟩ := hw; exact ext_heap hy9 q)
        have HLN := hid1 (show (((([] : List UInt8)).length : Nat) : Int) = 0 from rfl)
        have HLEN := hid1 (fun q : Ext U => show Calls Try.prog 12 #[.pointer (some ⟨V2.heap.size, 0, none⟩)] (ext U q) (fun e w' => e = .returned (.int .i64 0) ∧ ext U q = w') from (wlen_calls (hw9.fr (Fr.ofBelow (ext_below q)) (by simp))).mono (fun e w' h => ⟨h.1.trans (by rw [HLN.out]), h.2.symm⟩))
        have HB9 := hid1 hb9
        have HBU := hid1 (show B ≤ U.heap.size by have := heap_lt ht9; omega)
        clear hfy hx9 ht9 hy9 hw9 hb9 hYb hU HX4 HT4 HW4 HSL HB4 HY4 HL4 HT4P HXN HX2 HT2 HB2
        refine wp_region_grow (by kernel_rfl) (by kernel_rfl) ?_
        repeat (first
          | (refine wpQuiet_load_rowG (by rfl) 44 (.tmp 11) rfl X rfl 44 (recRow draw true x) (0, 0) _ HXH.out Try.underlying44 rfl (Try.infoRecRow _ _ _) ?_; simp only [Act.put, List.setIfInBounds_toArray, List.set_cons_succ, List.set_cons_zero])
          | (refine wpQuiet_load_rowG (by rfl) 44 (.tmp 15) rfl Yb rfl 44 (recRow 0 true t.x) (0, 0) _ HYH.out Try.underlying44 rfl (Try.infoRecRow _ _ _) ?_; simp only [Act.put, List.setIfInBounds_toArray, List.set_cons_succ, List.set_cons_zero])
          | (refine wpQuiet_load_rowG (by rfl) 41 (.tmp 9) rfl (B + 1) rfl 41 (triRow t.x) (0, 0) _ HTH.out Try.underlying41 rfl (Try.infoTri _) ?_; simp only [Act.put, List.setIfInBounds_toArray, List.set_cons_succ, List.set_cons_zero])
          | go_big_quiet_step (first
            | (go_at_call 11; first | (with_reducible exact Calls.grow (HCK.out _)) | (with_reducible exact Calls.grow (HCKY.out _)))
            | (go_at_call 13; exact Calls.grow (HCKT.out _))
            | (go_at_call 12; exact Calls.grow_same (HLEN.out _))
            | (go_at_call 10; exact Calls.grow (HNIL.out _))))
        refine wpQuiet_nil ?_
        rintro _ ⟨q, rfl⟩
        go_wp2
        go_ret
        exact ⟨rfl, by rw [HBE.out]; exact HB9.out.trans ((ext_below q).mono HBU.out)⟩

      · skip
        have d0 : decide (draw < 0) = false := by simpa using hr.1
        have d1 : decide (draw > 31) = true := by simpa using hr.2
        have hx0 := HXV.out
        have e0 : V.cell? ⟨X, 0, none⟩ = some (.int .i64 3) := cell_at hx0 0
        have z0 := free_at hx0 0
        have hx2 := heap_set (a := ⟨X, 0, none⟩) hx0 rfl (.int .i64 draw)
        have hf2 := (Fr.refl [X] V).set ⟨X, 0, none⟩ (.inl (by simp)) (.int .i64 draw)
        have HX2a := hid1 hx2
        have HT2a := hid1 (hf2.heap HTV.out (fun hm => by have := List.mem_singleton.1 hm; have := HL2.out; omega))
        have HB2a := hid1 (Fr.below HBV.out hf2 (fun k hk => by have := List.mem_singleton.1 hk; have := HL2.out; omega) (by have := heap_lt HTV.out; omega))
        have HCH := hid1 (show chkRec draw true x = 2 by unfold chkRec; rw [if_pos (by omega)])
        have HNE := hid1 (show chkRec draw true x ≠ 0 by rw [HCH.out]; decide)
        clear hx0 hx2 hf2
        go_upto_region 27 with fail
        clear e0 z0
        obtain ⟨V2, hV2⟩ : ∃ V2, V.setCell ⟨X, 0, none⟩ (.int .i64 draw) = V2 := ⟨_, rfl⟩
        rw [hV2] at HX2a HT2a HB2a ⊢
        have HX2 : Hid (V2.heap[X]? = some (.cells (recRow draw true x) 44 (0, 0))) := HX2a
        have HT2 := HT2a
        have HB2 := HB2a
        clear HX2a HT2a HB2a hV2 HXV HTV HBV

        have hxn := heap_keep HX2.out (.cells #[.slice none 0 0] 51)
        have HXN := hid1 hxn
        have HCK := hid1 (fun w => recchk_row draw true x w)
        rw [HCH.out] at HCK
        have HNIL := hid1 (fun w : World => recput_nil (w := w) draw true x)
        clear hxn
        go_wp2_with (first
          | (refine wpList_load_row rfl 44 (.tmp 11) rfl X rfl _ (recRow draw true x) _ _ HXN.out Try.underlying44 rfl (Try.infoRecRow _ _ _) ?_)
          | (go_at_call 10; refine (recput_no draw true x HNE.out).mono ?_; rw [HCH.out]; rintro e w4 ⟨rfl, hb4⟩; have hnx : X < V2.heap.size := heap_lt HX2.out; have hnt : B + 1 < V2.heap.size := heap_lt HT2.out; have HX4 := hid1 (heap_keep ((Fr.ofBelow hb4).heap (heap_keep HX2.out (.cells #[.slice none 0 0] 51)) (by simp)) (.cells (recRow 0 false (fun _ => 0)) 44)); have HT4 := hid1 (heap_keep ((Fr.ofBelow hb4).heap (heap_keep HT2.out (.cells #[.slice none 0 0] 51)) (by simp)) (.cells (recRow 0 false (fun _ => 0)) 44)); have HT4P := hid1 ((Fr.ofBelow hb4).heap (heap_keep HT2.out (.cells #[.slice none 0 0] 51)) (by simp)); have hw4 := (HWO.out V2).fr (Fr.ofBelow hb4) (by simp); have HW4 := hid1 (hw4.fr (fr_alloc w4 (.cells (recRow 0 false (fun _ => 0)) 44)) (fun _ _ h => by cases h)); have HSL := hid1 hw4.lt; have hb5 := (HB2.out.alloc (by omega) (.cells #[.slice none 0 0] 51)).trans (hb4.mono (by simp; omega)); have HB4 := hid1 (hb5.alloc (by have := hb4.size; simp at this; omega) (.cells (recRow 0 false (fun _ => 0)) 44)); have HY4 := hid1 (heap_new w4 (.cells (recRow 0 false (fun _ => 0)) 44)); have HL4 := hid1 (show X < w4.heap.size ∧ B + 1 < w4.heap.size from ⟨heap_lt ((Fr.ofBelow hb4).heap (heap_keep HX2.out (.cells #[.slice none 0 0] 51)) (by simp)), heap_lt ((Fr.ofBelow hb4).heap (heap_keep HT2.out (.cells #[.slice none 0 0] 51)) (by simp))⟩); clear hw4 hb4 hb5 hnx hnt)
          | (refine wpList_load_row rfl 41 (.tmp 9) rfl (B + 1) rfl _ (triRow t.x) _ _ HT4P.out Try.underlying41 rfl (Try.infoTri _) ?_)
          | (refine wpList_buildTo rfl 44 _ rfl (some 87) rfl (recRow 0 true t.x) (by kernel_rfl) ?_)
          | (refine wpList_store_row (w := w4.alloc (.cells (recRow 0 false (fun _ => 0)) 44)) rfl 44 (.tmp 15) (.tmp 87) rfl w4.heap.size (recRow 0 true t.x) rfl rfl _ _ HY4.out (Try.infoRecRow _ _ _) rfl (recRow_one _ _ _) ?_))
        have hfy := fr_row (w4.alloc (.cells (recRow 0 false (fun _ => 0)) 44)) w4.heap.size (recRow 0 true t.x)
        have hx9 := hfy.heap HX4.out (fun hm => by have := List.mem_singleton.1 hm; have := HL4.out; omega)
        have ht9 := hfy.heap HT4.out (fun hm => by have := List.mem_singleton.1 hm; have := HL4.out; omega)
        have hy9 := setRow_heap _ _ _ (recRow 0 true t.x) _ _ HY4.out
        have hw9 := HW4.out.fr hfy (fun k hk hm => by have := List.mem_singleton.1 hm; have := HSL.out k hk; omega)
        have hb9 := Fr.below HB4.out hfy (fun k hk => by have := List.mem_singleton.1 hk; have := HL4.out; have := HL2.out; omega) (by have := heap_lt HT4.out; omega)
        obtain ⟨Yb, hYb⟩ : ∃ Yb, w4.heap.size = Yb := ⟨_, rfl⟩
        rw [hYb] at hx9 ht9 hy9 hw9 hb9 ⊢
        obtain ⟨U, hU⟩ : ∃ U, (w4.alloc (.cells (recRow 0 false (fun _ => 0)) 44)).setRow Yb (recRow 0 true t.x) = U := ⟨_, rfl⟩
        rw [hU] at hx9 ht9 hy9 hw9 hb9 ⊢
        have HXH := hid1 (fun (w' : World) (hw : ∃ q : Ext U, w' = ext U q) => show w'.heap[X]? = some (.cells (recRow draw true x) 44 (0, 0)) by obtain ⟨q, rfl⟩ := hw; exact ext_heap hx9 q)
        have HTH := hid1 (fun (w' : World) (hw : ∃ q : Ext U, w' = ext U q) => show w'.heap[B + 1]? = some (.cells (triRow t.x) 41 (0, 0)) by obtain ⟨q, rfl⟩ := hw; exact ext_heap ht9 q)
        have HYH := hid1 (fun (w' : World) (hw : ∃ q : Ext U, w' = ext U q) => show w'.heap[Yb]? = some (.cells (recRow 0 true t.x) 44 (0, 0)) by obtain ⟨q, rfl⟩ := hw; exact ext_heap hy9 q)
        have HLN := hid1 (show (((([] : List UInt8)).length : Nat) : Int) = 0 from rfl)
        have HLEN := hid1 (fun q : Ext U => show Calls Try.prog 12 #[.pointer (some ⟨V2.heap.size, 0, none⟩)] (ext U q) (fun e w' => e = .returned (.int .i64 0) ∧ ext U q = w') from (wlen_calls (hw9.fr (Fr.ofBelow (ext_below q)) (by simp))).mono (fun e w' h => ⟨h.1.trans (by rw [HLN.out]), h.2.symm⟩))
        have HB9 := hid1 hb9
        have HBU := hid1 (show B ≤ U.heap.size by have := heap_lt ht9; omega)
        clear hfy hx9 ht9 hy9 hw9 hb9 hYb hU HX4 HT4 HW4 HSL HB4 HY4 HL4 HT4P HXN HX2 HT2 HB2
        refine wp_region_grow (by kernel_rfl) (by kernel_rfl) ?_
        repeat (first
          | (refine wpQuiet_load_rowG (by rfl) 44 (.tmp 11) rfl X rfl 44 (recRow draw true x) (0, 0) _ HXH.out Try.underlying44 rfl (Try.infoRecRow _ _ _) ?_; simp only [Act.put, List.setIfInBounds_toArray, List.set_cons_succ, List.set_cons_zero])
          | (refine wpQuiet_load_rowG (by rfl) 44 (.tmp 15) rfl Yb rfl 44 (recRow 0 true t.x) (0, 0) _ HYH.out Try.underlying44 rfl (Try.infoRecRow _ _ _) ?_; simp only [Act.put, List.setIfInBounds_toArray, List.set_cons_succ, List.set_cons_zero])
          | (refine wpQuiet_load_rowG (by rfl) 41 (.tmp 9) rfl (B + 1) rfl 41 (triRow t.x) (0, 0) _ HTH.out Try.underlying41 rfl (Try.infoTri _) ?_; simp only [Act.put, List.setIfInBounds_toArray, List.set_cons_succ, List.set_cons_zero])
          | go_big_quiet_step (first
            | (go_at_call 11; first | (with_reducible exact Calls.grow (HCK.out _)) | (with_reducible exact Calls.grow (HCKY.out _)))
            | (go_at_call 13; exact Calls.grow (HCKT.out _))
            | (go_at_call 12; exact Calls.grow_same (HLEN.out _))
            | (go_at_call 10; exact Calls.grow (HNIL.out _))))
        refine wpQuiet_nil ?_
        rintro _ ⟨q, rfl⟩
        go_wp2
        go_ret
        exact ⟨rfl, by rw [HBE.out]; exact HB9.out.trans ((ext_below q).mono HBU.out)⟩

      · skip
        have d0 : decide (draw < 0) = false := by simpa using hr.1
        have d1 : decide (draw > 31) = false := by simpa using hr.2
        have hx0 := HXV.out
        have e0 : V.cell? ⟨X, 0, none⟩ = some (.int .i64 3) := cell_at hx0 0
        have z0 := free_at hx0 0
        have hx2 := heap_set (a := ⟨X, 0, none⟩) hx0 rfl (.int .i64 draw)
        have hf2 := (Fr.refl [X] V).set ⟨X, 0, none⟩ (.inl (by simp)) (.int .i64 draw)
        have HX2a := hid1 hx2
        have HT2a := hid1 (hf2.heap HTV.out (fun hm => by have := List.mem_singleton.1 hm; have := HL2.out; omega))
        have HB2a := hid1 (Fr.below HBV.out hf2 (fun k hk => by have := List.mem_singleton.1 hk; have := HL2.out; omega) (by have := heap_lt HTV.out; omega))
        have HCH := hid1 (show chkRec draw true x = 0 by unfold chkRec; rw [if_neg (by omega), if_pos rfl]; exact HCHK0)
        clear hx0 hx2 hf2
        go_upto_region 27 with fail
        clear e0 z0
        obtain ⟨V2, hV2⟩ : ∃ V2, V.setCell ⟨X, 0, none⟩ (.int .i64 draw) = V2 := ⟨_, rfl⟩
        rw [hV2] at HX2a HT2a HB2a ⊢
        have HX2 : Hid (V2.heap[X]? = some (.cells (recRow draw true x) 44 (0, 0))) := HX2a
        have HT2 := HT2a
        have HB2 := HB2a
        clear HX2a HT2a HB2a hV2 HXV HTV HBV

        have hxn := heap_keep HX2.out (.cells #[.slice none 0 0] 51)
        have HXN := hid1 hxn
        have HCK := hid1 (fun w => recchk_row draw true x w)
        rw [HCH.out] at HCK
        have HNIL := hid1 (fun w : World => recput_nil (w := w) draw true x)
        clear hxn
        go_wp2_with (first
          | (refine wpList_load_row rfl 44 (.tmp 11) rfl X rfl _ (recRow draw true x) _ _ HXN.out Try.underlying44 rfl (Try.infoRecRow _ _ _) ?_)
          | (go_at_call 10; refine (recput_calls (HWO.out V2) (by decide) draw true x HCH.out).mono ?_; rintro e w4 ⟨rfl, S4, hw4, hg4, hf4⟩; have hnx : X < V2.heap.size := heap_lt HX2.out; have hnt : B + 1 < V2.heap.size := heap_lt HT2.out; have HX4 := hid1 (heap_keep (hf4.heap (heap_keep HX2.out (.cells #[.slice none 0 0] 51)) (fun hm => by have := List.mem_singleton.1 hm; omega)) (.cells (recRow 0 false (fun _ => 0)) 44)); have HT4 := hid1 (heap_keep (hf4.heap (heap_keep HT2.out (.cells #[.slice none 0 0] 51)) (fun hm => by have := List.mem_singleton.1 hm; omega)) (.cells (recRow 0 false (fun _ => 0)) 44)); have HT4P := hid1 (hf4.heap (heap_keep HT2.out (.cells #[.slice none 0 0] 51)) (fun hm => by have := List.mem_singleton.1 hm; omega)); have HW4 := hid1 (hw4.fr (fr_alloc w4 (.cells (recRow 0 false (fun _ => 0)) 44)) (fun _ _ h => by cases h)); have HSL := hid1 hw4.lt; have hb4 := Fr.below (HB2.out.alloc (by omega) (.cells #[.slice none 0 0] 51)) hf4 (fun k hk => by have := List.mem_singleton.1 hk; omega) (by simp; omega); have HB4 := hid1 (hb4.alloc (by have := hf4.size; simp at this; omega) (.cells (recRow 0 false (fun _ => 0)) 44)); have HY4 := hid1 (heap_new w4 (.cells (recRow 0 false (fun _ => 0)) 44)); have HL4 := hid1 (show X < w4.heap.size ∧ B + 1 < w4.heap.size from ⟨heap_lt (hf4.heap (heap_keep HX2.out (.cells #[.slice none 0 0] 51)) (fun hm => by have := List.mem_singleton.1 hm; omega)), heap_lt (hf4.heap (heap_keep HT2.out (.cells #[.slice none 0 0] 51)) (fun hm => by have := List.mem_singleton.1 hm; omega))⟩); clear hw4 hg4 hf4 hb4 hnx hnt)
          | (refine wpList_load_row rfl 41 (.tmp 9) rfl (B + 1) rfl _ (triRow t.x) _ _ HT4P.out Try.underlying41 rfl (Try.infoTri _) ?_)
          | (refine wpList_buildTo rfl 44 _ rfl (some 87) rfl (recRow 0 true t.x) (by kernel_rfl) ?_)
          | (refine wpList_store_row (w := w4.alloc (.cells (recRow 0 false (fun _ => 0)) 44)) rfl 44 (.tmp 15) (.tmp 87) rfl w4.heap.size (recRow 0 true t.x) rfl rfl _ _ HY4.out (Try.infoRecRow _ _ _) rfl (recRow_one _ _ _) ?_))
        have hfy := fr_row (w4.alloc (.cells (recRow 0 false (fun _ => 0)) 44)) w4.heap.size (recRow 0 true t.x)
        have hx9 := hfy.heap HX4.out (fun hm => by have := List.mem_singleton.1 hm; have := HL4.out; omega)
        have ht9 := hfy.heap HT4.out (fun hm => by have := List.mem_singleton.1 hm; have := HL4.out; omega)
        have hy9 := setRow_heap _ _ _ (recRow 0 true t.x) _ _ HY4.out
        have hw9 := HW4.out.fr hfy (fun k hk hm => by have := List.mem_singleton.1 hm; have := HSL.out k hk; omega)
        have hb9 := Fr.below HB4.out hfy (fun k hk => by have := List.mem_singleton.1 hk; have := HL4.out; have := HL2.out; omega) (by have := heap_lt HT4.out; omega)
        obtain ⟨Yb, hYb⟩ : ∃ Yb, w4.heap.size = Yb := ⟨_, rfl⟩
        rw [hYb] at hx9 ht9 hy9 hw9 hb9 ⊢
        obtain ⟨U, hU⟩ : ∃ U, (w4.alloc (.cells (recRow 0 false (fun _ => 0)) 44)).setRow Yb (recRow 0 true t.x) = U := ⟨_, rfl⟩
        rw [hU] at hx9 ht9 hy9 hw9 hb9 ⊢
        have HXH := hid1 (fun (w' : World) (hw : ∃ q : Ext U, w' = ext U q) => show w'.heap[X]? = some (.cells (recRow draw true x) 44 (0, 0)) by obtain ⟨q, rfl⟩ := hw; exact ext_heap hx9 q)
        have HTH := hid1 (fun (w' : World) (hw : ∃ q : Ext U, w' = ext U q) => show w'.heap[B + 1]? = some (.cells (triRow t.x) 41 (0, 0)) by obtain ⟨q, rfl⟩ := hw; exact ext_heap ht9 q)
        have HYH := hid1 (fun (w' : World) (hw : ∃ q : Ext U, w' = ext U q) => show w'.heap[Yb]? = some (.cells (recRow 0 true t.x) 44 (0, 0)) by obtain ⟨q, rfl⟩ := hw; exact ext_heap hy9 q)
        obtain ⟨ln, hln, hpos⟩ : ∃ ln : Int, (((([] : List UInt8) ++ recBytes draw true x).length : Nat) : Int) = ln ∧ 0 < ln := ⟨_, rfl, recBytes_pos draw true x⟩
        have HLN := hid1 hln
        clear hln
        have HLEN := hid1 (fun q : Ext U => show Calls Try.prog 12 #[.pointer (some ⟨V2.heap.size, 0, none⟩)] (ext U q) (fun e w' => e = .returned (.int .i64 ln) ∧ ext U q = w') from (wlen_calls (hw9.fr (Fr.ofBelow (ext_below q)) (by simp))).mono (fun e w' h => ⟨h.1.trans (by rw [HLN.out]), h.2.symm⟩))
        have HB9 := hid1 hb9
        have HBU := hid1 (show B ≤ U.heap.size by have := heap_lt ht9; omega)
        clear hfy hx9 ht9 hy9 hw9 hb9 hYb hU HX4 HT4 HW4 HSL HB4 HY4 HL4 HT4P HXN HX2 HT2 HB2
        refine wp_region_grow (by kernel_rfl) (by kernel_rfl) ?_
        repeat (first
          | (refine wpQuiet_load_rowG (by rfl) 44 (.tmp 11) rfl X rfl 44 (recRow draw true x) (0, 0) _ HXH.out Try.underlying44 rfl (Try.infoRecRow _ _ _) ?_; simp only [Act.put, List.setIfInBounds_toArray, List.set_cons_succ, List.set_cons_zero])
          | (refine wpQuiet_load_rowG (by rfl) 44 (.tmp 15) rfl Yb rfl 44 (recRow 0 true t.x) (0, 0) _ HYH.out Try.underlying44 rfl (Try.infoRecRow _ _ _) ?_; simp only [Act.put, List.setIfInBounds_toArray, List.set_cons_succ, List.set_cons_zero])
          | (refine wpQuiet_load_rowG (by rfl) 41 (.tmp 9) rfl (B + 1) rfl 41 (triRow t.x) (0, 0) _ HTH.out Try.underlying41 rfl (Try.infoTri _) ?_; simp only [Act.put, List.setIfInBounds_toArray, List.set_cons_succ, List.set_cons_zero])
          | go_big_quiet_step (first
            | (go_at_call 11; first | (with_reducible exact Calls.grow (HCK.out _)) | (with_reducible exact Calls.grow (HCKY.out _)))
            | (go_at_call 13; exact Calls.grow (HCKT.out _))
            | (go_at_call 12; exact Calls.grow_same (HLEN.out _))
            | (go_at_call 10; exact Calls.grow (HNIL.out _))))
        refine wpQuiet_nil ?_
        rintro _ ⟨q, rfl⟩
        go_wp2
        go_ret
        exact ⟨rfl, by rw [HBE.out]; exact HB9.out.trans ((ext_below q).mono HBU.out)⟩
    · skip
      have hx0 := HXV.out
      have e0 : V.cell? ⟨X, 1, none⟩ = some (.bool true) := cell_at hx0 1
      have z0 := free_at hx0 1
      have hx2 := heap_set (a := ⟨X, 1, none⟩) hx0 rfl (.bool false)
      have hf2 := (Fr.refl [X] V).set ⟨X, 1, none⟩ (.inl (by simp)) (.bool false)
      have HX2a := hid1 hx2
      have HT2a := hid1 (hf2.heap HTV.out (fun hm => by have := List.mem_singleton.1 hm; have := HL2.out; omega))
      have HB2a := hid1 (Fr.below HBV.out hf2 (fun k hk => by have := List.mem_singleton.1 hk; have := HL2.out; omega) (by have := heap_lt HTV.out; omega))
      have HCH := hid1 (show chkRec 3 false x = 4 by exact chkRec_form HCHK0)
      have HNE := hid1 (show chkRec 3 false x ≠ 0 by rw [HCH.out]; decide)
      clear hx0 hx2 hf2
      go_upto_region 27 with fail
      clear e0 z0
      obtain ⟨V2, hV2⟩ : ∃ V2, V.setCell ⟨X, 1, none⟩ (.bool false) = V2 := ⟨_, rfl⟩
      rw [hV2] at HX2a HT2a HB2a ⊢
      have HX2 : Hid (V2.heap[X]? = some (.cells (recRow 3 false x) 44 (0, 0))) := HX2a
      have HT2 := HT2a
      have HB2 := HB2a
      clear HX2a HT2a HB2a hV2 HXV HTV HBV

      have hxn := heap_keep HX2.out (.cells #[.slice none 0 0] 51)
      have HXN := hid1 hxn
      have HCK := hid1 (fun w => recchk_row 3 false x w)
      rw [HCH.out] at HCK
      have HNIL := hid1 (fun w : World => recput_nil (w := w) 3 false x)
      clear hxn
      go_wp2_with (first
        | (refine wpList_load_row rfl 44 (.tmp 11) rfl X rfl _ (recRow 3 false x) _ _ HXN.out Try.underlying44 rfl (Try.infoRecRow _ _ _) ?_)
        | (go_at_call 10; refine (recput_no 3 false x HNE.out).mono ?_; rw [HCH.out]; rintro e w4 ⟨rfl, hb4⟩; have hnx : X < V2.heap.size := heap_lt HX2.out; have hnt : B + 1 < V2.heap.size := heap_lt HT2.out; have HX4 := hid1 (heap_keep ((Fr.ofBelow hb4).heap (heap_keep HX2.out (.cells #[.slice none 0 0] 51)) (by simp)) (.cells (recRow 0 false (fun _ => 0)) 44)); have HT4 := hid1 (heap_keep ((Fr.ofBelow hb4).heap (heap_keep HT2.out (.cells #[.slice none 0 0] 51)) (by simp)) (.cells (recRow 0 false (fun _ => 0)) 44)); have HT4P := hid1 ((Fr.ofBelow hb4).heap (heap_keep HT2.out (.cells #[.slice none 0 0] 51)) (by simp)); have hw4 := (HWO.out V2).fr (Fr.ofBelow hb4) (by simp); have HW4 := hid1 (hw4.fr (fr_alloc w4 (.cells (recRow 0 false (fun _ => 0)) 44)) (fun _ _ h => by cases h)); have HSL := hid1 hw4.lt; have hb5 := (HB2.out.alloc (by omega) (.cells #[.slice none 0 0] 51)).trans (hb4.mono (by simp; omega)); have HB4 := hid1 (hb5.alloc (by have := hb4.size; simp at this; omega) (.cells (recRow 0 false (fun _ => 0)) 44)); have HY4 := hid1 (heap_new w4 (.cells (recRow 0 false (fun _ => 0)) 44)); have HL4 := hid1 (show X < w4.heap.size ∧ B + 1 < w4.heap.size from ⟨heap_lt ((Fr.ofBelow hb4).heap (heap_keep HX2.out (.cells #[.slice none 0 0] 51)) (by simp)), heap_lt ((Fr.ofBelow hb4).heap (heap_keep HT2.out (.cells #[.slice none 0 0] 51)) (by simp))⟩); clear hw4 hb4 hb5 hnx hnt)
        | (refine wpList_load_row rfl 41 (.tmp 9) rfl (B + 1) rfl _ (triRow t.x) _ _ HT4P.out Try.underlying41 rfl (Try.infoTri _) ?_)
        | (refine wpList_buildTo rfl 44 _ rfl (some 87) rfl (recRow 0 true t.x) (by kernel_rfl) ?_)
        | (refine wpList_store_row (w := w4.alloc (.cells (recRow 0 false (fun _ => 0)) 44)) rfl 44 (.tmp 15) (.tmp 87) rfl w4.heap.size (recRow 0 true t.x) rfl rfl _ _ HY4.out (Try.infoRecRow _ _ _) rfl (recRow_one _ _ _) ?_))
      have hfy := fr_row (w4.alloc (.cells (recRow 0 false (fun _ => 0)) 44)) w4.heap.size (recRow 0 true t.x)
      have hx9 := hfy.heap HX4.out (fun hm => by have := List.mem_singleton.1 hm; have := HL4.out; omega)
      have ht9 := hfy.heap HT4.out (fun hm => by have := List.mem_singleton.1 hm; have := HL4.out; omega)
      have hy9 := setRow_heap _ _ _ (recRow 0 true t.x) _ _ HY4.out
      have hw9 := HW4.out.fr hfy (fun k hk hm => by have := List.mem_singleton.1 hm; have := HSL.out k hk; omega)
      have hb9 := Fr.below HB4.out hfy (fun k hk => by have := List.mem_singleton.1 hk; have := HL4.out; have := HL2.out; omega) (by have := heap_lt HT4.out; omega)
      obtain ⟨Yb, hYb⟩ : ∃ Yb, w4.heap.size = Yb := ⟨_, rfl⟩
      rw [hYb] at hx9 ht9 hy9 hw9 hb9 ⊢
      obtain ⟨U, hU⟩ : ∃ U, (w4.alloc (.cells (recRow 0 false (fun _ => 0)) 44)).setRow Yb (recRow 0 true t.x) = U := ⟨_, rfl⟩
      rw [hU] at hx9 ht9 hy9 hw9 hb9 ⊢
      have HXH := hid1 (fun (w' : World) (hw : ∃ q : Ext U, w' = ext U q) => show w'.heap[X]? = some (.cells (recRow 3 false x) 44 (0, 0)) by obtain ⟨q, rfl⟩ := hw; exact ext_heap hx9 q)
      have HTH := hid1 (fun (w' : World) (hw : ∃ q : Ext U, w' = ext U q) => show w'.heap[B + 1]? = some (.cells (triRow t.x) 41 (0, 0)) by obtain ⟨q, rfl⟩ := hw; exact ext_heap ht9 q)
      have HYH := hid1 (fun (w' : World) (hw : ∃ q : Ext U, w' = ext U q) => show w'.heap[Yb]? = some (.cells (recRow 0 true t.x) 44 (0, 0)) by obtain ⟨q, rfl⟩ := hw; exact ext_heap hy9 q)
      have HLN := hid1 (show (((([] : List UInt8)).length : Nat) : Int) = 0 from rfl)
      have HLEN := hid1 (fun q : Ext U => show Calls Try.prog 12 #[.pointer (some ⟨V2.heap.size, 0, none⟩)] (ext U q) (fun e w' => e = .returned (.int .i64 0) ∧ ext U q = w') from (wlen_calls (hw9.fr (Fr.ofBelow (ext_below q)) (by simp))).mono (fun e w' h => ⟨h.1.trans (by rw [HLN.out]), h.2.symm⟩))
      have HB9 := hid1 hb9
      have HBU := hid1 (show B ≤ U.heap.size by have := heap_lt ht9; omega)
      clear hfy hx9 ht9 hy9 hw9 hb9 hYb hU HX4 HT4 HW4 HSL HB4 HY4 HL4 HT4P HXN HX2 HT2 HB2
      refine wp_region_grow (by kernel_rfl) (by kernel_rfl) ?_
      repeat (first
        | (refine wpQuiet_load_rowG (by rfl) 44 (.tmp 11) rfl X rfl 44 (recRow 3 false x) (0, 0) _ HXH.out Try.underlying44 rfl (Try.infoRecRow _ _ _) ?_; simp only [Act.put, List.setIfInBounds_toArray, List.set_cons_succ, List.set_cons_zero])
        | (refine wpQuiet_load_rowG (by rfl) 44 (.tmp 15) rfl Yb rfl 44 (recRow 0 true t.x) (0, 0) _ HYH.out Try.underlying44 rfl (Try.infoRecRow _ _ _) ?_; simp only [Act.put, List.setIfInBounds_toArray, List.set_cons_succ, List.set_cons_zero])
        | (refine wpQuiet_load_rowG (by rfl) 41 (.tmp 9) rfl (B + 1) rfl 41 (triRow t.x) (0, 0) _ HTH.out Try.underlying41 rfl (Try.infoTri _) ?_; simp only [Act.put, List.setIfInBounds_toArray, List.set_cons_succ, List.set_cons_zero])
        | go_big_quiet_step (first
          | (go_at_call 11; first | (with_reducible exact Calls.grow (HCK.out _)) | (with_reducible exact Calls.grow (HCKY.out _)))
          | (go_at_call 13; exact Calls.grow (HCKT.out _))
          | (go_at_call 12; exact Calls.grow_same (HLEN.out _))
          | (go_at_call 10; exact Calls.grow (HNIL.out _))))
      refine wpQuiet_nil ?_
      rintro _ ⟨q, rfl⟩
      go_wp2
      go_ret
      exact ⟨rfl, by rw [HBE.out]; exact HB9.out.trans ((ext_below q).mono HBU.out)⟩
    · rcases (show n < 0 ∨ (¬ n < 0 ∧ 65535 < n) ∨ (¬ n < 0 ∧ ¬ 65535 < n) by omega) with hr | hr | hr
      · skip
        have d0 : decide (n < 0) = true := by simpa using hr
        have hx0 := HXV.out
        have e0 : V.cell? ⟨X, 9, none⟩ = some (.int .i64 (x 7)) := cell_at hx0 9
        have z0 := free_at hx0 9
        have hx2 := heap_set (a := ⟨X, 9, none⟩) hx0 rfl (.int .i64 n)
        have hf2 := (Fr.refl [X] V).set ⟨X, 9, none⟩ (.inl (by simp)) (.int .i64 n)
        have HX2a := hid1 hx2
        have HT2a := hid1 (hf2.heap HTV.out (fun hm => by have := List.mem_singleton.1 hm; have := HL2.out; omega))
        have HB2a := hid1 (Fr.below HBV.out hf2 (fun k hk => by have := List.mem_singleton.1 hk; have := HL2.out; omega) (by have := heap_lt HTV.out; omega))
        have HCH := hid1 (show chkRec 3 true (upd x 7 n) = 2 by rw [chkRec_true (by omega)]; exact bad7 (by omega))
        have HNE := hid1 (show chkRec 3 true (upd x 7 n) ≠ 0 by rw [HCH.out]; decide)
        clear hx0 hx2 hf2
        go_upto_region 27 with fail
        clear e0 z0
        obtain ⟨V2, hV2⟩ : ∃ V2, V.setCell ⟨X, 9, none⟩ (.int .i64 n) = V2 := ⟨_, rfl⟩
        rw [hV2] at HX2a HT2a HB2a ⊢
        have HX2 : Hid (V2.heap[X]? = some (.cells (recRow 3 true (upd x 7 n)) 44 (0, 0))) := HX2a
        have HT2 := HT2a
        have HB2 := HB2a
        clear HX2a HT2a HB2a hV2 HXV HTV HBV

        have hxn := heap_keep HX2.out (.cells #[.slice none 0 0] 51)
        have HXN := hid1 hxn
        have HCK := hid1 (fun w => recchk_row 3 true (upd x 7 n) w)
        rw [HCH.out] at HCK
        have HNIL := hid1 (fun w : World => recput_nil (w := w) 3 true (upd x 7 n))
        clear hxn
        go_wp2_with (first
          | (refine wpList_load_row rfl 44 (.tmp 11) rfl X rfl _ (recRow 3 true (upd x 7 n)) _ _ HXN.out Try.underlying44 rfl (Try.infoRecRow _ _ _) ?_)
          | (go_at_call 10; refine (recput_no 3 true (upd x 7 n) HNE.out).mono ?_; rw [HCH.out]; rintro e w4 ⟨rfl, hb4⟩; have hnx : X < V2.heap.size := heap_lt HX2.out; have hnt : B + 1 < V2.heap.size := heap_lt HT2.out; have HX4 := hid1 (heap_keep ((Fr.ofBelow hb4).heap (heap_keep HX2.out (.cells #[.slice none 0 0] 51)) (by simp)) (.cells (recRow 0 false (fun _ => 0)) 44)); have HT4 := hid1 (heap_keep ((Fr.ofBelow hb4).heap (heap_keep HT2.out (.cells #[.slice none 0 0] 51)) (by simp)) (.cells (recRow 0 false (fun _ => 0)) 44)); have HT4P := hid1 ((Fr.ofBelow hb4).heap (heap_keep HT2.out (.cells #[.slice none 0 0] 51)) (by simp)); have hw4 := (HWO.out V2).fr (Fr.ofBelow hb4) (by simp); have HW4 := hid1 (hw4.fr (fr_alloc w4 (.cells (recRow 0 false (fun _ => 0)) 44)) (fun _ _ h => by cases h)); have HSL := hid1 hw4.lt; have hb5 := (HB2.out.alloc (by omega) (.cells #[.slice none 0 0] 51)).trans (hb4.mono (by simp; omega)); have HB4 := hid1 (hb5.alloc (by have := hb4.size; simp at this; omega) (.cells (recRow 0 false (fun _ => 0)) 44)); have HY4 := hid1 (heap_new w4 (.cells (recRow 0 false (fun _ => 0)) 44)); have HL4 := hid1 (show X < w4.heap.size ∧ B + 1 < w4.heap.size from ⟨heap_lt ((Fr.ofBelow hb4).heap (heap_keep HX2.out (.cells #[.slice none 0 0] 51)) (by simp)), heap_lt ((Fr.ofBelow hb4).heap (heap_keep HT2.out (.cells #[.slice none 0 0] 51)) (by simp))⟩); clear hw4 hb4 hb5 hnx hnt)
          | (refine wpList_load_row rfl 41 (.tmp 9) rfl (B + 1) rfl _ (triRow t.x) _ _ HT4P.out Try.underlying41 rfl (Try.infoTri _) ?_)
          | (refine wpList_buildTo rfl 44 _ rfl (some 87) rfl (recRow 0 true t.x) (by kernel_rfl) ?_)
          | (refine wpList_store_row (w := w4.alloc (.cells (recRow 0 false (fun _ => 0)) 44)) rfl 44 (.tmp 15) (.tmp 87) rfl w4.heap.size (recRow 0 true t.x) rfl rfl _ _ HY4.out (Try.infoRecRow _ _ _) rfl (recRow_one _ _ _) ?_))
        have hfy := fr_row (w4.alloc (.cells (recRow 0 false (fun _ => 0)) 44)) w4.heap.size (recRow 0 true t.x)
        have hx9 := hfy.heap HX4.out (fun hm => by have := List.mem_singleton.1 hm; have := HL4.out; omega)
        have ht9 := hfy.heap HT4.out (fun hm => by have := List.mem_singleton.1 hm; have := HL4.out; omega)
        have hy9 := setRow_heap _ _ _ (recRow 0 true t.x) _ _ HY4.out
        have hw9 := HW4.out.fr hfy (fun k hk hm => by have := List.mem_singleton.1 hm; have := HSL.out k hk; omega)
        have hb9 := Fr.below HB4.out hfy (fun k hk => by have := List.mem_singleton.1 hk; have := HL4.out; have := HL2.out; omega) (by have := heap_lt HT4.out; omega)
        obtain ⟨Yb, hYb⟩ : ∃ Yb, w4.heap.size = Yb := ⟨_, rfl⟩
        rw [hYb] at hx9 ht9 hy9 hw9 hb9 ⊢
        obtain ⟨U, hU⟩ : ∃ U, (w4.alloc (.cells (recRow 0 false (fun _ => 0)) 44)).setRow Yb (recRow 0 true t.x) = U := ⟨_, rfl⟩
        rw [hU] at hx9 ht9 hy9 hw9 hb9 ⊢
        have HXH := hid1 (fun (w' : World) (hw : ∃ q : Ext U, w' = ext U q) => show w'.heap[X]? = some (.cells (recRow 3 true (upd x 7 n)) 44 (0, 0)) by obtain ⟨q, rfl⟩ := hw; exact ext_heap hx9 q)
        have HTH := hid1 (fun (w' : World) (hw : ∃ q : Ext U, w' = ext U q) => show w'.heap[B + 1]? = some (.cells (triRow t.x) 41 (0, 0)) by obtain ⟨q, rfl⟩ := hw; exact ext_heap ht9 q)
        have HYH := hid1 (fun (w' : World) (hw : ∃ q : Ext U, w' = ext U q) => show w'.heap[Yb]? = some (.cells (recRow 0 true t.x) 44 (0, 0)) by obtain ⟨q, rfl⟩ := hw; exact ext_heap hy9 q)
        have HLN := hid1 (show (((([] : List UInt8)).length : Nat) : Int) = 0 from rfl)
        have HLEN := hid1 (fun q : Ext U => show Calls Try.prog 12 #[.pointer (some ⟨V2.heap.size, 0, none⟩)] (ext U q) (fun e w' => e = .returned (.int .i64 0) ∧ ext U q = w') from (wlen_calls (hw9.fr (Fr.ofBelow (ext_below q)) (by simp))).mono (fun e w' h => ⟨h.1.trans (by rw [HLN.out]), h.2.symm⟩))
        have HB9 := hid1 hb9
        have HBU := hid1 (show B ≤ U.heap.size by have := heap_lt ht9; omega)
        clear hfy hx9 ht9 hy9 hw9 hb9 hYb hU HX4 HT4 HW4 HSL HB4 HY4 HL4 HT4P HXN HX2 HT2 HB2
        refine wp_region_grow (by kernel_rfl) (by kernel_rfl) ?_
        repeat (first
          | (refine wpQuiet_load_rowG (by rfl) 44 (.tmp 11) rfl X rfl 44 (recRow 3 true (upd x 7 n)) (0, 0) _ HXH.out Try.underlying44 rfl (Try.infoRecRow _ _ _) ?_; simp only [Act.put, List.setIfInBounds_toArray, List.set_cons_succ, List.set_cons_zero])
          | (refine wpQuiet_load_rowG (by rfl) 44 (.tmp 15) rfl Yb rfl 44 (recRow 0 true t.x) (0, 0) _ HYH.out Try.underlying44 rfl (Try.infoRecRow _ _ _) ?_; simp only [Act.put, List.setIfInBounds_toArray, List.set_cons_succ, List.set_cons_zero])
          | (refine wpQuiet_load_rowG (by rfl) 41 (.tmp 9) rfl (B + 1) rfl 41 (triRow t.x) (0, 0) _ HTH.out Try.underlying41 rfl (Try.infoTri _) ?_; simp only [Act.put, List.setIfInBounds_toArray, List.set_cons_succ, List.set_cons_zero])
          | go_big_quiet_step (first
            | (go_at_call 11; first | (with_reducible exact Calls.grow (HCK.out _)) | (with_reducible exact Calls.grow (HCKY.out _)))
            | (go_at_call 13; exact Calls.grow (HCKT.out _))
            | (go_at_call 12; exact Calls.grow_same (HLEN.out _))
            | (go_at_call 10; exact Calls.grow (HNIL.out _))))
        refine wpQuiet_nil ?_
        rintro _ ⟨q, rfl⟩
        go_wp2
        go_ret
        exact ⟨rfl, by rw [HBE.out]; exact HB9.out.trans ((ext_below q).mono HBU.out)⟩

      · skip
        have d0 : decide (n < 0) = false := by simpa using hr.1
        have d1 : decide (n > 65535) = true := by simpa using hr.2
        have hx0 := HXV.out
        have e0 : V.cell? ⟨X, 9, none⟩ = some (.int .i64 (x 7)) := cell_at hx0 9
        have z0 := free_at hx0 9
        have hx2 := heap_set (a := ⟨X, 9, none⟩) hx0 rfl (.int .i64 n)
        have hf2 := (Fr.refl [X] V).set ⟨X, 9, none⟩ (.inl (by simp)) (.int .i64 n)
        have HX2a := hid1 hx2
        have HT2a := hid1 (hf2.heap HTV.out (fun hm => by have := List.mem_singleton.1 hm; have := HL2.out; omega))
        have HB2a := hid1 (Fr.below HBV.out hf2 (fun k hk => by have := List.mem_singleton.1 hk; have := HL2.out; omega) (by have := heap_lt HTV.out; omega))
        have HCH := hid1 (show chkRec 3 true (upd x 7 n) = 2 by rw [chkRec_true (by omega)]; exact bad7 (by omega))
        have HNE := hid1 (show chkRec 3 true (upd x 7 n) ≠ 0 by rw [HCH.out]; decide)
        clear hx0 hx2 hf2
        go_upto_region 27 with fail
        clear e0 z0
        obtain ⟨V2, hV2⟩ : ∃ V2, V.setCell ⟨X, 9, none⟩ (.int .i64 n) = V2 := ⟨_, rfl⟩
        rw [hV2] at HX2a HT2a HB2a ⊢
        have HX2 : Hid (V2.heap[X]? = some (.cells (recRow 3 true (upd x 7 n)) 44 (0, 0))) := HX2a
        have HT2 := HT2a
        have HB2 := HB2a
        clear HX2a HT2a HB2a hV2 HXV HTV HBV

        have hxn := heap_keep HX2.out (.cells #[.slice none 0 0] 51)
        have HXN := hid1 hxn
        have HCK := hid1 (fun w => recchk_row 3 true (upd x 7 n) w)
        rw [HCH.out] at HCK
        have HNIL := hid1 (fun w : World => recput_nil (w := w) 3 true (upd x 7 n))
        clear hxn
        go_wp2_with (first
          | (refine wpList_load_row rfl 44 (.tmp 11) rfl X rfl _ (recRow 3 true (upd x 7 n)) _ _ HXN.out Try.underlying44 rfl (Try.infoRecRow _ _ _) ?_)
          | (go_at_call 10; refine (recput_no 3 true (upd x 7 n) HNE.out).mono ?_; rw [HCH.out]; rintro e w4 ⟨rfl, hb4⟩; have hnx : X < V2.heap.size := heap_lt HX2.out; have hnt : B + 1 < V2.heap.size := heap_lt HT2.out; have HX4 := hid1 (heap_keep ((Fr.ofBelow hb4).heap (heap_keep HX2.out (.cells #[.slice none 0 0] 51)) (by simp)) (.cells (recRow 0 false (fun _ => 0)) 44)); have HT4 := hid1 (heap_keep ((Fr.ofBelow hb4).heap (heap_keep HT2.out (.cells #[.slice none 0 0] 51)) (by simp)) (.cells (recRow 0 false (fun _ => 0)) 44)); have HT4P := hid1 ((Fr.ofBelow hb4).heap (heap_keep HT2.out (.cells #[.slice none 0 0] 51)) (by simp)); have hw4 := (HWO.out V2).fr (Fr.ofBelow hb4) (by simp); have HW4 := hid1 (hw4.fr (fr_alloc w4 (.cells (recRow 0 false (fun _ => 0)) 44)) (fun _ _ h => by cases h)); have HSL := hid1 hw4.lt; have hb5 := (HB2.out.alloc (by omega) (.cells #[.slice none 0 0] 51)).trans (hb4.mono (by simp; omega)); have HB4 := hid1 (hb5.alloc (by have := hb4.size; simp at this; omega) (.cells (recRow 0 false (fun _ => 0)) 44)); have HY4 := hid1 (heap_new w4 (.cells (recRow 0 false (fun _ => 0)) 44)); have HL4 := hid1 (show X < w4.heap.size ∧ B + 1 < w4.heap.size from ⟨heap_lt ((Fr.ofBelow hb4).heap (heap_keep HX2.out (.cells #[.slice none 0 0] 51)) (by simp)), heap_lt ((Fr.ofBelow hb4).heap (heap_keep HT2.out (.cells #[.slice none 0 0] 51)) (by simp))⟩); clear hw4 hb4 hb5 hnx hnt)
          | (refine wpList_load_row rfl 41 (.tmp 9) rfl (B + 1) rfl _ (triRow t.x) _ _ HT4P.out Try.underlying41 rfl (Try.infoTri _) ?_)
          | (refine wpList_buildTo rfl 44 _ rfl (some 87) rfl (recRow 0 true t.x) (by kernel_rfl) ?_)
          | (refine wpList_store_row (w := w4.alloc (.cells (recRow 0 false (fun _ => 0)) 44)) rfl 44 (.tmp 15) (.tmp 87) rfl w4.heap.size (recRow 0 true t.x) rfl rfl _ _ HY4.out (Try.infoRecRow _ _ _) rfl (recRow_one _ _ _) ?_))
        have hfy := fr_row (w4.alloc (.cells (recRow 0 false (fun _ => 0)) 44)) w4.heap.size (recRow 0 true t.x)
        have hx9 := hfy.heap HX4.out (fun hm => by have := List.mem_singleton.1 hm; have := HL4.out; omega)
        have ht9 := hfy.heap HT4.out (fun hm => by have := List.mem_singleton.1 hm; have := HL4.out; omega)
        have hy9 := setRow_heap _ _ _ (recRow 0 true t.x) _ _ HY4.out
        have hw9 := HW4.out.fr hfy (fun k hk hm => by have := List.mem_singleton.1 hm; have := HSL.out k hk; omega)
        have hb9 := Fr.below HB4.out hfy (fun k hk => by have := List.mem_singleton.1 hk; have := HL4.out; have := HL2.out; omega) (by have := heap_lt HT4.out; omega)
        obtain ⟨Yb, hYb⟩ : ∃ Yb, w4.heap.size = Yb := ⟨_, rfl⟩
        rw [hYb] at hx9 ht9 hy9 hw9 hb9 ⊢
        obtain ⟨U, hU⟩ : ∃ U, (w4.alloc (.cells (recRow 0 false (fun _ => 0)) 44)).setRow Yb (recRow 0 true t.x) = U := ⟨_, rfl⟩
        rw [hU] at hx9 ht9 hy9 hw9 hb9 ⊢
        have HXH := hid1 (fun (w' : World) (hw : ∃ q : Ext U, w' = ext U q) => show w'.heap[X]? = some (.cells (recRow 3 true (upd x 7 n)) 44 (0, 0)) by obtain ⟨q, rfl⟩ := hw; exact ext_heap hx9 q)
        have HTH := hid1 (fun (w' : World) (hw : ∃ q : Ext U, w' = ext U q) => show w'.heap[B + 1]? = some (.cells (triRow t.x) 41 (0, 0)) by obtain ⟨q, rfl⟩ := hw; exact ext_heap ht9 q)
        have HYH := hid1 (fun (w' : World) (hw : ∃ q : Ext U, w' = ext U q) => show w'.heap[Yb]? = some (.cells (recRow 0 true t.x) 44 (0, 0)) by obtain ⟨q, rfl⟩ := hw; exact ext_heap hy9 q)
        have HLN := hid1 (show (((([] : List UInt8)).length : Nat) : Int) = 0 from rfl)
        have HLEN := hid1 (fun q : Ext U => show Calls Try.prog 12 #[.pointer (some ⟨V2.heap.size, 0, none⟩)] (ext U q) (fun e w' => e = .returned (.int .i64 0) ∧ ext U q = w') from (wlen_calls (hw9.fr (Fr.ofBelow (ext_below q)) (by simp))).mono (fun e w' h => ⟨h.1.trans (by rw [HLN.out]), h.2.symm⟩))
        have HB9 := hid1 hb9
        have HBU := hid1 (show B ≤ U.heap.size by have := heap_lt ht9; omega)
        clear hfy hx9 ht9 hy9 hw9 hb9 hYb hU HX4 HT4 HW4 HSL HB4 HY4 HL4 HT4P HXN HX2 HT2 HB2
        refine wp_region_grow (by kernel_rfl) (by kernel_rfl) ?_
        repeat (first
          | (refine wpQuiet_load_rowG (by rfl) 44 (.tmp 11) rfl X rfl 44 (recRow 3 true (upd x 7 n)) (0, 0) _ HXH.out Try.underlying44 rfl (Try.infoRecRow _ _ _) ?_; simp only [Act.put, List.setIfInBounds_toArray, List.set_cons_succ, List.set_cons_zero])
          | (refine wpQuiet_load_rowG (by rfl) 44 (.tmp 15) rfl Yb rfl 44 (recRow 0 true t.x) (0, 0) _ HYH.out Try.underlying44 rfl (Try.infoRecRow _ _ _) ?_; simp only [Act.put, List.setIfInBounds_toArray, List.set_cons_succ, List.set_cons_zero])
          | (refine wpQuiet_load_rowG (by rfl) 41 (.tmp 9) rfl (B + 1) rfl 41 (triRow t.x) (0, 0) _ HTH.out Try.underlying41 rfl (Try.infoTri _) ?_; simp only [Act.put, List.setIfInBounds_toArray, List.set_cons_succ, List.set_cons_zero])
          | go_big_quiet_step (first
            | (go_at_call 11; first | (with_reducible exact Calls.grow (HCK.out _)) | (with_reducible exact Calls.grow (HCKY.out _)))
            | (go_at_call 13; exact Calls.grow (HCKT.out _))
            | (go_at_call 12; exact Calls.grow_same (HLEN.out _))
            | (go_at_call 10; exact Calls.grow (HNIL.out _))))
        refine wpQuiet_nil ?_
        rintro _ ⟨q, rfl⟩
        go_wp2
        go_ret
        exact ⟨rfl, by rw [HBE.out]; exact HB9.out.trans ((ext_below q).mono HBU.out)⟩

      · skip
        have d0 : decide (n < 0) = false := by simpa using hr.1
        have d1 : decide (n > 65535) = false := by simpa using hr.2
        have hx0 := HXV.out
        have e0 : V.cell? ⟨X, 9, none⟩ = some (.int .i64 (x 7)) := cell_at hx0 9
        have z0 := free_at hx0 9
        have hx2 := heap_set (a := ⟨X, 9, none⟩) hx0 rfl (.int .i64 n)
        have hf2 := (Fr.refl [X] V).set ⟨X, 9, none⟩ (.inl (by simp)) (.int .i64 n)
        have HX2a := hid1 hx2
        have HT2a := hid1 (hf2.heap HTV.out (fun hm => by have := List.mem_singleton.1 hm; have := HL2.out; omega))
        have HB2a := hid1 (Fr.below HBV.out hf2 (fun k hk => by have := List.mem_singleton.1 hk; have := HL2.out; omega) (by have := heap_lt HTV.out; omega))
        have HCH := hid1 (show chkRec 3 true (upd x 7 n) = 0 by rw [chkRec_true (by omega)]; exact good7 (HSM.out rfl) HCHK0 (by omega))
        clear hx0 hx2 hf2
        go_upto_region 27 with fail
        clear e0 z0
        obtain ⟨V2, hV2⟩ : ∃ V2, V.setCell ⟨X, 9, none⟩ (.int .i64 n) = V2 := ⟨_, rfl⟩
        rw [hV2] at HX2a HT2a HB2a ⊢
        have HX2 : Hid (V2.heap[X]? = some (.cells (recRow 3 true (upd x 7 n)) 44 (0, 0))) := HX2a
        have HT2 := HT2a
        have HB2 := HB2a
        clear HX2a HT2a HB2a hV2 HXV HTV HBV

        have hxn := heap_keep HX2.out (.cells #[.slice none 0 0] 51)
        have HXN := hid1 hxn
        have HCK := hid1 (fun w => recchk_row 3 true (upd x 7 n) w)
        rw [HCH.out] at HCK
        have HNIL := hid1 (fun w : World => recput_nil (w := w) 3 true (upd x 7 n))
        clear hxn
        go_wp2_with (first
          | (refine wpList_load_row rfl 44 (.tmp 11) rfl X rfl _ (recRow 3 true (upd x 7 n)) _ _ HXN.out Try.underlying44 rfl (Try.infoRecRow _ _ _) ?_)
          | (go_at_call 10; refine (recput_calls (HWO.out V2) (by decide) 3 true (upd x 7 n) HCH.out).mono ?_; rintro e w4 ⟨rfl, S4, hw4, hg4, hf4⟩; have hnx : X < V2.heap.size := heap_lt HX2.out; have hnt : B + 1 < V2.heap.size := heap_lt HT2.out; have HX4 := hid1 (heap_keep (hf4.heap (heap_keep HX2.out (.cells #[.slice none 0 0] 51)) (fun hm => by have := List.mem_singleton.1 hm; omega)) (.cells (recRow 0 false (fun _ => 0)) 44)); have HT4 := hid1 (heap_keep (hf4.heap (heap_keep HT2.out (.cells #[.slice none 0 0] 51)) (fun hm => by have := List.mem_singleton.1 hm; omega)) (.cells (recRow 0 false (fun _ => 0)) 44)); have HT4P := hid1 (hf4.heap (heap_keep HT2.out (.cells #[.slice none 0 0] 51)) (fun hm => by have := List.mem_singleton.1 hm; omega)); have HW4 := hid1 (hw4.fr (fr_alloc w4 (.cells (recRow 0 false (fun _ => 0)) 44)) (fun _ _ h => by cases h)); have HSL := hid1 hw4.lt; have hb4 := Fr.below (HB2.out.alloc (by omega) (.cells #[.slice none 0 0] 51)) hf4 (fun k hk => by have := List.mem_singleton.1 hk; omega) (by simp; omega); have HB4 := hid1 (hb4.alloc (by have := hf4.size; simp at this; omega) (.cells (recRow 0 false (fun _ => 0)) 44)); have HY4 := hid1 (heap_new w4 (.cells (recRow 0 false (fun _ => 0)) 44)); have HL4 := hid1 (show X < w4.heap.size ∧ B + 1 < w4.heap.size from ⟨heap_lt (hf4.heap (heap_keep HX2.out (.cells #[.slice none 0 0] 51)) (fun hm => by have := List.mem_singleton.1 hm; omega)), heap_lt (hf4.heap (heap_keep HT2.out (.cells #[.slice none 0 0] 51)) (fun hm => by have := List.mem_singleton.1 hm; omega))⟩); clear hw4 hg4 hf4 hb4 hnx hnt)
          | (refine wpList_load_row rfl 41 (.tmp 9) rfl (B + 1) rfl _ (triRow t.x) _ _ HT4P.out Try.underlying41 rfl (Try.infoTri _) ?_)
          | (refine wpList_buildTo rfl 44 _ rfl (some 87) rfl (recRow 0 true t.x) (by kernel_rfl) ?_)
          | (refine wpList_store_row (w := w4.alloc (.cells (recRow 0 false (fun _ => 0)) 44)) rfl 44 (.tmp 15) (.tmp 87) rfl w4.heap.size (recRow 0 true t.x) rfl rfl _ _ HY4.out (Try.infoRecRow _ _ _) rfl (recRow_one _ _ _) ?_))
        have hfy := fr_row (w4.alloc (.cells (recRow 0 false (fun _ => 0)) 44)) w4.heap.size (recRow 0 true t.x)
        have hx9 := hfy.heap HX4.out (fun hm => by have := List.mem_singleton.1 hm; have := HL4.out; omega)
        have ht9 := hfy.heap HT4.out (fun hm => by have := List.mem_singleton.1 hm; have := HL4.out; omega)
        have hy9 := setRow_heap _ _ _ (recRow 0 true t.x) _ _ HY4.out
        have hw9 := HW4.out.fr hfy (fun k hk hm => by have := List.mem_singleton.1 hm; have := HSL.out k hk; omega)
        have hb9 := Fr.below HB4.out hfy (fun k hk => by have := List.mem_singleton.1 hk; have := HL4.out; have := HL2.out; omega) (by have := heap_lt HT4.out; omega)
        obtain ⟨Yb, hYb⟩ : ∃ Yb, w4.heap.size = Yb := ⟨_, rfl⟩
        rw [hYb] at hx9 ht9 hy9 hw9 hb9 ⊢
        obtain ⟨U, hU⟩ : ∃ U, (w4.alloc (.cells (recRow 0 false (fun _ => 0)) 44)).setRow Yb (recRow 0 true t.x) = U := ⟨_, rfl⟩
        rw [hU] at hx9 ht9 hy9 hw9 hb9 ⊢
        have HXH := hid1 (fun (w' : World) (hw : ∃ q : Ext U, w' = ext U q) => show w'.heap[X]? = some (.cells (recRow 3 true (upd x 7 n)) 44 (0, 0)) by obtain ⟨q, rfl⟩ := hw; exact ext_heap hx9 q)
        have HTH := hid1 (fun (w' : World) (hw : ∃ q : Ext U, w' = ext U q) => show w'.heap[B + 1]? = some (.cells (triRow t.x) 41 (0, 0)) by obtain ⟨q, rfl⟩ := hw; exact ext_heap ht9 q)
        have HYH := hid1 (fun (w' : World) (hw : ∃ q : Ext U, w' = ext U q) => show w'.heap[Yb]? = some (.cells (recRow 0 true t.x) 44 (0, 0)) by obtain ⟨q, rfl⟩ := hw; exact ext_heap hy9 q)
        obtain ⟨ln, hln, hpos⟩ : ∃ ln : Int, (((([] : List UInt8) ++ recBytes 3 true (upd x 7 n)).length : Nat) : Int) = ln ∧ 0 < ln := ⟨_, rfl, recBytes_pos 3 true (upd x 7 n)⟩
        have HLN := hid1 hln
        clear hln
        have HLEN := hid1 (fun q : Ext U => show Calls Try.prog 12 #[.pointer (some ⟨V2.heap.size, 0, none⟩)] (ext U q) (fun e w' => e = .returned (.int .i64 ln) ∧ ext U q = w') from (wlen_calls (hw9.fr (Fr.ofBelow (ext_below q)) (by simp))).mono (fun e w' h => ⟨h.1.trans (by rw [HLN.out]), h.2.symm⟩))
        have HB9 := hid1 hb9
        have HBU := hid1 (show B ≤ U.heap.size by have := heap_lt ht9; omega)
        clear hfy hx9 ht9 hy9 hw9 hb9 hYb hU HX4 HT4 HW4 HSL HB4 HY4 HL4 HT4P HXN HX2 HT2 HB2
        refine wp_region_grow (by kernel_rfl) (by kernel_rfl) ?_
        repeat (first
          | (refine wpQuiet_load_rowG (by rfl) 44 (.tmp 11) rfl X rfl 44 (recRow 3 true (upd x 7 n)) (0, 0) _ HXH.out Try.underlying44 rfl (Try.infoRecRow _ _ _) ?_; simp only [Act.put, List.setIfInBounds_toArray, List.set_cons_succ, List.set_cons_zero])
          | (refine wpQuiet_load_rowG (by rfl) 44 (.tmp 15) rfl Yb rfl 44 (recRow 0 true t.x) (0, 0) _ HYH.out Try.underlying44 rfl (Try.infoRecRow _ _ _) ?_; simp only [Act.put, List.setIfInBounds_toArray, List.set_cons_succ, List.set_cons_zero])
          | (refine wpQuiet_load_rowG (by rfl) 41 (.tmp 9) rfl (B + 1) rfl 41 (triRow t.x) (0, 0) _ HTH.out Try.underlying41 rfl (Try.infoTri _) ?_; simp only [Act.put, List.setIfInBounds_toArray, List.set_cons_succ, List.set_cons_zero])
          | go_big_quiet_step (first
            | (go_at_call 11; first | (with_reducible exact Calls.grow (HCK.out _)) | (with_reducible exact Calls.grow (HCKY.out _)))
            | (go_at_call 13; exact Calls.grow (HCKT.out _))
            | (go_at_call 12; exact Calls.grow_same (HLEN.out _))
            | (go_at_call 10; exact Calls.grow (HNIL.out _))))
        refine wpQuiet_nil ?_
        rintro _ ⟨q, rfl⟩
        go_wp2
        go_ret
        exact ⟨rfl, by rw [HBE.out]; exact HB9.out.trans ((ext_below q).mono HBU.out)⟩
    · rcases (show n < 1 ∨ (¬ n < 1 ∧ 1024 < n) ∨ (¬ n < 1 ∧ ¬ 1024 < n) by omega) with hr | hr | hr
      · skip
        have d0 : decide (n < 1) = true := by simpa using hr
        have hx0 := HXV.out
        have e0 : V.cell? ⟨X, 13, none⟩ = some (.int .i64 (x 11)) := cell_at hx0 13
        have z0 := free_at hx0 13
        have hx2 := heap_set (a := ⟨X, 13, none⟩) hx0 rfl (.int .i64 n)
        have hf2 := (Fr.refl [X] V).set ⟨X, 13, none⟩ (.inl (by simp)) (.int .i64 n)
        have HX2a := hid1 hx2
        have HT2a := hid1 (hf2.heap HTV.out (fun hm => by have := List.mem_singleton.1 hm; have := HL2.out; omega))
        have HB2a := hid1 (Fr.below HBV.out hf2 (fun k hk => by have := List.mem_singleton.1 hk; have := HL2.out; omega) (by have := heap_lt HTV.out; omega))
        have HCH := hid1 (show chkRec 3 true (upd x 11 n) = 2 by rw [chkRec_true (by omega)]; exact bad11 (by omega))
        have HNE := hid1 (show chkRec 3 true (upd x 11 n) ≠ 0 by rw [HCH.out]; decide)
        clear hx0 hx2 hf2
        go_upto_region 27 with fail
        clear e0 z0
        obtain ⟨V2, hV2⟩ : ∃ V2, V.setCell ⟨X, 13, none⟩ (.int .i64 n) = V2 := ⟨_, rfl⟩
        rw [hV2] at HX2a HT2a HB2a ⊢
        have HX2 : Hid (V2.heap[X]? = some (.cells (recRow 3 true (upd x 11 n)) 44 (0, 0))) := HX2a
        have HT2 := HT2a
        have HB2 := HB2a
        clear HX2a HT2a HB2a hV2 HXV HTV HBV

        have hxn := heap_keep HX2.out (.cells #[.slice none 0 0] 51)
        have HXN := hid1 hxn
        have HCK := hid1 (fun w => recchk_row 3 true (upd x 11 n) w)
        rw [HCH.out] at HCK
        have HNIL := hid1 (fun w : World => recput_nil (w := w) 3 true (upd x 11 n))
        clear hxn
        go_wp2_with (first
          | (refine wpList_load_row rfl 44 (.tmp 11) rfl X rfl _ (recRow 3 true (upd x 11 n)) _ _ HXN.out Try.underlying44 rfl (Try.infoRecRow _ _ _) ?_)
          | (go_at_call 10; refine (recput_no 3 true (upd x 11 n) HNE.out).mono ?_; rw [HCH.out]; rintro e w4 ⟨rfl, hb4⟩; have hnx : X < V2.heap.size := heap_lt HX2.out; have hnt : B + 1 < V2.heap.size := heap_lt HT2.out; have HX4 := hid1 (heap_keep ((Fr.ofBelow hb4).heap (heap_keep HX2.out (.cells #[.slice none 0 0] 51)) (by simp)) (.cells (recRow 0 false (fun _ => 0)) 44)); have HT4 := hid1 (heap_keep ((Fr.ofBelow hb4).heap (heap_keep HT2.out (.cells #[.slice none 0 0] 51)) (by simp)) (.cells (recRow 0 false (fun _ => 0)) 44)); have HT4P := hid1 ((Fr.ofBelow hb4).heap (heap_keep HT2.out (.cells #[.slice none 0 0] 51)) (by simp)); have hw4 := (HWO.out V2).fr (Fr.ofBelow hb4) (by simp); have HW4 := hid1 (hw4.fr (fr_alloc w4 (.cells (recRow 0 false (fun _ => 0)) 44)) (fun _ _ h => by cases h)); have HSL := hid1 hw4.lt; have hb5 := (HB2.out.alloc (by omega) (.cells #[.slice none 0 0] 51)).trans (hb4.mono (by simp; omega)); have HB4 := hid1 (hb5.alloc (by have := hb4.size; simp at this; omega) (.cells (recRow 0 false (fun _ => 0)) 44)); have HY4 := hid1 (heap_new w4 (.cells (recRow 0 false (fun _ => 0)) 44)); have HL4 := hid1 (show X < w4.heap.size ∧ B + 1 < w4.heap.size from ⟨heap_lt ((Fr.ofBelow hb4).heap (heap_keep HX2.out (.cells #[.slice none 0 0] 51)) (by simp)), heap_lt ((Fr.ofBelow hb4).heap (heap_keep HT2.out (.cells #[.slice none 0 0] 51)) (by simp))⟩); clear hw4 hb4 hb5 hnx hnt)
          | (refine wpList_load_row rfl 41 (.tmp 9) rfl (B + 1) rfl _ (triRow t.x) _ _ HT4P.out Try.underlying41 rfl (Try.infoTri _) ?_)
          | (refine wpList_buildTo rfl 44 _ rfl (some 87) rfl (recRow 0 true t.x) (by kernel_rfl) ?_)
          | (refine wpList_store_row (w := w4.alloc (.cells (recRow 0 false (fun _ => 0)) 44)) rfl 44 (.tmp 15) (.tmp 87) rfl w4.heap.size (recRow 0 true t.x) rfl rfl _ _ HY4.out (Try.infoRecRow _ _ _) rfl (recRow_one _ _ _) ?_))
        have hfy := fr_row (w4.alloc (.cells (recRow 0 false (fun _ => 0)) 44)) w4.heap.size (recRow 0 true t.x)
        have hx9 := hfy.heap HX4.out (fun hm => by have := List.mem_singleton.1 hm; have := HL4.out; omega)
        have ht9 := hfy.heap HT4.out (fun hm => by have := List.mem_singleton.1 hm; have := HL4.out; omega)
        have hy9 := setRow_heap _ _ _ (recRow 0 true t.x) _ _ HY4.out
        have hw9 := HW4.out.fr hfy (fun k hk hm => by have := List.mem_singleton.1 hm; have := HSL.out k hk; omega)
        have hb9 := Fr.below HB4.out hfy (fun k hk => by have := List.mem_singleton.1 hk; have := HL4.out; have := HL2.out; omega) (by have := heap_lt HT4.out; omega)
        obtain ⟨Yb, hYb⟩ : ∃ Yb, w4.heap.size = Yb := ⟨_, rfl⟩
        rw [hYb] at hx9 ht9 hy9 hw9 hb9 ⊢
        obtain ⟨U, hU⟩ : ∃ U, (w4.alloc (.cells (recRow 0 false (fun _ => 0)) 44)).setRow Yb (recRow 0 true t.x) = U := ⟨_, rfl⟩
        rw [hU] at hx9 ht9 hy9 hw9 hb9 ⊢
        have HXH := hid1 (fun (w' : World) (hw : ∃ q : Ext U, w' = ext U q) => show w'.heap[X]? = some (.cells (recRow 3 true (upd x 11 n)) 44 (0, 0)) by obtain ⟨q, rfl⟩ := hw; exact ext_heap hx9 q)
        have HTH := hid1 (fun (w' : World) (hw : ∃ q : Ext U, w' = ext U q) => show w'.heap[B + 1]? = some (.cells (triRow t.x) 41 (0, 0)) by obtain ⟨q, rfl⟩ := hw; exact ext_heap ht9 q)
        have HYH := hid1 (fun (w' : World) (hw : ∃ q : Ext U, w' = ext U q) => show w'.heap[Yb]? = some (.cells (recRow 0 true t.x) 44 (0, 0)) by obtain ⟨q, rfl⟩ := hw; exact ext_heap hy9 q)
        have HLN := hid1 (show (((([] : List UInt8)).length : Nat) : Int) = 0 from rfl)
        have HLEN := hid1 (fun q : Ext U => show Calls Try.prog 12 #[.pointer (some ⟨V2.heap.size, 0, none⟩)] (ext U q) (fun e w' => e = .returned (.int .i64 0) ∧ ext U q = w') from (wlen_calls (hw9.fr (Fr.ofBelow (ext_below q)) (by simp))).mono (fun e w' h => ⟨h.1.trans (by rw [HLN.out]), h.2.symm⟩))
        have HB9 := hid1 hb9
        have HBU := hid1 (show B ≤ U.heap.size by have := heap_lt ht9; omega)
        clear hfy hx9 ht9 hy9 hw9 hb9 hYb hU HX4 HT4 HW4 HSL HB4 HY4 HL4 HT4P HXN HX2 HT2 HB2
        refine wp_region_grow (by kernel_rfl) (by kernel_rfl) ?_
        repeat (first
          | (refine wpQuiet_load_rowG (by rfl) 44 (.tmp 11) rfl X rfl 44 (recRow 3 true (upd x 11 n)) (0, 0) _ HXH.out Try.underlying44 rfl (Try.infoRecRow _ _ _) ?_; simp only [Act.put, List.setIfInBounds_toArray, List.set_cons_succ, List.set_cons_zero])
          | (refine wpQuiet_load_rowG (by rfl) 44 (.tmp 15) rfl Yb rfl 44 (recRow 0 true t.x) (0, 0) _ HYH.out Try.underlying44 rfl (Try.infoRecRow _ _ _) ?_; simp only [Act.put, List.setIfInBounds_toArray, List.set_cons_succ, List.set_cons_zero])
          | (refine wpQuiet_load_rowG (by rfl) 41 (.tmp 9) rfl (B + 1) rfl 41 (triRow t.x) (0, 0) _ HTH.out Try.underlying41 rfl (Try.infoTri _) ?_; simp only [Act.put, List.setIfInBounds_toArray, List.set_cons_succ, List.set_cons_zero])
          | go_big_quiet_step (first
            | (go_at_call 11; first | (with_reducible exact Calls.grow (HCK.out _)) | (with_reducible exact Calls.grow (HCKY.out _)))
            | (go_at_call 13; exact Calls.grow (HCKT.out _))
            | (go_at_call 12; exact Calls.grow_same (HLEN.out _))
            | (go_at_call 10; exact Calls.grow (HNIL.out _))))
        refine wpQuiet_nil ?_
        rintro _ ⟨q, rfl⟩
        go_wp2
        go_ret
        exact ⟨rfl, by rw [HBE.out]; exact HB9.out.trans ((ext_below q).mono HBU.out)⟩

      · skip
        have d0 : decide (n < 1) = false := by simpa using hr.1
        have d1 : decide (n > 1024) = true := by simpa using hr.2
        have hx0 := HXV.out
        have e0 : V.cell? ⟨X, 13, none⟩ = some (.int .i64 (x 11)) := cell_at hx0 13
        have z0 := free_at hx0 13
        have hx2 := heap_set (a := ⟨X, 13, none⟩) hx0 rfl (.int .i64 n)
        have hf2 := (Fr.refl [X] V).set ⟨X, 13, none⟩ (.inl (by simp)) (.int .i64 n)
        have HX2a := hid1 hx2
        have HT2a := hid1 (hf2.heap HTV.out (fun hm => by have := List.mem_singleton.1 hm; have := HL2.out; omega))
        have HB2a := hid1 (Fr.below HBV.out hf2 (fun k hk => by have := List.mem_singleton.1 hk; have := HL2.out; omega) (by have := heap_lt HTV.out; omega))
        have HCH := hid1 (show chkRec 3 true (upd x 11 n) = 2 by rw [chkRec_true (by omega)]; exact bad11 (by omega))
        have HNE := hid1 (show chkRec 3 true (upd x 11 n) ≠ 0 by rw [HCH.out]; decide)
        clear hx0 hx2 hf2
        go_upto_region 27 with fail
        clear e0 z0
        obtain ⟨V2, hV2⟩ : ∃ V2, V.setCell ⟨X, 13, none⟩ (.int .i64 n) = V2 := ⟨_, rfl⟩
        rw [hV2] at HX2a HT2a HB2a ⊢
        have HX2 : Hid (V2.heap[X]? = some (.cells (recRow 3 true (upd x 11 n)) 44 (0, 0))) := HX2a
        have HT2 := HT2a
        have HB2 := HB2a
        clear HX2a HT2a HB2a hV2 HXV HTV HBV

        have hxn := heap_keep HX2.out (.cells #[.slice none 0 0] 51)
        have HXN := hid1 hxn
        have HCK := hid1 (fun w => recchk_row 3 true (upd x 11 n) w)
        rw [HCH.out] at HCK
        have HNIL := hid1 (fun w : World => recput_nil (w := w) 3 true (upd x 11 n))
        clear hxn
        go_wp2_with (first
          | (refine wpList_load_row rfl 44 (.tmp 11) rfl X rfl _ (recRow 3 true (upd x 11 n)) _ _ HXN.out Try.underlying44 rfl (Try.infoRecRow _ _ _) ?_)
          | (go_at_call 10; refine (recput_no 3 true (upd x 11 n) HNE.out).mono ?_; rw [HCH.out]; rintro e w4 ⟨rfl, hb4⟩; have hnx : X < V2.heap.size := heap_lt HX2.out; have hnt : B + 1 < V2.heap.size := heap_lt HT2.out; have HX4 := hid1 (heap_keep ((Fr.ofBelow hb4).heap (heap_keep HX2.out (.cells #[.slice none 0 0] 51)) (by simp)) (.cells (recRow 0 false (fun _ => 0)) 44)); have HT4 := hid1 (heap_keep ((Fr.ofBelow hb4).heap (heap_keep HT2.out (.cells #[.slice none 0 0] 51)) (by simp)) (.cells (recRow 0 false (fun _ => 0)) 44)); have HT4P := hid1 ((Fr.ofBelow hb4).heap (heap_keep HT2.out (.cells #[.slice none 0 0] 51)) (by simp)); have hw4 := (HWO.out V2).fr (Fr.ofBelow hb4) (by simp); have HW4 := hid1 (hw4.fr (fr_alloc w4 (.cells (recRow 0 false (fun _ => 0)) 44)) (fun _ _ h => by cases h)); have HSL := hid1 hw4.lt; have hb5 := (HB2.out.alloc (by omega) (.cells #[.slice none 0 0] 51)).trans (hb4.mono (by simp; omega)); have HB4 := hid1 (hb5.alloc (by have := hb4.size; simp at this; omega) (.cells (recRow 0 false (fun _ => 0)) 44)); have HY4 := hid1 (heap_new w4 (.cells (recRow 0 false (fun _ => 0)) 44)); have HL4 := hid1 (show X < w4.heap.size ∧ B + 1 < w4.heap.size from ⟨heap_lt ((Fr.ofBelow hb4).heap (heap_keep HX2.out (.cells #[.slice none 0 0] 51)) (by simp)), heap_lt ((Fr.ofBelow hb4).heap (heap_keep HT2.out (.cells #[.slice none 0 0] 51)) (by simp))⟩); clear hw4 hb4 hb5 hnx hnt)
          | (refine wpList_load_row rfl 41 (.tmp 9) rfl (B + 1) rfl _ (triRow t.x) _ _ HT4P.out Try.underlying41 rfl (Try.infoTri _) ?_)
          | (refine wpList_buildTo rfl 44 _ rfl (some 87) rfl (recRow 0 true t.x) (by kernel_rfl) ?_)
          | (refine wpList_store_row (w := w4.alloc (.cells (recRow 0 false (fun _ => 0)) 44)) rfl 44 (.tmp 15) (.tmp 87) rfl w4.heap.size (recRow 0 true t.x) rfl rfl _ _ HY4.out (Try.infoRecRow _ _ _) rfl (recRow_one _ _ _) ?_))
        have hfy := fr_row (w4.alloc (.cells (recRow 0 false (fun _ => 0)) 44)) w4.heap.size (recRow 0 true t.x)
        have hx9 := hfy.heap HX4.out (fun hm => by have := List.mem_singleton.1 hm; have := HL4.out; omega)
        have ht9 := hfy.heap HT4.out (fun hm => by have := List.mem_singleton.1 hm; have := HL4.out; omega)
        have hy9 := setRow_heap _ _ _ (recRow 0 true t.x) _ _ HY4.out
        have hw9 := HW4.out.fr hfy (fun k hk hm => by have := List.mem_singleton.1 hm; have := HSL.out k hk; omega)
        have hb9 := Fr.below HB4.out hfy (fun k hk => by have := List.mem_singleton.1 hk; have := HL4.out; have := HL2.out; omega) (by have := heap_lt HT4.out; omega)
        obtain ⟨Yb, hYb⟩ : ∃ Yb, w4.heap.size = Yb := ⟨_, rfl⟩
        rw [hYb] at hx9 ht9 hy9 hw9 hb9 ⊢
        obtain ⟨U, hU⟩ : ∃ U, (w4.alloc (.cells (recRow 0 false (fun _ => 0)) 44)).setRow Yb (recRow 0 true t.x) = U := ⟨_, rfl⟩
        rw [hU] at hx9 ht9 hy9 hw9 hb9 ⊢
        have HXH := hid1 (fun (w' : World) (hw : ∃ q : Ext U, w' = ext U q) => show w'.heap[X]? = some (.cells (recRow 3 true (upd x 11 n)) 44 (0, 0)) by obtain ⟨q, rfl⟩ := hw; exact ext_heap hx9 q)
        have HTH := hid1 (fun (w' : World) (hw : ∃ q : Ext U, w' = ext U q) => show w'.heap[B + 1]? = some (.cells (triRow t.x) 41 (0, 0)) by obtain ⟨q, rfl⟩ := hw; exact ext_heap ht9 q)
        have HYH := hid1 (fun (w' : World) (hw : ∃ q : Ext U, w' = ext U q) => show w'.heap[Yb]? = some (.cells (recRow 0 true t.x) 44 (0, 0)) by obtain ⟨q, rfl⟩ := hw; exact ext_heap hy9 q)
        have HLN := hid1 (show (((([] : List UInt8)).length : Nat) : Int) = 0 from rfl)
        have HLEN := hid1 (fun q : Ext U => show Calls Try.prog 12 #[.pointer (some ⟨V2.heap.size, 0, none⟩)] (ext U q) (fun e w' => e = .returned (.int .i64 0) ∧ ext U q = w') from (wlen_calls (hw9.fr (Fr.ofBelow (ext_below q)) (by simp))).mono (fun e w' h => ⟨h.1.trans (by rw [HLN.out]), h.2.symm⟩))
        have HB9 := hid1 hb9
        have HBU := hid1 (show B ≤ U.heap.size by have := heap_lt ht9; omega)
        clear hfy hx9 ht9 hy9 hw9 hb9 hYb hU HX4 HT4 HW4 HSL HB4 HY4 HL4 HT4P HXN HX2 HT2 HB2
        refine wp_region_grow (by kernel_rfl) (by kernel_rfl) ?_
        repeat (first
          | (refine wpQuiet_load_rowG (by rfl) 44 (.tmp 11) rfl X rfl 44 (recRow 3 true (upd x 11 n)) (0, 0) _ HXH.out Try.underlying44 rfl (Try.infoRecRow _ _ _) ?_; simp only [Act.put, List.setIfInBounds_toArray, List.set_cons_succ, List.set_cons_zero])
          | (refine wpQuiet_load_rowG (by rfl) 44 (.tmp 15) rfl Yb rfl 44 (recRow 0 true t.x) (0, 0) _ HYH.out Try.underlying44 rfl (Try.infoRecRow _ _ _) ?_; simp only [Act.put, List.setIfInBounds_toArray, List.set_cons_succ, List.set_cons_zero])
          | (refine wpQuiet_load_rowG (by rfl) 41 (.tmp 9) rfl (B + 1) rfl 41 (triRow t.x) (0, 0) _ HTH.out Try.underlying41 rfl (Try.infoTri _) ?_; simp only [Act.put, List.setIfInBounds_toArray, List.set_cons_succ, List.set_cons_zero])
          | go_big_quiet_step (first
            | (go_at_call 11; first | (with_reducible exact Calls.grow (HCK.out _)) | (with_reducible exact Calls.grow (HCKY.out _)))
            | (go_at_call 13; exact Calls.grow (HCKT.out _))
            | (go_at_call 12; exact Calls.grow_same (HLEN.out _))
            | (go_at_call 10; exact Calls.grow (HNIL.out _))))
        refine wpQuiet_nil ?_
        rintro _ ⟨q, rfl⟩
        go_wp2
        go_ret
        exact ⟨rfl, by rw [HBE.out]; exact HB9.out.trans ((ext_below q).mono HBU.out)⟩

      · skip
        have d0 : decide (n < 1) = false := by simpa using hr.1
        have d1 : decide (n > 1024) = false := by simpa using hr.2
        have hx0 := HXV.out
        have e0 : V.cell? ⟨X, 13, none⟩ = some (.int .i64 (x 11)) := cell_at hx0 13
        have z0 := free_at hx0 13
        have hx2 := heap_set (a := ⟨X, 13, none⟩) hx0 rfl (.int .i64 n)
        have hf2 := (Fr.refl [X] V).set ⟨X, 13, none⟩ (.inl (by simp)) (.int .i64 n)
        have HX2a := hid1 hx2
        have HT2a := hid1 (hf2.heap HTV.out (fun hm => by have := List.mem_singleton.1 hm; have := HL2.out; omega))
        have HB2a := hid1 (Fr.below HBV.out hf2 (fun k hk => by have := List.mem_singleton.1 hk; have := HL2.out; omega) (by have := heap_lt HTV.out; omega))
        have HCH := hid1 (show chkRec 3 true (upd x 11 n) = 0 by rw [chkRec_true (by omega)]; exact good11 (HSM.out rfl) HCHK0 (by omega))
        clear hx0 hx2 hf2
        go_upto_region 27 with fail
        clear e0 z0
        obtain ⟨V2, hV2⟩ : ∃ V2, V.setCell ⟨X, 13, none⟩ (.int .i64 n) = V2 := ⟨_, rfl⟩
        rw [hV2] at HX2a HT2a HB2a ⊢
        have HX2 : Hid (V2.heap[X]? = some (.cells (recRow 3 true (upd x 11 n)) 44 (0, 0))) := HX2a
        have HT2 := HT2a
        have HB2 := HB2a
        clear HX2a HT2a HB2a hV2 HXV HTV HBV

        have hxn := heap_keep HX2.out (.cells #[.slice none 0 0] 51)
        have HXN := hid1 hxn
        have HCK := hid1 (fun w => recchk_row 3 true (upd x 11 n) w)
        rw [HCH.out] at HCK
        have HNIL := hid1 (fun w : World => recput_nil (w := w) 3 true (upd x 11 n))
        clear hxn
        go_wp2_with (first
          | (refine wpList_load_row rfl 44 (.tmp 11) rfl X rfl _ (recRow 3 true (upd x 11 n)) _ _ HXN.out Try.underlying44 rfl (Try.infoRecRow _ _ _) ?_)
          | (go_at_call 10; refine (recput_calls (HWO.out V2) (by decide) 3 true (upd x 11 n) HCH.out).mono ?_; rintro e w4 ⟨rfl, S4, hw4, hg4, hf4⟩; have hnx : X < V2.heap.size := heap_lt HX2.out; have hnt : B + 1 < V2.heap.size := heap_lt HT2.out; have HX4 := hid1 (heap_keep (hf4.heap (heap_keep HX2.out (.cells #[.slice none 0 0] 51)) (fun hm => by have := List.mem_singleton.1 hm; omega)) (.cells (recRow 0 false (fun _ => 0)) 44)); have HT4 := hid1 (heap_keep (hf4.heap (heap_keep HT2.out (.cells #[.slice none 0 0] 51)) (fun hm => by have := List.mem_singleton.1 hm; omega)) (.cells (recRow 0 false (fun _ => 0)) 44)); have HT4P := hid1 (hf4.heap (heap_keep HT2.out (.cells #[.slice none 0 0] 51)) (fun hm => by have := List.mem_singleton.1 hm; omega)); have HW4 := hid1 (hw4.fr (fr_alloc w4 (.cells (recRow 0 false (fun _ => 0)) 44)) (fun _ _ h => by cases h)); have HSL := hid1 hw4.lt; have hb4 := Fr.below (HB2.out.alloc (by omega) (.cells #[.slice none 0 0] 51)) hf4 (fun k hk => by have := List.mem_singleton.1 hk; omega) (by simp; omega); have HB4 := hid1 (hb4.alloc (by have := hf4.size; simp at this; omega) (.cells (recRow 0 false (fun _ => 0)) 44)); have HY4 := hid1 (heap_new w4 (.cells (recRow 0 false (fun _ => 0)) 44)); have HL4 := hid1 (show X < w4.heap.size ∧ B + 1 < w4.heap.size from ⟨heap_lt (hf4.heap (heap_keep HX2.out (.cells #[.slice none 0 0] 51)) (fun hm => by have := List.mem_singleton.1 hm; omega)), heap_lt (hf4.heap (heap_keep HT2.out (.cells #[.slice none 0 0] 51)) (fun hm => by have := List.mem_singleton.1 hm; omega))⟩); clear hw4 hg4 hf4 hb4 hnx hnt)
          | (refine wpList_load_row rfl 41 (.tmp 9) rfl (B + 1) rfl _ (triRow t.x) _ _ HT4P.out Try.underlying41 rfl (Try.infoTri _) ?_)
          | (refine wpList_buildTo rfl 44 _ rfl (some 87) rfl (recRow 0 true t.x) (by kernel_rfl) ?_)
          | (refine wpList_store_row (w := w4.alloc (.cells (recRow 0 false (fun _ => 0)) 44)) rfl 44 (.tmp 15) (.tmp 87) rfl w4.heap.size (recRow 0 true t.x) rfl rfl _ _ HY4.out (Try.infoRecRow _ _ _) rfl (recRow_one _ _ _) ?_))
        have hfy := fr_row (w4.alloc (.cells (recRow 0 false (fun _ => 0)) 44)) w4.heap.size (recRow 0 true t.x)
        have hx9 := hfy.heap HX4.out (fun hm => by have := List.mem_singleton.1 hm; have := HL4.out; omega)
        have ht9 := hfy.heap HT4.out (fun hm => by have := List.mem_singleton.1 hm; have := HL4.out; omega)
        have hy9 := setRow_heap _ _ _ (recRow 0 true t.x) _ _ HY4.out
        have hw9 := HW4.out.fr hfy (fun k hk hm => by have := List.mem_singleton.1 hm; have := HSL.out k hk; omega)
        have hb9 := Fr.below HB4.out hfy (fun k hk => by have := List.mem_singleton.1 hk; have := HL4.out; have := HL2.out; omega) (by have := heap_lt HT4.out; omega)
        obtain ⟨Yb, hYb⟩ : ∃ Yb, w4.heap.size = Yb := ⟨_, rfl⟩
        rw [hYb] at hx9 ht9 hy9 hw9 hb9 ⊢
        obtain ⟨U, hU⟩ : ∃ U, (w4.alloc (.cells (recRow 0 false (fun _ => 0)) 44)).setRow Yb (recRow 0 true t.x) = U := ⟨_, rfl⟩
        rw [hU] at hx9 ht9 hy9 hw9 hb9 ⊢
        have HXH := hid1 (fun (w' : World) (hw : ∃ q : Ext U, w' = ext U q) => show w'.heap[X]? = some (.cells (recRow 3 true (upd x 11 n)) 44 (0, 0)) by obtain ⟨q, rfl⟩ := hw; exact ext_heap hx9 q)
        have HTH := hid1 (fun (w' : World) (hw : ∃ q : Ext U, w' = ext U q) => show w'.heap[B + 1]? = some (.cells (triRow t.x) 41 (0, 0)) by obtain ⟨q, rfl⟩ := hw; exact ext_heap ht9 q)
        have HYH := hid1 (fun (w' : World) (hw : ∃ q : Ext U, w' = ext U q) => show w'.heap[Yb]? = some (.cells (recRow 0 true t.x) 44 (0, 0)) by obtain ⟨q, rfl⟩ := hw; exact ext_heap hy9 q)
        obtain ⟨ln, hln, hpos⟩ : ∃ ln : Int, (((([] : List UInt8) ++ recBytes 3 true (upd x 11 n)).length : Nat) : Int) = ln ∧ 0 < ln := ⟨_, rfl, recBytes_pos 3 true (upd x 11 n)⟩
        have HLN := hid1 hln
        clear hln
        have HLEN := hid1 (fun q : Ext U => show Calls Try.prog 12 #[.pointer (some ⟨V2.heap.size, 0, none⟩)] (ext U q) (fun e w' => e = .returned (.int .i64 ln) ∧ ext U q = w') from (wlen_calls (hw9.fr (Fr.ofBelow (ext_below q)) (by simp))).mono (fun e w' h => ⟨h.1.trans (by rw [HLN.out]), h.2.symm⟩))
        have HB9 := hid1 hb9
        have HBU := hid1 (show B ≤ U.heap.size by have := heap_lt ht9; omega)
        clear hfy hx9 ht9 hy9 hw9 hb9 hYb hU HX4 HT4 HW4 HSL HB4 HY4 HL4 HT4P HXN HX2 HT2 HB2
        refine wp_region_grow (by kernel_rfl) (by kernel_rfl) ?_
        repeat (first
          | (refine wpQuiet_load_rowG (by rfl) 44 (.tmp 11) rfl X rfl 44 (recRow 3 true (upd x 11 n)) (0, 0) _ HXH.out Try.underlying44 rfl (Try.infoRecRow _ _ _) ?_; simp only [Act.put, List.setIfInBounds_toArray, List.set_cons_succ, List.set_cons_zero])
          | (refine wpQuiet_load_rowG (by rfl) 44 (.tmp 15) rfl Yb rfl 44 (recRow 0 true t.x) (0, 0) _ HYH.out Try.underlying44 rfl (Try.infoRecRow _ _ _) ?_; simp only [Act.put, List.setIfInBounds_toArray, List.set_cons_succ, List.set_cons_zero])
          | (refine wpQuiet_load_rowG (by rfl) 41 (.tmp 9) rfl (B + 1) rfl 41 (triRow t.x) (0, 0) _ HTH.out Try.underlying41 rfl (Try.infoTri _) ?_; simp only [Act.put, List.setIfInBounds_toArray, List.set_cons_succ, List.set_cons_zero])
          | go_big_quiet_step (first
            | (go_at_call 11; first | (with_reducible exact Calls.grow (HCK.out _)) | (with_reducible exact Calls.grow (HCKY.out _)))
            | (go_at_call 13; exact Calls.grow (HCKT.out _))
            | (go_at_call 12; exact Calls.grow_same (HLEN.out _))
            | (go_at_call 10; exact Calls.grow (HNIL.out _))))
        refine wpQuiet_nil ?_
        rintro _ ⟨q, rfl⟩
        go_wp2
        go_ret
        exact ⟨rfl, by rw [HBE.out]; exact HB9.out.trans ((ext_below q).mono HBU.out)⟩
    · skip
      have hx0 := HXV.out
      have e0 : V.cell? ⟨X, 2, none⟩ = some (.int .i64 (x 0)) := cell_at hx0 2
      have e1 : V.cell? ⟨X, 3, none⟩ = some (.int .i64 (x 1)) := cell_at hx0 3
      have e2 : V.cell? ⟨X, 4, none⟩ = some (.int .i64 (x 2)) := cell_at hx0 4
      have e3 : V.cell? ⟨X, 5, none⟩ = some (.int .i64 (x 3)) := cell_at hx0 5
      have e4 : V.cell? ⟨X, 6, none⟩ = some (.int .i64 (x 4)) := cell_at hx0 6
      have e5 : V.cell? ⟨X, 7, none⟩ = some (.int .i64 (x 5)) := cell_at hx0 7
      go_upto_region 27 with (go_at_call 9; refine (turned_calls _ _ _ _ _ _ _).mono ?_; rintro e w6 ⟨rfl, hb6⟩; have hn6 := (Fr.ofBelow hb6).heap HXV.out (by simp); have HN6 := hid1 hn6; have HT6 := hid1 ((Fr.ofBelow hb6).heap HTV.out (by simp)); have HB6 := hid1 (HBV.out.trans (hb6.mono (by have := heap_lt HTV.out; omega))); clear hb6; have g0 : w6.cell? ⟨X, 2, none⟩ = some (.int .i64 (x 0)) := cell_at hn6 2; have z0 := free_at hn6 2; have g1 : w6.cell? ⟨X, 3, none⟩ = some (.int .i64 (x 1)) := cell_at hn6 3; have z1 := free_at hn6 3; have g2 : w6.cell? ⟨X, 4, none⟩ = some (.int .i64 (x 2)) := cell_at hn6 4; have z2 := free_at hn6 4; have g3 : w6.cell? ⟨X, 5, none⟩ = some (.int .i64 (x 3)) := cell_at hn6 5; have z3 := free_at hn6 5; have g4 : w6.cell? ⟨X, 6, none⟩ = some (.int .i64 (x 4)) := cell_at hn6 6; have z4 := free_at hn6 6; have g5 : w6.cell? ⟨X, 7, none⟩ = some (.int .i64 (x 5)) := cell_at hn6 7; have z5 := free_at hn6 7; clear hn6)
      have hn6 := HN6.out
      have hx2 := (heap_set (a := ⟨X, 7, none⟩) (heap_set (a := ⟨X, 6, none⟩) (heap_set (a := ⟨X, 5, none⟩) (heap_set (a := ⟨X, 4, none⟩) (heap_set (a := ⟨X, 3, none⟩) (heap_set (a := ⟨X, 2, none⟩) hn6 rfl (.int .i64 (x 0))) rfl (.int .i64 (x 1))) rfl (.int .i64 (x 4))) rfl (.int .i64 (x 5))) rfl (.int .i64 (x 2))) rfl (.int .i64 (x 3)))
      have hf2 := (((((((Fr.refl [X] w6).set ⟨X, 2, none⟩ (.inl (by simp)) (.int .i64 (x 0))).set ⟨X, 3, none⟩ (.inl (by simp)) (.int .i64 (x 1))).set ⟨X, 4, none⟩ (.inl (by simp)) (.int .i64 (x 4))).set ⟨X, 5, none⟩ (.inl (by simp)) (.int .i64 (x 5))).set ⟨X, 6, none⟩ (.inl (by simp)) (.int .i64 (x 2))).set ⟨X, 7, none⟩ (.inl (by simp)) (.int .i64 (x 3)))
      have HX2a := hid1 hx2
      have HT2a := hid1 (hf2.heap HT6.out (fun hm => by have := List.mem_singleton.1 hm; have := HL2.out; omega))
      have HB2a := hid1 (Fr.below HB6.out hf2 (fun k hk => by have := List.mem_singleton.1 hk; have := HL2.out; omega) (by have := heap_lt HT6.out; omega))
      have HCH := hid1 (show chkRec 3 true (upd (upd (upd (upd x 2 (x 4)) 3 (x 5)) 4 (x 2)) 5 (x 3)) = 4 by rw [chkRec_true (by omega)]; exact turned_bad HCHK0)
      have HNE := hid1 (show chkRec 3 true (upd (upd (upd (upd x 2 (x 4)) 3 (x 5)) 4 (x 2)) 5 (x 3)) ≠ 0 by rw [HCH.out]; decide)
      clear hx0 hn6 hx2 hf2 e0 e1 e2 e3 e4 e5 g0 g1 g2 g3 g4 g5 z0 z1 z2 z3 z4 z5
      obtain ⟨V2, hV2⟩ : ∃ V2, ((((((w6.setCell ⟨X, 2, none⟩ (.int .i64 (x 0))).setCell ⟨X, 3, none⟩ (.int .i64 (x 1))).setCell ⟨X, 4, none⟩ (.int .i64 (x 4))).setCell ⟨X, 5, none⟩ (.int .i64 (x 5))).setCell ⟨X, 6, none⟩ (.int .i64 (x 2))).setCell ⟨X, 7, none⟩ (.int .i64 (x 3))) = V2 := ⟨_, rfl⟩
      rw [hV2] at HX2a HT2a HB2a ⊢
      have HX2 : Hid (V2.heap[X]? = some (.cells (recRow 3 true (upd (upd (upd (upd x 2 (x 4)) 3 (x 5)) 4 (x 2)) 5 (x 3))) 44 (0, 0))) := HX2a
      have HT2 := HT2a
      have HB2 := HB2a
      clear HX2a HT2a HB2a hV2 HXV HTV HBV HN6 HT6 HB6

      have hxn := heap_keep HX2.out (.cells #[.slice none 0 0] 51)
      have HXN := hid1 hxn
      have HCK := hid1 (fun w => recchk_row 3 true (upd (upd (upd (upd x 2 (x 4)) 3 (x 5)) 4 (x 2)) 5 (x 3)) w)
      rw [HCH.out] at HCK
      have HNIL := hid1 (fun w : World => recput_nil (w := w) 3 true (upd (upd (upd (upd x 2 (x 4)) 3 (x 5)) 4 (x 2)) 5 (x 3)))
      clear hxn
      go_wp2_with (first
        | (refine wpList_load_row rfl 44 (.tmp 11) rfl X rfl _ (recRow 3 true (upd (upd (upd (upd x 2 (x 4)) 3 (x 5)) 4 (x 2)) 5 (x 3))) _ _ HXN.out Try.underlying44 rfl (Try.infoRecRow _ _ _) ?_)
        | (go_at_call 10; refine (recput_no 3 true (upd (upd (upd (upd x 2 (x 4)) 3 (x 5)) 4 (x 2)) 5 (x 3)) HNE.out).mono ?_; rw [HCH.out]; rintro e w4 ⟨rfl, hb4⟩; have hnx : X < V2.heap.size := heap_lt HX2.out; have hnt : B + 1 < V2.heap.size := heap_lt HT2.out; have HX4 := hid1 (heap_keep ((Fr.ofBelow hb4).heap (heap_keep HX2.out (.cells #[.slice none 0 0] 51)) (by simp)) (.cells (recRow 0 false (fun _ => 0)) 44)); have HT4 := hid1 (heap_keep ((Fr.ofBelow hb4).heap (heap_keep HT2.out (.cells #[.slice none 0 0] 51)) (by simp)) (.cells (recRow 0 false (fun _ => 0)) 44)); have HT4P := hid1 ((Fr.ofBelow hb4).heap (heap_keep HT2.out (.cells #[.slice none 0 0] 51)) (by simp)); have hw4 := (HWO.out V2).fr (Fr.ofBelow hb4) (by simp); have HW4 := hid1 (hw4.fr (fr_alloc w4 (.cells (recRow 0 false (fun _ => 0)) 44)) (fun _ _ h => by cases h)); have HSL := hid1 hw4.lt; have hb5 := (HB2.out.alloc (by omega) (.cells #[.slice none 0 0] 51)).trans (hb4.mono (by simp; omega)); have HB4 := hid1 (hb5.alloc (by have := hb4.size; simp at this; omega) (.cells (recRow 0 false (fun _ => 0)) 44)); have HY4 := hid1 (heap_new w4 (.cells (recRow 0 false (fun _ => 0)) 44)); have HL4 := hid1 (show X < w4.heap.size ∧ B + 1 < w4.heap.size from ⟨heap_lt ((Fr.ofBelow hb4).heap (heap_keep HX2.out (.cells #[.slice none 0 0] 51)) (by simp)), heap_lt ((Fr.ofBelow hb4).heap (heap_keep HT2.out (.cells #[.slice none 0 0] 51)) (by simp))⟩); clear hw4 hb4 hb5 hnx hnt)
        | (refine wpList_load_row rfl 41 (.tmp 9) rfl (B + 1) rfl _ (triRow t.x) _ _ HT4P.out Try.underlying41 rfl (Try.infoTri _) ?_)
        | (refine wpList_buildTo rfl 44 _ rfl (some 87) rfl (recRow 0 true t.x) (by kernel_rfl) ?_)
        | (refine wpList_store_row (w := w4.alloc (.cells (recRow 0 false (fun _ => 0)) 44)) rfl 44 (.tmp 15) (.tmp 87) rfl w4.heap.size (recRow 0 true t.x) rfl rfl _ _ HY4.out (Try.infoRecRow _ _ _) rfl (recRow_one _ _ _) ?_))
      have hfy := fr_row (w4.alloc (.cells (recRow 0 false (fun _ => 0)) 44)) w4.heap.size (recRow 0 true t.x)
      have hx9 := hfy.heap HX4.out (fun hm => by have := List.mem_singleton.1 hm; have := HL4.out; omega)
      have ht9 := hfy.heap HT4.out (fun hm => by have := List.mem_singleton.1 hm; have := HL4.out; omega)
      have hy9 := setRow_heap _ _ _ (recRow 0 true t.x) _ _ HY4.out
      have hw9 := HW4.out.fr hfy (fun k hk hm => by have := List.mem_singleton.1 hm; have := HSL.out k hk; omega)
      have hb9 := Fr.below HB4.out hfy (fun k hk => by have := List.mem_singleton.1 hk; have := HL4.out; have := HL2.out; omega) (by have := heap_lt HT4.out; omega)
      obtain ⟨Yb, hYb⟩ : ∃ Yb, w4.heap.size = Yb := ⟨_, rfl⟩
      rw [hYb] at hx9 ht9 hy9 hw9 hb9 ⊢
      obtain ⟨U, hU⟩ : ∃ U, (w4.alloc (.cells (recRow 0 false (fun _ => 0)) 44)).setRow Yb (recRow 0 true t.x) = U := ⟨_, rfl⟩
      rw [hU] at hx9 ht9 hy9 hw9 hb9 ⊢
      have HXH := hid1 (fun (w' : World) (hw : ∃ q : Ext U, w' = ext U q) => show w'.heap[X]? = some (.cells (recRow 3 true (upd (upd (upd (upd x 2 (x 4)) 3 (x 5)) 4 (x 2)) 5 (x 3))) 44 (0, 0)) by obtain ⟨q, rfl⟩ := hw; exact ext_heap hx9 q)
      have HTH := hid1 (fun (w' : World) (hw : ∃ q : Ext U, w' = ext U q) => show w'.heap[B + 1]? = some (.cells (triRow t.x) 41 (0, 0)) by obtain ⟨q, rfl⟩ := hw; exact ext_heap ht9 q)
      have HYH := hid1 (fun (w' : World) (hw : ∃ q : Ext U, w' = ext U q) => show w'.heap[Yb]? = some (.cells (recRow 0 true t.x) 44 (0, 0)) by obtain ⟨q, rfl⟩ := hw; exact ext_heap hy9 q)
      have HLN := hid1 (show (((([] : List UInt8)).length : Nat) : Int) = 0 from rfl)
      have HLEN := hid1 (fun q : Ext U => show Calls Try.prog 12 #[.pointer (some ⟨V2.heap.size, 0, none⟩)] (ext U q) (fun e w' => e = .returned (.int .i64 0) ∧ ext U q = w') from (wlen_calls (hw9.fr (Fr.ofBelow (ext_below q)) (by simp))).mono (fun e w' h => ⟨h.1.trans (by rw [HLN.out]), h.2.symm⟩))
      have HB9 := hid1 hb9
      have HBU := hid1 (show B ≤ U.heap.size by have := heap_lt ht9; omega)
      clear hfy hx9 ht9 hy9 hw9 hb9 hYb hU HX4 HT4 HW4 HSL HB4 HY4 HL4 HT4P HXN HX2 HT2 HB2
      refine wp_region_grow (by kernel_rfl) (by kernel_rfl) ?_
      repeat (first
        | (refine wpQuiet_load_rowG (by rfl) 44 (.tmp 11) rfl X rfl 44 (recRow 3 true (upd (upd (upd (upd x 2 (x 4)) 3 (x 5)) 4 (x 2)) 5 (x 3))) (0, 0) _ HXH.out Try.underlying44 rfl (Try.infoRecRow _ _ _) ?_; simp only [Act.put, List.setIfInBounds_toArray, List.set_cons_succ, List.set_cons_zero])
        | (refine wpQuiet_load_rowG (by rfl) 44 (.tmp 15) rfl Yb rfl 44 (recRow 0 true t.x) (0, 0) _ HYH.out Try.underlying44 rfl (Try.infoRecRow _ _ _) ?_; simp only [Act.put, List.setIfInBounds_toArray, List.set_cons_succ, List.set_cons_zero])
        | (refine wpQuiet_load_rowG (by rfl) 41 (.tmp 9) rfl (B + 1) rfl 41 (triRow t.x) (0, 0) _ HTH.out Try.underlying41 rfl (Try.infoTri _) ?_; simp only [Act.put, List.setIfInBounds_toArray, List.set_cons_succ, List.set_cons_zero])
        | go_big_quiet_step (first
          | (go_at_call 11; first | (with_reducible exact Calls.grow (HCK.out _)) | (with_reducible exact Calls.grow (HCKY.out _)))
          | (go_at_call 13; exact Calls.grow (HCKT.out _))
          | (go_at_call 12; exact Calls.grow_same (HLEN.out _))
          | (go_at_call 10; exact Calls.grow (HNIL.out _))))
      refine wpQuiet_nil ?_
      rintro _ ⟨q, rfl⟩
      go_wp2
      go_ret
      exact ⟨rfl, by rw [HBE.out]; exact HB9.out.trans ((ext_below q).mono HBU.out)⟩
    · rcases (show n < 0 ∨ (¬ n < 0 ∧ 65536 < n) ∨ (¬ n < 0 ∧ ¬ 65536 < n) by omega) with hr | hr | hr
      · skip
        have d0 : decide (n < 0) = true := by simpa using hr
        have hx0 := HXV.out
        have e0 : V.cell? ⟨X, 17, none⟩ = some (.int .i64 (x 15)) := cell_at hx0 17
        have z0 := free_at hx0 17
        have hx2 := heap_set (a := ⟨X, 17, none⟩) hx0 rfl (.int .i64 n)
        have hf2 := (Fr.refl [X] V).set ⟨X, 17, none⟩ (.inl (by simp)) (.int .i64 n)
        have HX2a := hid1 hx2
        have HT2a := hid1 (hf2.heap HTV.out (fun hm => by have := List.mem_singleton.1 hm; have := HL2.out; omega))
        have HB2a := hid1 (Fr.below HBV.out hf2 (fun k hk => by have := List.mem_singleton.1 hk; have := HL2.out; omega) (by have := heap_lt HTV.out; omega))
        have HCH := hid1 (show chkRec 3 true (upd x 15 n) = 2 by rw [chkRec_true (by omega)]; exact bad15 (by omega))
        have HNE := hid1 (show chkRec 3 true (upd x 15 n) ≠ 0 by rw [HCH.out]; decide)
        clear hx0 hx2 hf2
        go_upto_region 27 with fail
        clear e0 z0
        obtain ⟨V2, hV2⟩ : ∃ V2, V.setCell ⟨X, 17, none⟩ (.int .i64 n) = V2 := ⟨_, rfl⟩
        rw [hV2] at HX2a HT2a HB2a ⊢
        have HX2 : Hid (V2.heap[X]? = some (.cells (recRow 3 true (upd x 15 n)) 44 (0, 0))) := HX2a
        have HT2 := HT2a
        have HB2 := HB2a
        clear HX2a HT2a HB2a hV2 HXV HTV HBV

        have hxn := heap_keep HX2.out (.cells #[.slice none 0 0] 51)
        have HXN := hid1 hxn
        have HCK := hid1 (fun w => recchk_row 3 true (upd x 15 n) w)
        rw [HCH.out] at HCK
        have HNIL := hid1 (fun w : World => recput_nil (w := w) 3 true (upd x 15 n))
        clear hxn
        go_wp2_with (first
          | (refine wpList_load_row rfl 44 (.tmp 11) rfl X rfl _ (recRow 3 true (upd x 15 n)) _ _ HXN.out Try.underlying44 rfl (Try.infoRecRow _ _ _) ?_)
          | (go_at_call 10; refine (recput_no 3 true (upd x 15 n) HNE.out).mono ?_; rw [HCH.out]; rintro e w4 ⟨rfl, hb4⟩; have hnx : X < V2.heap.size := heap_lt HX2.out; have hnt : B + 1 < V2.heap.size := heap_lt HT2.out; have HX4 := hid1 (heap_keep ((Fr.ofBelow hb4).heap (heap_keep HX2.out (.cells #[.slice none 0 0] 51)) (by simp)) (.cells (recRow 0 false (fun _ => 0)) 44)); have HT4 := hid1 (heap_keep ((Fr.ofBelow hb4).heap (heap_keep HT2.out (.cells #[.slice none 0 0] 51)) (by simp)) (.cells (recRow 0 false (fun _ => 0)) 44)); have HT4P := hid1 ((Fr.ofBelow hb4).heap (heap_keep HT2.out (.cells #[.slice none 0 0] 51)) (by simp)); have hw4 := (HWO.out V2).fr (Fr.ofBelow hb4) (by simp); have HW4 := hid1 (hw4.fr (fr_alloc w4 (.cells (recRow 0 false (fun _ => 0)) 44)) (fun _ _ h => by cases h)); have HSL := hid1 hw4.lt; have hb5 := (HB2.out.alloc (by omega) (.cells #[.slice none 0 0] 51)).trans (hb4.mono (by simp; omega)); have HB4 := hid1 (hb5.alloc (by have := hb4.size; simp at this; omega) (.cells (recRow 0 false (fun _ => 0)) 44)); have HY4 := hid1 (heap_new w4 (.cells (recRow 0 false (fun _ => 0)) 44)); have HL4 := hid1 (show X < w4.heap.size ∧ B + 1 < w4.heap.size from ⟨heap_lt ((Fr.ofBelow hb4).heap (heap_keep HX2.out (.cells #[.slice none 0 0] 51)) (by simp)), heap_lt ((Fr.ofBelow hb4).heap (heap_keep HT2.out (.cells #[.slice none 0 0] 51)) (by simp))⟩); clear hw4 hb4 hb5 hnx hnt)
          | (refine wpList_load_row rfl 41 (.tmp 9) rfl (B + 1) rfl _ (triRow t.x) _ _ HT4P.out Try.underlying41 rfl (Try.infoTri _) ?_)
          | (refine wpList_buildTo rfl 44 _ rfl (some 87) rfl (recRow 0 true t.x) (by kernel_rfl) ?_)
          | (refine wpList_store_row (w := w4.alloc (.cells (recRow 0 false (fun _ => 0)) 44)) rfl 44 (.tmp 15) (.tmp 87) rfl w4.heap.size (recRow 0 true t.x) rfl rfl _ _ HY4.out (Try.infoRecRow _ _ _) rfl (recRow_one _ _ _) ?_))
        have hfy := fr_row (w4.alloc (.cells (recRow 0 false (fun _ => 0)) 44)) w4.heap.size (recRow 0 true t.x)
        have hx9 := hfy.heap HX4.out (fun hm => by have := List.mem_singleton.1 hm; have := HL4.out; omega)
        have ht9 := hfy.heap HT4.out (fun hm => by have := List.mem_singleton.1 hm; have := HL4.out; omega)
        have hy9 := setRow_heap _ _ _ (recRow 0 true t.x) _ _ HY4.out
        have hw9 := HW4.out.fr hfy (fun k hk hm => by have := List.mem_singleton.1 hm; have := HSL.out k hk; omega)
        have hb9 := Fr.below HB4.out hfy (fun k hk => by have := List.mem_singleton.1 hk; have := HL4.out; have := HL2.out; omega) (by have := heap_lt HT4.out; omega)
        obtain ⟨Yb, hYb⟩ : ∃ Yb, w4.heap.size = Yb := ⟨_, rfl⟩
        rw [hYb] at hx9 ht9 hy9 hw9 hb9 ⊢
        obtain ⟨U, hU⟩ : ∃ U, (w4.alloc (.cells (recRow 0 false (fun _ => 0)) 44)).setRow Yb (recRow 0 true t.x) = U := ⟨_, rfl⟩
        rw [hU] at hx9 ht9 hy9 hw9 hb9 ⊢
        have HXH := hid1 (fun (w' : World) (hw : ∃ q : Ext U, w' = ext U q) => show w'.heap[X]? = some (.cells (recRow 3 true (upd x 15 n)) 44 (0, 0)) by obtain ⟨q, rfl⟩ := hw; exact ext_heap hx9 q)
        have HTH := hid1 (fun (w' : World) (hw : ∃ q : Ext U, w' = ext U q) => show w'.heap[B + 1]? = some (.cells (triRow t.x) 41 (0, 0)) by obtain ⟨q, rfl⟩ := hw; exact ext_heap ht9 q)
        have HYH := hid1 (fun (w' : World) (hw : ∃ q : Ext U, w' = ext U q) => show w'.heap[Yb]? = some (.cells (recRow 0 true t.x) 44 (0, 0)) by obtain ⟨q, rfl⟩ := hw; exact ext_heap hy9 q)
        have HLN := hid1 (show (((([] : List UInt8)).length : Nat) : Int) = 0 from rfl)
        have HLEN := hid1 (fun q : Ext U => show Calls Try.prog 12 #[.pointer (some ⟨V2.heap.size, 0, none⟩)] (ext U q) (fun e w' => e = .returned (.int .i64 0) ∧ ext U q = w') from (wlen_calls (hw9.fr (Fr.ofBelow (ext_below q)) (by simp))).mono (fun e w' h => ⟨h.1.trans (by rw [HLN.out]), h.2.symm⟩))
        have HB9 := hid1 hb9
        have HBU := hid1 (show B ≤ U.heap.size by have := heap_lt ht9; omega)
        clear hfy hx9 ht9 hy9 hw9 hb9 hYb hU HX4 HT4 HW4 HSL HB4 HY4 HL4 HT4P HXN HX2 HT2 HB2
        refine wp_region_grow (by kernel_rfl) (by kernel_rfl) ?_
        repeat (first
          | (refine wpQuiet_load_rowG (by rfl) 44 (.tmp 11) rfl X rfl 44 (recRow 3 true (upd x 15 n)) (0, 0) _ HXH.out Try.underlying44 rfl (Try.infoRecRow _ _ _) ?_; simp only [Act.put, List.setIfInBounds_toArray, List.set_cons_succ, List.set_cons_zero])
          | (refine wpQuiet_load_rowG (by rfl) 44 (.tmp 15) rfl Yb rfl 44 (recRow 0 true t.x) (0, 0) _ HYH.out Try.underlying44 rfl (Try.infoRecRow _ _ _) ?_; simp only [Act.put, List.setIfInBounds_toArray, List.set_cons_succ, List.set_cons_zero])
          | (refine wpQuiet_load_rowG (by rfl) 41 (.tmp 9) rfl (B + 1) rfl 41 (triRow t.x) (0, 0) _ HTH.out Try.underlying41 rfl (Try.infoTri _) ?_; simp only [Act.put, List.setIfInBounds_toArray, List.set_cons_succ, List.set_cons_zero])
          | go_big_quiet_step (first
            | (go_at_call 11; first | (with_reducible exact Calls.grow (HCK.out _)) | (with_reducible exact Calls.grow (HCKY.out _)))
            | (go_at_call 13; exact Calls.grow (HCKT.out _))
            | (go_at_call 12; exact Calls.grow_same (HLEN.out _))
            | (go_at_call 10; exact Calls.grow (HNIL.out _))))
        refine wpQuiet_nil ?_
        rintro _ ⟨q, rfl⟩
        go_wp2
        go_ret
        exact ⟨rfl, by rw [HBE.out]; exact HB9.out.trans ((ext_below q).mono HBU.out)⟩

      · skip
        have d0 : decide (n < 0) = false := by simpa using hr.1
        have d1 : decide (n > 65536) = true := by simpa using hr.2
        have hx0 := HXV.out
        have e0 : V.cell? ⟨X, 17, none⟩ = some (.int .i64 (x 15)) := cell_at hx0 17
        have z0 := free_at hx0 17
        have hx2 := heap_set (a := ⟨X, 17, none⟩) hx0 rfl (.int .i64 n)
        have hf2 := (Fr.refl [X] V).set ⟨X, 17, none⟩ (.inl (by simp)) (.int .i64 n)
        have HX2a := hid1 hx2
        have HT2a := hid1 (hf2.heap HTV.out (fun hm => by have := List.mem_singleton.1 hm; have := HL2.out; omega))
        have HB2a := hid1 (Fr.below HBV.out hf2 (fun k hk => by have := List.mem_singleton.1 hk; have := HL2.out; omega) (by have := heap_lt HTV.out; omega))
        have HCH := hid1 (show chkRec 3 true (upd x 15 n) = 2 by rw [chkRec_true (by omega)]; exact bad15 (by omega))
        have HNE := hid1 (show chkRec 3 true (upd x 15 n) ≠ 0 by rw [HCH.out]; decide)
        clear hx0 hx2 hf2
        go_upto_region 27 with fail
        clear e0 z0
        obtain ⟨V2, hV2⟩ : ∃ V2, V.setCell ⟨X, 17, none⟩ (.int .i64 n) = V2 := ⟨_, rfl⟩
        rw [hV2] at HX2a HT2a HB2a ⊢
        have HX2 : Hid (V2.heap[X]? = some (.cells (recRow 3 true (upd x 15 n)) 44 (0, 0))) := HX2a
        have HT2 := HT2a
        have HB2 := HB2a
        clear HX2a HT2a HB2a hV2 HXV HTV HBV

        have hxn := heap_keep HX2.out (.cells #[.slice none 0 0] 51)
        have HXN := hid1 hxn
        have HCK := hid1 (fun w => recchk_row 3 true (upd x 15 n) w)
        rw [HCH.out] at HCK
        have HNIL := hid1 (fun w : World => recput_nil (w := w) 3 true (upd x 15 n))
        clear hxn
        go_wp2_with (first
          | (refine wpList_load_row rfl 44 (.tmp 11) rfl X rfl _ (recRow 3 true (upd x 15 n)) _ _ HXN.out Try.underlying44 rfl (Try.infoRecRow _ _ _) ?_)
          | (go_at_call 10; refine (recput_no 3 true (upd x 15 n) HNE.out).mono ?_; rw [HCH.out]; rintro e w4 ⟨rfl, hb4⟩; have hnx : X < V2.heap.size := heap_lt HX2.out; have hnt : B + 1 < V2.heap.size := heap_lt HT2.out; have HX4 := hid1 (heap_keep ((Fr.ofBelow hb4).heap (heap_keep HX2.out (.cells #[.slice none 0 0] 51)) (by simp)) (.cells (recRow 0 false (fun _ => 0)) 44)); have HT4 := hid1 (heap_keep ((Fr.ofBelow hb4).heap (heap_keep HT2.out (.cells #[.slice none 0 0] 51)) (by simp)) (.cells (recRow 0 false (fun _ => 0)) 44)); have HT4P := hid1 ((Fr.ofBelow hb4).heap (heap_keep HT2.out (.cells #[.slice none 0 0] 51)) (by simp)); have hw4 := (HWO.out V2).fr (Fr.ofBelow hb4) (by simp); have HW4 := hid1 (hw4.fr (fr_alloc w4 (.cells (recRow 0 false (fun _ => 0)) 44)) (fun _ _ h => by cases h)); have HSL := hid1 hw4.lt; have hb5 := (HB2.out.alloc (by omega) (.cells #[.slice none 0 0] 51)).trans (hb4.mono (by simp; omega)); have HB4 := hid1 (hb5.alloc (by have := hb4.size; simp at this; omega) (.cells (recRow 0 false (fun _ => 0)) 44)); have HY4 := hid1 (heap_new w4 (.cells (recRow 0 false (fun _ => 0)) 44)); have HL4 := hid1 (show X < w4.heap.size ∧ B + 1 < w4.heap.size from ⟨heap_lt ((Fr.ofBelow hb4).heap (heap_keep HX2.out (.cells #[.slice none 0 0] 51)) (by simp)), heap_lt ((Fr.ofBelow hb4).heap (heap_keep HT2.out (.cells #[.slice none 0 0] 51)) (by simp))⟩); clear hw4 hb4 hb5 hnx hnt)
          | (refine wpList_load_row rfl 41 (.tmp 9) rfl (B + 1) rfl _ (triRow t.x) _ _ HT4P.out Try.underlying41 rfl (Try.infoTri _) ?_)
          | (refine wpList_buildTo rfl 44 _ rfl (some 87) rfl (recRow 0 true t.x) (by kernel_rfl) ?_)
          | (refine wpList_store_row (w := w4.alloc (.cells (recRow 0 false (fun _ => 0)) 44)) rfl 44 (.tmp 15) (.tmp 87) rfl w4.heap.size (recRow 0 true t.x) rfl rfl _ _ HY4.out (Try.infoRecRow _ _ _) rfl (recRow_one _ _ _) ?_))
        have hfy := fr_row (w4.alloc (.cells (recRow 0 false (fun _ => 0)) 44)) w4.heap.size (recRow 0 true t.x)
        have hx9 := hfy.heap HX4.out (fun hm => by have := List.mem_singleton.1 hm; have := HL4.out; omega)
        have ht9 := hfy.heap HT4.out (fun hm => by have := List.mem_singleton.1 hm; have := HL4.out; omega)
        have hy9 := setRow_heap _ _ _ (recRow 0 true t.x) _ _ HY4.out
        have hw9 := HW4.out.fr hfy (fun k hk hm => by have := List.mem_singleton.1 hm; have := HSL.out k hk; omega)
        have hb9 := Fr.below HB4.out hfy (fun k hk => by have := List.mem_singleton.1 hk; have := HL4.out; have := HL2.out; omega) (by have := heap_lt HT4.out; omega)
        obtain ⟨Yb, hYb⟩ : ∃ Yb, w4.heap.size = Yb := ⟨_, rfl⟩
        rw [hYb] at hx9 ht9 hy9 hw9 hb9 ⊢
        obtain ⟨U, hU⟩ : ∃ U, (w4.alloc (.cells (recRow 0 false (fun _ => 0)) 44)).setRow Yb (recRow 0 true t.x) = U := ⟨_, rfl⟩
        rw [hU] at hx9 ht9 hy9 hw9 hb9 ⊢
        have HXH := hid1 (fun (w' : World) (hw : ∃ q : Ext U, w' = ext U q) => show w'.heap[X]? = some (.cells (recRow 3 true (upd x 15 n)) 44 (0, 0)) by obtain ⟨q, rfl⟩ := hw; exact ext_heap hx9 q)
        have HTH := hid1 (fun (w' : World) (hw : ∃ q : Ext U, w' = ext U q) => show w'.heap[B + 1]? = some (.cells (triRow t.x) 41 (0, 0)) by obtain ⟨q, rfl⟩ := hw; exact ext_heap ht9 q)
        have HYH := hid1 (fun (w' : World) (hw : ∃ q : Ext U, w' = ext U q) => show w'.heap[Yb]? = some (.cells (recRow 0 true t.x) 44 (0, 0)) by obtain ⟨q, rfl⟩ := hw; exact ext_heap hy9 q)
        have HLN := hid1 (show (((([] : List UInt8)).length : Nat) : Int) = 0 from rfl)
        have HLEN := hid1 (fun q : Ext U => show Calls Try.prog 12 #[.pointer (some ⟨V2.heap.size, 0, none⟩)] (ext U q) (fun e w' => e = .returned (.int .i64 0) ∧ ext U q = w') from (wlen_calls (hw9.fr (Fr.ofBelow (ext_below q)) (by simp))).mono (fun e w' h => ⟨h.1.trans (by rw [HLN.out]), h.2.symm⟩))
        have HB9 := hid1 hb9
        have HBU := hid1 (show B ≤ U.heap.size by have := heap_lt ht9; omega)
        clear hfy hx9 ht9 hy9 hw9 hb9 hYb hU HX4 HT4 HW4 HSL HB4 HY4 HL4 HT4P HXN HX2 HT2 HB2
        refine wp_region_grow (by kernel_rfl) (by kernel_rfl) ?_
        repeat (first
          | (refine wpQuiet_load_rowG (by rfl) 44 (.tmp 11) rfl X rfl 44 (recRow 3 true (upd x 15 n)) (0, 0) _ HXH.out Try.underlying44 rfl (Try.infoRecRow _ _ _) ?_; simp only [Act.put, List.setIfInBounds_toArray, List.set_cons_succ, List.set_cons_zero])
          | (refine wpQuiet_load_rowG (by rfl) 44 (.tmp 15) rfl Yb rfl 44 (recRow 0 true t.x) (0, 0) _ HYH.out Try.underlying44 rfl (Try.infoRecRow _ _ _) ?_; simp only [Act.put, List.setIfInBounds_toArray, List.set_cons_succ, List.set_cons_zero])
          | (refine wpQuiet_load_rowG (by rfl) 41 (.tmp 9) rfl (B + 1) rfl 41 (triRow t.x) (0, 0) _ HTH.out Try.underlying41 rfl (Try.infoTri _) ?_; simp only [Act.put, List.setIfInBounds_toArray, List.set_cons_succ, List.set_cons_zero])
          | go_big_quiet_step (first
            | (go_at_call 11; first | (with_reducible exact Calls.grow (HCK.out _)) | (with_reducible exact Calls.grow (HCKY.out _)))
            | (go_at_call 13; exact Calls.grow (HCKT.out _))
            | (go_at_call 12; exact Calls.grow_same (HLEN.out _))
            | (go_at_call 10; exact Calls.grow (HNIL.out _))))
        refine wpQuiet_nil ?_
        rintro _ ⟨q, rfl⟩
        go_wp2
        go_ret
        exact ⟨rfl, by rw [HBE.out]; exact HB9.out.trans ((ext_below q).mono HBU.out)⟩

      · skip
        have d0 : decide (n < 0) = false := by simpa using hr.1
        have d1 : decide (n > 65536) = false := by simpa using hr.2
        have hx0 := HXV.out
        have e0 : V.cell? ⟨X, 17, none⟩ = some (.int .i64 (x 15)) := cell_at hx0 17
        have z0 := free_at hx0 17
        have hx2 := heap_set (a := ⟨X, 17, none⟩) hx0 rfl (.int .i64 n)
        have hf2 := (Fr.refl [X] V).set ⟨X, 17, none⟩ (.inl (by simp)) (.int .i64 n)
        have HX2a := hid1 hx2
        have HT2a := hid1 (hf2.heap HTV.out (fun hm => by have := List.mem_singleton.1 hm; have := HL2.out; omega))
        have HB2a := hid1 (Fr.below HBV.out hf2 (fun k hk => by have := List.mem_singleton.1 hk; have := HL2.out; omega) (by have := heap_lt HTV.out; omega))
        have HCH := hid1 (show chkRec 3 true (upd x 15 n) = 0 by rw [chkRec_true (by omega)]; exact good15 (HSM.out rfl) HCHK0 (by omega))
        clear hx0 hx2 hf2
        go_upto_region 27 with fail
        clear e0 z0
        obtain ⟨V2, hV2⟩ : ∃ V2, V.setCell ⟨X, 17, none⟩ (.int .i64 n) = V2 := ⟨_, rfl⟩
        rw [hV2] at HX2a HT2a HB2a ⊢
        have HX2 : Hid (V2.heap[X]? = some (.cells (recRow 3 true (upd x 15 n)) 44 (0, 0))) := HX2a
        have HT2 := HT2a
        have HB2 := HB2a
        clear HX2a HT2a HB2a hV2 HXV HTV HBV

        have hxn := heap_keep HX2.out (.cells #[.slice none 0 0] 51)
        have HXN := hid1 hxn
        have HCK := hid1 (fun w => recchk_row 3 true (upd x 15 n) w)
        rw [HCH.out] at HCK
        have HNIL := hid1 (fun w : World => recput_nil (w := w) 3 true (upd x 15 n))
        clear hxn
        go_wp2_with (first
          | (refine wpList_load_row rfl 44 (.tmp 11) rfl X rfl _ (recRow 3 true (upd x 15 n)) _ _ HXN.out Try.underlying44 rfl (Try.infoRecRow _ _ _) ?_)
          | (go_at_call 10; refine (recput_calls (HWO.out V2) (by decide) 3 true (upd x 15 n) HCH.out).mono ?_; rintro e w4 ⟨rfl, S4, hw4, hg4, hf4⟩; have hnx : X < V2.heap.size := heap_lt HX2.out; have hnt : B + 1 < V2.heap.size := heap_lt HT2.out; have HX4 := hid1 (heap_keep (hf4.heap (heap_keep HX2.out (.cells #[.slice none 0 0] 51)) (fun hm => by have := List.mem_singleton.1 hm; omega)) (.cells (recRow 0 false (fun _ => 0)) 44)); have HT4 := hid1 (heap_keep (hf4.heap (heap_keep HT2.out (.cells #[.slice none 0 0] 51)) (fun hm => by have := List.mem_singleton.1 hm; omega)) (.cells (recRow 0 false (fun _ => 0)) 44)); have HT4P := hid1 (hf4.heap (heap_keep HT2.out (.cells #[.slice none 0 0] 51)) (fun hm => by have := List.mem_singleton.1 hm; omega)); have HW4 := hid1 (hw4.fr (fr_alloc w4 (.cells (recRow 0 false (fun _ => 0)) 44)) (fun _ _ h => by cases h)); have HSL := hid1 hw4.lt; have hb4 := Fr.below (HB2.out.alloc (by omega) (.cells #[.slice none 0 0] 51)) hf4 (fun k hk => by have := List.mem_singleton.1 hk; omega) (by simp; omega); have HB4 := hid1 (hb4.alloc (by have := hf4.size; simp at this; omega) (.cells (recRow 0 false (fun _ => 0)) 44)); have HY4 := hid1 (heap_new w4 (.cells (recRow 0 false (fun _ => 0)) 44)); have HL4 := hid1 (show X < w4.heap.size ∧ B + 1 < w4.heap.size from ⟨heap_lt (hf4.heap (heap_keep HX2.out (.cells #[.slice none 0 0] 51)) (fun hm => by have := List.mem_singleton.1 hm; omega)), heap_lt (hf4.heap (heap_keep HT2.out (.cells #[.slice none 0 0] 51)) (fun hm => by have := List.mem_singleton.1 hm; omega))⟩); clear hw4 hg4 hf4 hb4 hnx hnt)
          | (refine wpList_load_row rfl 41 (.tmp 9) rfl (B + 1) rfl _ (triRow t.x) _ _ HT4P.out Try.underlying41 rfl (Try.infoTri _) ?_)
          | (refine wpList_buildTo rfl 44 _ rfl (some 87) rfl (recRow 0 true t.x) (by kernel_rfl) ?_)
          | (refine wpList_store_row (w := w4.alloc (.cells (recRow 0 false (fun _ => 0)) 44)) rfl 44 (.tmp 15) (.tmp 87) rfl w4.heap.size (recRow 0 true t.x) rfl rfl _ _ HY4.out (Try.infoRecRow _ _ _) rfl (recRow_one _ _ _) ?_))
        have hfy := fr_row (w4.alloc (.cells (recRow 0 false (fun _ => 0)) 44)) w4.heap.size (recRow 0 true t.x)
        have hx9 := hfy.heap HX4.out (fun hm => by have := List.mem_singleton.1 hm; have := HL4.out; omega)
        have ht9 := hfy.heap HT4.out (fun hm => by have := List.mem_singleton.1 hm; have := HL4.out; omega)
        have hy9 := setRow_heap _ _ _ (recRow 0 true t.x) _ _ HY4.out
        have hw9 := HW4.out.fr hfy (fun k hk hm => by have := List.mem_singleton.1 hm; have := HSL.out k hk; omega)
        have hb9 := Fr.below HB4.out hfy (fun k hk => by have := List.mem_singleton.1 hk; have := HL4.out; have := HL2.out; omega) (by have := heap_lt HT4.out; omega)
        obtain ⟨Yb, hYb⟩ : ∃ Yb, w4.heap.size = Yb := ⟨_, rfl⟩
        rw [hYb] at hx9 ht9 hy9 hw9 hb9 ⊢
        obtain ⟨U, hU⟩ : ∃ U, (w4.alloc (.cells (recRow 0 false (fun _ => 0)) 44)).setRow Yb (recRow 0 true t.x) = U := ⟨_, rfl⟩
        rw [hU] at hx9 ht9 hy9 hw9 hb9 ⊢
        have HXH := hid1 (fun (w' : World) (hw : ∃ q : Ext U, w' = ext U q) => show w'.heap[X]? = some (.cells (recRow 3 true (upd x 15 n)) 44 (0, 0)) by obtain ⟨q, rfl⟩ := hw; exact ext_heap hx9 q)
        have HTH := hid1 (fun (w' : World) (hw : ∃ q : Ext U, w' = ext U q) => show w'.heap[B + 1]? = some (.cells (triRow t.x) 41 (0, 0)) by obtain ⟨q, rfl⟩ := hw; exact ext_heap ht9 q)
        have HYH := hid1 (fun (w' : World) (hw : ∃ q : Ext U, w' = ext U q) => show w'.heap[Yb]? = some (.cells (recRow 0 true t.x) 44 (0, 0)) by obtain ⟨q, rfl⟩ := hw; exact ext_heap hy9 q)
        obtain ⟨ln, hln, hpos⟩ : ∃ ln : Int, (((([] : List UInt8) ++ recBytes 3 true (upd x 15 n)).length : Nat) : Int) = ln ∧ 0 < ln := ⟨_, rfl, recBytes_pos 3 true (upd x 15 n)⟩
        have HLN := hid1 hln
        clear hln
        have HLEN := hid1 (fun q : Ext U => show Calls Try.prog 12 #[.pointer (some ⟨V2.heap.size, 0, none⟩)] (ext U q) (fun e w' => e = .returned (.int .i64 ln) ∧ ext U q = w') from (wlen_calls (hw9.fr (Fr.ofBelow (ext_below q)) (by simp))).mono (fun e w' h => ⟨h.1.trans (by rw [HLN.out]), h.2.symm⟩))
        have HB9 := hid1 hb9
        have HBU := hid1 (show B ≤ U.heap.size by have := heap_lt ht9; omega)
        clear hfy hx9 ht9 hy9 hw9 hb9 hYb hU HX4 HT4 HW4 HSL HB4 HY4 HL4 HT4P HXN HX2 HT2 HB2
        refine wp_region_grow (by kernel_rfl) (by kernel_rfl) ?_
        repeat (first
          | (refine wpQuiet_load_rowG (by rfl) 44 (.tmp 11) rfl X rfl 44 (recRow 3 true (upd x 15 n)) (0, 0) _ HXH.out Try.underlying44 rfl (Try.infoRecRow _ _ _) ?_; simp only [Act.put, List.setIfInBounds_toArray, List.set_cons_succ, List.set_cons_zero])
          | (refine wpQuiet_load_rowG (by rfl) 44 (.tmp 15) rfl Yb rfl 44 (recRow 0 true t.x) (0, 0) _ HYH.out Try.underlying44 rfl (Try.infoRecRow _ _ _) ?_; simp only [Act.put, List.setIfInBounds_toArray, List.set_cons_succ, List.set_cons_zero])
          | (refine wpQuiet_load_rowG (by rfl) 41 (.tmp 9) rfl (B + 1) rfl 41 (triRow t.x) (0, 0) _ HTH.out Try.underlying41 rfl (Try.infoTri _) ?_; simp only [Act.put, List.setIfInBounds_toArray, List.set_cons_succ, List.set_cons_zero])
          | go_big_quiet_step (first
            | (go_at_call 11; first | (with_reducible exact Calls.grow (HCK.out _)) | (with_reducible exact Calls.grow (HCKY.out _)))
            | (go_at_call 13; exact Calls.grow (HCKT.out _))
            | (go_at_call 12; exact Calls.grow_same (HLEN.out _))
            | (go_at_call 10; exact Calls.grow (HNIL.out _))))
        refine wpQuiet_nil ?_
        rintro _ ⟨q, rfl⟩
        go_wp2
        go_ret
        exact ⟨rfl, by rw [HBE.out]; exact HB9.out.trans ((ext_below q).mono HBU.out)⟩
end Go.Proofs.Ytmholpploaecgaa
