/-
  TriCut: the law's walk.
-/
import Derived.Test.YtmholpploaecgaaLawBytes
import Derived.Test.YtmholpploaecgaaRecCut
import Derived.Test.YtmholpploaecgaaOpenTri
import Derived.Test.YtmholpploaecgaaRowG
namespace Go.Proofs.Ytmholpploaecgaa
open Go.RowKit
set_option linter.unusedVariables false
set_option linter.unusedSimpArgs false

theorem Sl.fr2 {S : List Nat} {w w' : World} {a : Option Addr} {n cap size : Nat} {xs : List Value} (h : Sl w a n cap size xs) (hf : Fr S w w') (hn : xs ≠ [] → ∀ p, a = some p → p.block ∉ S) : Sl w' a n cap size xs :=
  ⟨h.len, h.le, h.max, h.nil, fun hx => by
    obtain ⟨b, off, h1, h2, h3⟩ := h.row hx
    refine ⟨b, off, h1, Nat.lt_of_lt_of_le h2 hf.size, fun i hi => ?_⟩
    have := h3 i hi
    unfold World.cell? at this ⊢
    rw [hf.block b h2 (hn hx _ h1)]; exact this⟩
theorem Sl.lt {w : World} {a : Option Addr} {n cap size : Nat} {xs : List Value} (h : Sl w a n cap size xs) (hx : xs ≠ []) (p : Addr) (hp : a = some p) : p.block < w.heap.size := by
  obtain ⟨b, off, h1, h2, _⟩ := h.row hx
  rw [h1] at hp
  cases hp
  exact h2
theorem OwnB.read {w : World} {B n cap : Nat} {a : Option Addr} {bs : List UInt8} (h : OwnB w B (.slice a n cap) bs) : Bytes w a n cap bs := by
  obtain ⟨a', c', e, hb⟩ := h.bytes
  simp only [Value.slice.injEq] at e
  obtain ⟨rfl, rfl, rfl⟩ := e
  exact hb
theorem rec_len {a : Int} {s : Bool} {x : Nat → Int} (hc : chkRec a s x = 0) : 0 < (recBytes a s x).length ∧ (recBytes a s x).length ≤ 100 := by
  obtain ⟨ha, ht, _⟩ := chkRec_ok hc
  cases s with
  | false =>
    have e : (encN (2 * a).toNat).length = 1 := enc1 (by omega)
    show 0 < (encN (2 * a).toNat).length ∧ (encN (2 * a).toNat).length ≤ 100
    rw [e]; decide
  | true =>
    have e : (encN (2 * a + 1).toNat).length = 1 := enc1 (by omega)
    have e2 := tri_len (ht rfl) 3 (Nat.le_refl _)
    show 0 < (encN (2 * a + 1).toNat ++ triBytes x 3).length ∧ (encN (2 * a + 1).toNat ++ triBytes x 3).length ≤ 100
    rw [List.length_append, e]
    exact ⟨Nat.lt_of_lt_of_le Nat.one_pos (Nat.le_add_right _ _), Nat.le_trans (Nat.add_le_add_left e2 1) (by decide)⟩
theorem lawbytes_calls (a : Int) (s : Bool) (x : Nat → Int) (hc : chkRec a s x = 0) (w : World) :
    Calls Try.prog 14 #[.agg (recRow a s x)] w fun e w' => ∃ v, e = .returned v ∧ OwnB w' w.heap.size v (recBytes a s x) ∧ Below w.heap.size w w' := by
  cases s with
  | false => exact lawbytes_none a x hc w
  | true => exact lawbytes_tri a x hc w
set_option maxRecDepth 10000 in
set_option maxHeartbeats 4000000 in
theorem tricut_walk {w : World} {s : SmallR} (hs : s.good) (draw : Int) (hd : (Lit.int .u8 draw).wf = true) (at' : Int) (ha : (Lit.int .u8 at').wf = true) {a3 : Option Addr} {n3 c3 : Nat} {more : List UInt8} (hm : Bytes w a3 n3 c3 more) :
    Calls Try.prog 6 #[.agg (smRow s.p), .int .u8 draw, .int .u8 at', .slice a3 n3 c3] w fun e w' => e = .returned (.bool true) ∧ Below w.heap.size w w' := by
  have hdb := bounds_u8 hd
  have hab := bounds_u8 ha
  obtain ⟨r, hr⟩ : ∃ r, draw % 32 = r := ⟨_, rfl⟩
  have HREC := hid1 (fun w => record_calls hs hdb true w)
  rw [hr] at HREC
  have h0 := heap_new w (.cells (smRow s.p) 31)
  have hb := (Below.refl w.heap.size w).alloc (Nat.le_refl _) (.cells (smRow s.p) 31)
  obtain ⟨B, hB0⟩ : ∃ B, w.heap.size = B := ⟨_, rfl⟩
  have HLT := hid1 (fun hx q hq => Nat.lt_of_lt_of_le (hm.lt hx q hq) (Nat.le_of_eq hB0))
  have HM0 := hid1 (hm.fr (fr_alloc w (.cells (smRow s.p) 31)) (fun _ _ => by simp))
  have hB := hB0
  rw [hB] at h0 hb
  have H0 := hid1 h0
  have HB0 := hid1 hb
  have HBE := hid1 hB
  clear h0 hb hd ha hm hr
  go_enter Try.func6, Try.ntmps6
  by_cases hl : (n3 : Int) > 50
  · go_wp2_with (first 
    | (go_at_call 7; refine (awake14 _).mono ?_; rintro e w1 ⟨rfl, hb1⟩; have HS1 := hid1 ((Fr.ofBelow hb1).heap H0.out (by simp)); have HM1 := hid1 (HM0.out.fr (Fr.ofBelow hb1) (fun _ _ => by simp)); have HB1 := hid1 (HB0.out.trans (hb1.mono (by rw [← HBE.out]; exact HB0.out.size))); clear hb1)
    | (refine wpList_load_row rfl 31 (.tmp 4) rfl B rfl _ (smRow s.p) _ _ HS1.out Try.underlying31 rfl (Try.infoSm _) ?_)
    | (go_at_call 8; refine (HREC.out w1).mono ?_; rintro e w2 ⟨sm, x, rfl, hchk, hsm, hz, _, hb2⟩; have HCHK := hid1 hchk; have hbl : B ≤ w1.heap.size := Nat.le_of_lt (heap_lt HS1.out); have HX2 := hid1 (heap_new w2 (.cells (recRow 0 false (fun _ => 0)) 44)); have HM2 := hid1 ((HM1.out.fr (Fr.ofBelow hb2) (fun _ _ => by simp)).fr (fr_alloc w2 (.cells (recRow 0 false (fun _ => 0)) 44)) (fun _ _ => by simp)); have HL2 := hid1 (show B < w2.heap.size from heap_lt ((Fr.ofBelow hb2).heap HS1.out (by simp))); have HB2 := hid1 ((HB1.out.trans (hb2.mono hbl)).alloc (Nat.le_trans hbl hb2.size) (.cells (recRow 0 false (fun _ => 0)) 44)); clear hchk hsm hz hb2 hbl)
    | (refine wpList_store_row (w := w2.alloc (.cells (recRow 0 false (fun _ => 0)) 44)) rfl 44 (.tmp 9) (.tmp 22) rfl w2.heap.size (recRow r sm x) rfl rfl _ _ HX2.out (Try.infoRecRow _ _ _) rfl (recRow_one _ _ _) ?_; have hf := fr_row (w2.alloc (.cells (recRow 0 false (fun _ => 0)) 44)) w2.heap.size (recRow r sm x); have hx := setRow_heap _ _ _ (recRow r sm x) _ _ HX2.out; have hm := HM2.out.fr2 hf (fun hne q hq hq2 => by have := List.mem_singleton.1 hq2; have := HLT.out hne q hq; have := HL2.out; omega); have hb := Fr.below HB2.out hf (fun k hk => by have := List.mem_singleton.1 hk; have := HL2.out; omega) (by rw [← HBE.out]; exact HB2.out.size); obtain ⟨X, hX⟩ : ∃ X, w2.heap.size = X := ⟨_, rfl⟩; rw [hX] at hx hm hb HL2 ⊢; obtain ⟨V, hV⟩ : ∃ V, (w2.alloc (.cells (recRow 0 false (fun _ => 0)) 44)).setRow X (recRow r sm x) = V := ⟨_, rfl⟩; rw [hV] at hx hm hb ⊢; have HXV := hid1 hx; have HMV := hid1 hm; have HBV := hid1 hb; clear hx hm hb hf hV hX HX2 HM2 HB2))
    go_ret
    exact ⟨rfl, by rw [HBE.out]; exact HB1.out⟩
  · have HNB := hid1 (show n3 ≤ 50 by omega)
    go_upto_region 6 with (first 
    | (go_at_call 7; refine (awake14 _).mono ?_; rintro e w1 ⟨rfl, hb1⟩; have HS1 := hid1 ((Fr.ofBelow hb1).heap H0.out (by simp)); have HM1 := hid1 (HM0.out.fr (Fr.ofBelow hb1) (fun _ _ => by simp)); have HB1 := hid1 (HB0.out.trans (hb1.mono (by rw [← HBE.out]; exact HB0.out.size))); clear hb1)
    | (refine wpList_load_row rfl 31 (.tmp 4) rfl B rfl _ (smRow s.p) _ _ HS1.out Try.underlying31 rfl (Try.infoSm _) ?_)
    | (go_at_call 8; refine (HREC.out w1).mono ?_; rintro e w2 ⟨sm, x, rfl, hchk, hsm, hz, _, hb2⟩; have HCHK := hid1 hchk; have hbl : B ≤ w1.heap.size := Nat.le_of_lt (heap_lt HS1.out); have HX2 := hid1 (heap_new w2 (.cells (recRow 0 false (fun _ => 0)) 44)); have HM2 := hid1 ((HM1.out.fr (Fr.ofBelow hb2) (fun _ _ => by simp)).fr (fr_alloc w2 (.cells (recRow 0 false (fun _ => 0)) 44)) (fun _ _ => by simp)); have HL2 := hid1 (show B < w2.heap.size from heap_lt ((Fr.ofBelow hb2).heap HS1.out (by simp))); have HB2 := hid1 ((HB1.out.trans (hb2.mono hbl)).alloc (Nat.le_trans hbl hb2.size) (.cells (recRow 0 false (fun _ => 0)) 44)); clear hchk hsm hz hb2 hbl)
    | (refine wpList_store_row (w := w2.alloc (.cells (recRow 0 false (fun _ => 0)) 44)) rfl 44 (.tmp 9) (.tmp 22) rfl w2.heap.size (recRow r sm x) rfl rfl _ _ HX2.out (Try.infoRecRow _ _ _) rfl (recRow_one _ _ _) ?_; have hf := fr_row (w2.alloc (.cells (recRow 0 false (fun _ => 0)) 44)) w2.heap.size (recRow r sm x); have hx := setRow_heap _ _ _ (recRow r sm x) _ _ HX2.out; have hm := HM2.out.fr2 hf (fun hne q hq hq2 => by have := List.mem_singleton.1 hq2; have := HLT.out hne q hq; have := HL2.out; omega); have hb := Fr.below HB2.out hf (fun k hk => by have := List.mem_singleton.1 hk; have := HL2.out; omega) (by rw [← HBE.out]; exact HB2.out.size); obtain ⟨X, hX⟩ : ∃ X, w2.heap.size = X := ⟨_, rfl⟩; rw [hX] at hx hm hb HL2 ⊢; obtain ⟨V, hV⟩ : ∃ V, (w2.alloc (.cells (recRow 0 false (fun _ => 0)) 44)).setRow X (recRow r sm x) = V := ⟨_, rfl⟩; rw [hV] at hx hm hb ⊢; have HXV := hid1 hx; have HMV := hid1 hm; have HBV := hid1 hb; clear hx hm hb hf hV hX HX2 HM2 HB2))
    go_upto_region 7 with (first 
    | (refine wpList_load_row rfl 44 (.tmp 9) rfl X rfl _ (recRow r sm x) _ _ HXV.out Try.underlying44 rfl (Try.infoRecRow _ _ _) ?_)
    | (go_at_call 14; refine (lawbytes_calls r sm x HCHK.out V).mono ?_; rintro e w3 ⟨v, rfl, hv, hb3⟩; have HX3 := hid1 ((Fr.ofBelow hb3).heap HXV.out (by simp)); have HM3 := hid1 (HMV.out.fr (Fr.ofBelow hb3) (fun _ _ => by simp)); have HB3 := hid1 (HBV.out.trans (hb3.mono (by have := heap_lt HXV.out; have := HL2.out; omega))); have HV3 := hid1 hv; clear hv hb3))
    obtain ⟨ab, cb, rfl, hy⟩ := HV3.out.bytes
    have htl := rec_len HCHK.out
    have HCUT := hid1 (fun c (h : c < (recBytes r sm x).length) => tk_cut HCHK.out h)
    have HBACK := hid1 (fun R : List UInt8 => tk_back (bs := recBytes r sm x ++ R) (i := 0) (R := R) HCHK.out rfl)
    obtain ⟨T, hT⟩ : ∃ T, recBytes r sm x = T := ⟨_, rfl⟩
    rw [hT] at hy HV3 htl HCUT HBACK ⊢
    obtain ⟨m, hm⟩ : ∃ m, T.length = m := ⟨_, rfl⟩
    rw [hm] at hy HV3 htl HCUT ⊢
    have hcb : m ≤ cb := hy.le
    obtain ⟨c, hc, hcm⟩ : ∃ c : Nat, at'.tmod (m : Int) = (c : Int) ∧ c < m := ⟨(at' % (m : Int)).toNat, by rw [Int.tmod_eq_emod_of_nonneg (by omega)]; have := Int.emod_nonneg at' (show (m : Int) ≠ 0 by omega); omega, by have := Int.emod_lt_of_pos at' (show (0 : Int) < m by omega); have := Int.emod_nonneg at' (show (m : Int) ≠ 0 by omega); omega⟩
    have HYC := hid1 (hy.front c (by omega))
    have HM := hid1 hm
    have n4 : IntKind.i64.wrap at' = at' := IntWalk.i64_in _ (by omega)
    have n5 : IntKind.i64.wrap (c : Int) = (c : Int) := IntWalk.i64_in _ (by omega)
    have hm0 : (m : Int) ≠ 0 := by omega
    have hc1 : (c : Int) ≤ (cb : Int) := by omega
    have hc2 : c ≤ cb := by omega
    have hc3 : c ≤ 1000000 := by omega
    have HY := hid1 hy
    clear hy hT hm
    have HLV := hid1 (show B < V.heap.size ∧ X < V.heap.size from ⟨by have := HL2.out; have := heap_lt HXV.out; omega, heap_lt HXV.out⟩)
    have HGOT := hid1 (show recRow (gotA (T.take c) ⟨0, 0⟩) (gotS (T.take c) ⟨0, 0⟩) (gotX (T.take c) ⟨0, 0⟩) = recRow 0 false (fun _ => 0) by have := HCUT.out c hcm; unfold gotA gotS gotX; rw [if_neg (by rw [this]; decide), if_neg (by rw [this]; decide), if_neg (by rw [this]; decide)])
    go_upto_region 9 with (first 
    | (go_at_call 15; refine (read_calls HYC.out hc3).mono ?_; rintro e w6 ⟨g6, S6, rfl, hr6, hS6, hb6⟩; have HR6 := hid1 hr6; have HG6 := hid1 (show w3.heap.size ≤ g6 by obtain ⟨_, _, _, _, _, _, h4, _⟩ := hr6; exact (hS6 _ h4).1); have HS6 := hid1 (fun k hk => (hS6 k hk).2); have HL3 := hid1 (show X < w3.heap.size ∧ B ≤ w3.heap.size from ⟨heap_lt HX3.out, by have := HL2.out; have := heap_lt HX3.out; omega⟩); have HX6 := hid1 ((Fr.ofBelow hb6).heap HX3.out (by simp)); have HM6 := hid1 (HM3.out.fr (Fr.ofBelow hb6) (fun _ _ => by simp)); have HV6 := hid1 (HV3.out.keep hb6); have HB6 := hid1 (HB3.out.trans (hb6.mono HL3.out.2)); have HW36 := hid1 hb6.size; clear hr6 hS6 hb6)
    | (go_at_call 17; refine (rectake_calls HR6.out HS6.out).mono ?_; rintro e w7 ⟨rfl, hr7, hf7⟩; rw [HGOT.out]; have HR7 := hid1 (hr7.fr (fr_alloc w7 (.cells (recRow 0 false (fun _ => 0)) 44)) (fun _ _ h => by cases h)); have HX7 := hid1 (heap_keep (hf7.heap HX6.out (fun hm => by have := List.mem_singleton.1 hm; have := HL3.out; have := HG6.out; omega)) (.cells (recRow 0 false (fun _ => 0)) 44)); have HN7 := hid1 (heap_new w7 (.cells (recRow 0 false (fun _ => 0)) 44)); have HM7 := hid1 ((HM6.out.fr2 hf7 (fun hne q hq hq2 => by have := List.mem_singleton.1 hq2; have := HLT.out hne q hq; have := HL3.out; have := HG6.out; omega)).fr (fr_alloc w7 (.cells (recRow 0 false (fun _ => 0)) 44)) (fun _ _ => by simp)); have HV7 := hid1 (OwnB.keep (own_fr HV6.out hf7 (fun g hg hm => by have := List.mem_singleton.1 hm; have := (World.ownsRow.lt HV3.out g hg).2; have := HG6.out; omega)) ((Below.refl w7.heap.size w7).alloc (Nat.le_refl _) (.cells (recRow 0 false (fun _ => 0)) 44))); have HB7 := hid1 ((Fr.below HB6.out hf7 (fun k hk => by have := List.mem_singleton.1 hk; have := HL3.out; have := HG6.out; omega) (by have := HL2.out; have := heap_lt HX6.out; omega)).alloc (by have := heap_lt (hf7.heap HX6.out (fun hm => by have := List.mem_singleton.1 hm; have := HL3.out; have := HG6.out; omega)); have := HL2.out; omega) (.cells (recRow 0 false (fun _ => 0)) 44)); have HW67 := hid1 hf7.size; clear hr7)
    | (refine wpList_store_row (w := w7.alloc (.cells (recRow 0 false (fun _ => 0)) 44)) rfl 44 (.tmp 12) (.tmp 34) rfl w7.heap.size (recRow 0 false (fun _ => 0)) rfl rfl _ _ HN7.out (Try.infoRecRow _ _ _) rfl (recRow_one _ _ _) ?_; have hf := fr_row (w7.alloc (.cells (recRow 0 false (fun _ => 0)) 44)) w7.heap.size (recRow 0 false (fun _ => 0)); have hxl := heap_lt HX6.out; have hwl := HW67.out; have hw3 := HW36.out; have hbx := HL2.out; have hr8 := HR7.out.fr hf (fun k hk hm => by have := List.mem_singleton.1 hm; have := HS6.out k hk; omega); have hx8 := hf.heap HX7.out (fun hm => by have := List.mem_singleton.1 hm; omega); have hn8 := setRow_heap _ _ _ (recRow 0 false (fun _ => 0)) _ _ HN7.out; have hm8 := HM7.out.fr2 hf (fun hne q hq hq2 => by have := List.mem_singleton.1 hq2; have := HLT.out hne q hq; omega); have hv8 := own_fr HV7.out hf (fun g hg hm => by have := List.mem_singleton.1 hm; have := (World.ownsRow.lt HV3.out g hg).2; omega); have hb8 := Fr.below HB7.out hf (fun k hk => by have := List.mem_singleton.1 hk; omega) (by simp; omega); have hs8 : ∀ k ∈ S6, k < ((w7.alloc (.cells (recRow 0 false (fun _ => 0)) 44)).setRow w7.heap.size (recRow 0 false (fun _ => 0))).heap.size := (fun k hk => by have := HS6.out k hk; have h2 := hf.size; have h3 : (w7.alloc (.cells (recRow 0 false (fun _ => 0)) 44)).heap.size = w7.heap.size + 1 := (by simp); omega); obtain ⟨Yb, hYb⟩ : ∃ Yb, w7.heap.size = Yb := ⟨_, rfl⟩; rw [hYb] at hr8 hx8 hn8 hm8 hv8 hb8 hs8 ⊢; obtain ⟨V8, hV8⟩ : ∃ V8, (w7.alloc (.cells (recRow 0 false (fun _ => 0)) 44)).setRow Yb (recRow 0 false (fun _ => 0)) = V8 := ⟨_, rfl⟩; rw [hV8] at hr8 hx8 hn8 hm8 hv8 hb8 hs8 ⊢; have HR8 := hid1 hr8; have HX8 := hid1 hx8; have HN8 := hid1 hn8; have HM8 := hid1 hm8; have HV8 := hid1 hv8; have HB8 := hid1 hb8; have HS8 := hid1 hs8; clear hs8 hf hxl hwl hw3 hbx hr8 hx8 hn8 hm8 hv8 hb8))
    have HVB := hid1 ((OwnB.read HV8.out).keep ((Below.refl _ _).alloc (Nat.le_refl _) (.cells #[] 5)))
    have HB8L := hid1 (show B ≤ V8.heap.size by have := HB8.out.size; have := HBE.out; omega)
    have hml : more.length = n3 := by have := HM8.out.len; simpa using this
    have HZL0 : ([] ++ T ++ more).length ≤ 1000000 := by have := HM.out; have := HNB.out; rw [List.nil_append, List.length_append]; omega
    have HNM := hid1 (show ([] ++ T : List UInt8).length + n3 ≤ 140737488355328 by have := HM.out; have := HNB.out; rw [List.nil_append]; omega)
    have hbk := HBACK.out more
    rw [Nat.zero_add, HM.out] at hbk
    obtain ⟨Z, hZ⟩ : ∃ Z, [] ++ T ++ more = Z := ⟨_, rfl⟩
    have hZ2 : T ++ more = Z := hZ
    rw [hZ2] at hbk
    rw [hZ] at HZL0
    have HZE := hid1 hZ
    have HZL := hid1 HZL0
    have HBK := hid1 hbk
    clear hml HZL0 hbk hZ hZ2
    go_upto_region 10 with (first 
    | (at_builtin; refine app_bytes rfl (.tmp 35) (.tmp 36) rfl rfl (OwnB.emptyAt V8 V8.heap.size _ rfl (Nat.le_refl _)) rfl HVB.out (by show 0 + m ≤ _; omega) (by simp) ?_; intro v9 w9 ho9 hg9; have hb9 := (OwnB.emptyAt V8 V8.heap.size _ rfl (Nat.le_refl _)).below ((Below.refl V8.heap.size V8).alloc (Nat.le_refl _) _) hg9 (Nat.le_refl _) (by simp); have HO9 := hid1 ho9; have HB9 := hid1 hb9; have HM9 := hid1 (HM8.out.keep hb9); clear ho9 hg9 hb9)
    | (at_builtin; refine app_bytes rfl (.tmp 37) (.tmp 38) rfl rfl HO9.out rfl HM9.out HNM.out HB9.out.size ?_; intro v10 w10 ho10 hg10; have hb10 := HO9.out.below HB9.out hg10 (Nat.le_refl _) HB9.out.size; rw [HZE.out] at ho10; obtain ⟨a10, c10, rfl, hz10⟩ := ho10.bytes; have HZ10 := hid1 hz10; have HB10 := hid1 hb10; clear ho10 hg10 hb10 hz10)
    | (go_at_call 15; refine (read_calls HZ10.out HZL.out).mono ?_; rintro e w11 ⟨g11, S11, rfl, hr11, hS11, hb11⟩; have hall := HB10.out.trans (hb11.mono HB10.out.size); have hg11 := (by obtain ⟨_, _, _, _, _, _, h4, _⟩ := hr11; exact hS11 _ h4 : w10.heap.size ≤ g11 ∧ g11 < w11.heap.size); have HQ11 := hid1 hr11; have HG11 := hid1 (show V8.heap.size ≤ g11 from Nat.le_trans HB10.out.size hg11.1); have HS11 := hid1 (fun k hk => (hS11 k hk).2); have HR11 := hid1 (HR8.out.fr (Fr.ofBelow hall) (fun _ _ h => by cases h)); have HX11 := hid1 ((Fr.ofBelow hall).heap HX8.out (by simp)); have HN11 := hid1 ((Fr.ofBelow hall).heap HN8.out (by simp)); have HB11 := hid1 (HB8.out.trans (hall.mono HB8L.out)); have HW11 := hid1 hall.size; clear hr11 hS11 hb11 hall hg11))
    go_upto_region 11 with (first 
    | (go_at_call 17; refine (rectake_calls HQ11.out HS11.out).mono ?_; rintro e w12 ⟨rfl, hr12, hf12⟩; rw [HBK.out.2]; rw [HBK.out.1] at hr12; have hxl := heap_lt HX8.out; have hnl := heap_lt HN8.out; have HQ12 := hid1 (hr12.fr (fr_alloc w12 (.cells (recRow 0 false (fun _ => 0)) 44)) (fun _ _ h => by cases h)); have HQS := hid1 (fun k hk => Nat.lt_of_lt_of_le (HS11.out k hk) hf12.size); have HR12 := hid1 ((HR11.out.fr hf12 (fun k hk hm => by have := List.mem_singleton.1 hm; have := HS8.out k hk; have := HG11.out; omega)).fr (fr_alloc w12 (.cells (recRow 0 false (fun _ => 0)) 44)) (fun _ _ h => by cases h)); have HRS := hid1 (fun k hk => Nat.lt_of_lt_of_le (HS8.out k hk) (Nat.le_trans HW11.out hf12.size)); have HX12 := hid1 (heap_keep (hf12.heap HX11.out (fun hm => by have := List.mem_singleton.1 hm; have := HG11.out; omega)) (.cells (recRow 0 false (fun _ => 0)) 44)); have HN12 := hid1 (heap_keep (hf12.heap HN11.out (fun hm => by have := List.mem_singleton.1 hm; have := HG11.out; omega)) (.cells (recRow 0 false (fun _ => 0)) 44)); have HZ12 := hid1 (heap_new w12 (.cells (recRow 0 false (fun _ => 0)) 44)); have hbw : B ≤ w12.heap.size := (by have := HB8L.out; have := HW11.out; have := hf12.size; omega); have HBW := hid1 hbw; have HB12 := hid1 ((Fr.below HB11.out hf12 (fun k hk => by have := List.mem_singleton.1 hk; have := HG11.out; have := HB8L.out; omega) (by have := HB8L.out; have := HW11.out; omega)).alloc hbw (.cells (recRow 0 false (fun _ => 0)) 44)); have HXW := hid1 (show X < w12.heap.size ∧ Yb < w12.heap.size from ⟨by have := HW11.out; have := hf12.size; omega, by have := HW11.out; have := hf12.size; omega⟩); clear hr12 hf12 hxl hnl hbw)
    | (refine wpList_store_row (w := w12.alloc (.cells (recRow 0 false (fun _ => 0)) 44)) rfl 44 (.tmp 14) (.tmp 42) rfl w12.heap.size (recRow r sm x) rfl rfl _ _ HZ12.out (Try.infoRecRow _ _ _) rfl (recRow_one _ _ _) ?_; have hf := fr_row (w12.alloc (.cells (recRow 0 false (fun _ => 0)) 44)) w12.heap.size (recRow r sm x); have hxw := HXW.out; have hr := HR12.out.fr hf (fun k hk hm => by have := List.mem_singleton.1 hm; have := HRS.out k hk; omega); have hq := HQ12.out.fr hf (fun k hk hm => by have := List.mem_singleton.1 hm; have := HQS.out k hk; omega); have hx := hf.heap HX12.out (fun hm => by have := List.mem_singleton.1 hm; omega); have hn := hf.heap HN12.out (fun hm => by have := List.mem_singleton.1 hm; omega); have hz := setRow_heap _ _ _ (recRow r sm x) _ _ HZ12.out; have hb := Fr.below HB12.out hf (fun k hk => by have := List.mem_singleton.1 hk; have := HBW.out; omega) (by have := HBW.out; simp; omega); obtain ⟨Zb, hZb⟩ : ∃ Zb, w12.heap.size = Zb := ⟨_, rfl⟩; rw [hZb] at hr hq hx hn hz hb ⊢; obtain ⟨U, hU⟩ : ∃ U, (w12.alloc (.cells (recRow 0 false (fun _ => 0)) 44)).setRow Zb (recRow r sm x) = U := ⟨_, rfl⟩; rw [hU] at hr hq hx hn hz hb ⊢; have HRU := hid1 hr; have HQU := hid1 hq; have HXU := hid1 hx; have HNU := hid1 hn; have HZU := hid1 hz; have HBU := hid1 hb; clear hf hxw hr hq hx hn hz hb hZb hU))
    have HE1 := hid1 (show Calls Try.prog 19 #[.pointer (some ⟨g6, 0, none⟩)] U (fun e w' => e = .returned (.int .i64 3) ∧ w' = U) from (rerr_calls HRU.out).mono (fun e w' h => ⟨by rw [h.1, HCUT.out c hcm], h.2⟩))
    have HE2 := hid1 (show Calls Try.prog 19 #[.pointer (some ⟨g11, 0, none⟩)] U (fun e w' => e = .returned (.int .i64 0) ∧ w' = U) from rerr_calls HQU.out)
    have HE3 := hid1 (show Calls Try.prog 20 #[.pointer (some ⟨g11, 0, none⟩)] U (fun e w' => e = .returned (.int .i64 m) ∧ w' = U) from rat_calls HQU.out)
    have heq1 : ∀ w, (binOp .eql 44 (.agg (recRow 0 false (fun _ => 0))) (.agg (recRow 0 false (fun _ => 0)))).run Try.prog w = .ok (.bool true) w := fun w => eql_rec 0 0 false false (fun _ => 0) (fun _ => 0) w
    have heq2 : ∀ w, (binOp .eql 44 (.agg (recRow r sm x)) (.agg (recRow r sm x))).run Try.prog w = .ok (.bool true) w := fun w => (eql_rec r r sm sm x x w).trans (by rw [decide_eq_true ⟨rfl, rfl, same24_refl x⟩])
    go_wp2_with (first 
    | (go_at_call 19; (first | (with_reducible refine HE1.out.mono ?_) | (with_reducible refine HE2.out.mono ?_)); rintro e w13 ⟨rfl, rfl⟩)
    | (go_at_call 20; (with_reducible refine HE3.out.mono ?_); rintro e w13 ⟨rfl, rfl⟩)
    | (refine wpList_load_rowG (by kernel_rfl) 44 (.tmp 12) rfl Yb rfl _ (recRow 0 false (fun _ => 0)) _ _ HNU.out Try.underlying44 rfl (Try.infoRecRow _ _ _) ?_)
    | (refine wpList_load_rowG (by kernel_rfl) 44 (.tmp 14) rfl Zb rfl _ (recRow r sm x) _ _ HZU.out Try.underlying44 rfl (Try.infoRecRow _ _ _) ?_)
    | (refine wpList_load_rowG (by kernel_rfl) 44 (.tmp 9) rfl X rfl _ (recRow r sm x) _ _ HXU.out Try.underlying44 rfl (Try.infoRecRow _ _ _) ?_)
    | (refine wpList_valueG (by kernel_rfl) (some 48) rfl (.agg (recRow 0 false (fun _ => 0))) (by kernel_rfl) ?_))

    go_ret
    exact ⟨rfl, by rw [HBE.out]; exact HBU.out⟩
end Go.Proofs.Ytmholpploaecgaa
