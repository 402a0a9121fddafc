/-
  TriAny: the law's walk.
-/
import Derived.Test.YtmholpploaecgaaCut14
import Derived.Test.YtmholpploaecgaaHeldG
import Derived.Test.YtmholpploaecgaaStr
namespace Go.Proofs.Ytmholpploaecgaa
open Go.RowKit
set_option linter.unusedVariables false
set_option linter.unusedSimpArgs false

theorem rs_eq {q : Rs} {p : Nat} (h : q.err = 0) (h2 : q.at_ = p) : q = ⟨p, 0⟩ := by
  cases q
  simp only at h h2
  rw [h, h2]
set_option maxRecDepth 10000 in
set_option maxHeartbeats 4000000 in
theorem triany_walk {w : World} {a0 : Option Addr} {n0 c0 : Nat} {bs : List UInt8} (hm : Bytes w a0 n0 c0 bs) {s : SmallR} (hs : s.good) (draw : Int) (hd : (Lit.int .u8 draw).wf = true) (at' : Int) (ha : (Lit.int .u8 at').wf = true) (by' : Int) (hy' : (Lit.int .u8 by').wf = true) :
    Calls Try.prog 5 #[.slice a0 n0 c0, .agg (smRow s.p), .int .u8 draw, .int .u8 at', .int .u8 by'] w fun e w' => e = .returned (.bool true) ∧ Below w.heap.size w w' := by
  have hdb := bounds_u8 hd
  have hab := bounds_u8 ha
  obtain ⟨byc, rfl⟩ : ∃ c : UInt8, by' = (c.toNat : Int) := by
    have hb := bounds_u8 hy'
    exact ⟨UInt8.ofNat by'.toNat, by rw [UInt8.toNat_ofNat_of_lt' (by show by'.toNat < 256; omega)]; omega⟩
  obtain ⟨r, hr⟩ : ∃ r, draw % 32 = r := ⟨_, rfl⟩
  have HREC := hid1 (fun w => record_calls hs hdb true w)
  rw [hr] at HREC
  have h0 := heap_new w (.cells (smRow s.p) 31)
  have hb := (Below.refl w.heap.size w).alloc (Nat.le_refl _) (.cells (smRow s.p) 31)
  obtain ⟨B, hB0⟩ : ∃ B, w.heap.size = B := ⟨_, rfl⟩
  have HLT := hid1 (fun hx q hq => Nat.lt_of_lt_of_le (hm.lt hx q hq) (Nat.le_of_eq hB0))
  have HM0 := hid1 (hm.fr (fr_alloc w (.cells (smRow s.p) 31)) (fun _ _ => by simp))
  have hB := hB0
  rw [hB] at h0 hb
  have H0 := hid1 h0
  have HB0 := hid1 hb
  have HBE := hid1 hB
  clear h0 hb hd ha hm hr hy'
  go_enter Try.func5, Try.ntmps5
  by_cases hl : (n0 : Int) > 100
  · go_wp2_with (first 
    | (go_at_call 7; refine (awake14 _).mono ?_; rintro e w1 ⟨rfl, hb1⟩; have HS1 := hid1 ((Fr.ofBelow hb1).heap H0.out (by simp)); have HM1 := hid1 (HM0.out.fr (Fr.ofBelow hb1) (fun _ _ => by simp)); have HB1 := hid1 (HB0.out.trans (hb1.mono (by rw [← HBE.out]; exact HB0.out.size))); clear hb1)
    | (refine wpList_load_row rfl 31 (.tmp 6) rfl B rfl _ (smRow s.p) _ _ HS1.out Try.underlying31 rfl (Try.infoSm _) ?_)
    | (go_at_call 8; refine (HREC.out w1).mono ?_; rintro e w2 ⟨sm, x, rfl, hchk, hsm, hz, _, hb2⟩; have HCHK := hid1 hchk; have hbl : B ≤ w1.heap.size := Nat.le_of_lt (heap_lt HS1.out); have HM2 := hid1 (HM1.out.fr (Fr.ofBelow hb2) (fun _ _ => by simp)); have HBL2 := hid1 (Nat.le_trans hbl hb2.size); have HB2 := hid1 (HB1.out.trans (hb2.mono hbl)); clear hchk hsm hz hb2 hbl)
    | (go_at_call 14; refine (lawbytes_calls r sm x HCHK.out w2).mono ?_; rintro e w3 ⟨v, rfl, hv, hb3⟩; have HM3 := hid1 (HM2.out.fr (Fr.ofBelow hb3) (fun _ _ => by simp)); have HB3 := hid1 (HB2.out.trans (hb3.mono HBL2.out)); have HBL3 := hid1 (Nat.le_trans HBL2.out hb3.size); have HV3 := hid1 hv; clear hv hb3))
    go_ret
    exact ⟨rfl, by rw [HBE.out]; exact HB1.out⟩
  · go_upto_region 6 with (first 
    | (go_at_call 7; refine (awake14 _).mono ?_; rintro e w1 ⟨rfl, hb1⟩; have HS1 := hid1 ((Fr.ofBelow hb1).heap H0.out (by simp)); have HM1 := hid1 (HM0.out.fr (Fr.ofBelow hb1) (fun _ _ => by simp)); have HB1 := hid1 (HB0.out.trans (hb1.mono (by rw [← HBE.out]; exact HB0.out.size))); clear hb1)
    | (refine wpList_load_row rfl 31 (.tmp 6) rfl B rfl _ (smRow s.p) _ _ HS1.out Try.underlying31 rfl (Try.infoSm _) ?_)
    | (go_at_call 8; refine (HREC.out w1).mono ?_; rintro e w2 ⟨sm, x, rfl, hchk, hsm, hz, _, hb2⟩; have HCHK := hid1 hchk; have hbl : B ≤ w1.heap.size := Nat.le_of_lt (heap_lt HS1.out); have HM2 := hid1 (HM1.out.fr (Fr.ofBelow hb2) (fun _ _ => by simp)); have HBL2 := hid1 (Nat.le_trans hbl hb2.size); have HB2 := hid1 (HB1.out.trans (hb2.mono hbl)); clear hchk hsm hz hb2 hbl)
    | (go_at_call 14; refine (lawbytes_calls r sm x HCHK.out w2).mono ?_; rintro e w3 ⟨v, rfl, hv, hb3⟩; have HM3 := hid1 (HM2.out.fr (Fr.ofBelow hb3) (fun _ _ => by simp)); have HB3 := hid1 (HB2.out.trans (hb3.mono HBL2.out)); have HBL3 := hid1 (Nat.le_trans HBL2.out hb3.size); have HV3 := hid1 hv; clear hv hb3))
    have htl := rec_len HCHK.out
    obtain ⟨T, hT⟩ : ∃ T, recBytes r sm x = T := ⟨_, rfl⟩
    rw [hT] at HV3 htl
    obtain ⟨gy, cy, rfl, hgy, hgl⟩ := HV3.out.some (by intro h; rw [h] at htl; simp at htl)
    obtain ⟨m, hm⟩ : ∃ m, T.length = m := ⟨_, rfl⟩
    rw [hm] at HV3 htl ⊢
    obtain ⟨c, hc, hcm⟩ : ∃ c : Nat, at'.tmod (m : Int) = (c : Int) ∧ c < m := ⟨(at' % (m : Int)).toNat, by rw [Int.tmod_eq_emod_of_nonneg (by omega)]; have := Int.emod_nonneg at' (show (m : Int) ≠ 0 by omega); omega, by have := Int.emod_lt_of_pos at' (show (0 : Int) < m by omega); have := Int.emod_nonneg at' (show (m : Int) ≠ 0 by omega); omega⟩
    obtain ⟨y, hyc⟩ : ∃ y, y = T[c]'(by omega) := ⟨_, rfl⟩
    have g1 : w3.cell? ⟨gy, c, none⟩ = some (.int .u8 (y.toNat : Int)) := by rw [hyc]; exact HV3.out.at c (by omega)
    have g2 := HV3.out.free c
    obtain ⟨d, hd2⟩ : ∃ d, d = y ^^^ byc := ⟨_, rfl⟩
    have e4 : bits .xor .u8 (y.toNat : Int) (byc.toNat : Int) = (d.toNat : Int) := by rw [hd2]; exact xor_u8 y.toBitVec byc.toBitVec
    have n4 : IntKind.i64.wrap at' = at' := IntWalk.i64_in _ (by omega)
    have n5 : IntKind.i64.wrap (c : Int) = (c : Int) := IntWalk.i64_in _ (by omega)
    have hm0 : (m : Int) ≠ 0 := by omega
    have hcm2 : (c : Int) < (m : Int) := by omega
    have HY3 := hid1 (HV3.out.store c d)
    have HGL := hid1 hgl
    have HGY := hid1 (show B ≤ gy from Nat.le_trans HBL2.out hgy)
    have HM := hid1 hm
    have HTL := hid1 htl
    clear hT hm hyc hd2 hgy hgl hl
    go_upto_region 7 with fail
    have hf4 := (Fr.refl [gy] w3).set ⟨gy, c, none⟩ (.inl (by simp)) (.int .u8 (d.toNat : Int))
    have hm4 := HM3.out.fr2 hf4 (fun hne q hq hq2 => by have := List.mem_singleton.1 hq2; have := HLT.out hne q hq; have := HGY.out; omega)
    have hb4 := Fr.below HB3.out hf4 (fun k hk => by have := List.mem_singleton.1 hk; have := HGY.out; omega) (by rw [← HBE.out]; exact HB3.out.size)
    have hy4 := HY3.out
    have hgl4 := Nat.lt_of_lt_of_le HGL.out hf4.size
    obtain ⟨W4, hW4⟩ : ∃ W4, w3.setCell ⟨gy, c, none⟩ (.int .u8 (d.toNat : Int)) = W4 := ⟨_, rfl⟩
    rw [hW4] at hm4 hb4 hy4 hgl4 ⊢
    have HM4 := hid1 hm4
    have HB4 := hid1 hb4
    have HY4 := hid1 hy4
    have HGL4 := hid1 hgl4
    have HNB := hid1 (show n0 ≤ 100 by omega)
    clear g1 g2 e4 n4 n5 hc hcm hcm2 hm0 hf4 hm4 hb4 hy4 hgl4 hW4 HM3 HB3 HY3 HGL HV3 HM1 HM2
    go_wp2
    have hgx := heap_new W4 (.cells #[.slice a0 n0 c0, .slice (some ⟨gy, 0, none⟩) m cy] 49)
    have hmV := HM4.out.fr (fr_alloc W4 (.cells #[.slice a0 n0 c0, .slice (some ⟨gy, 0, none⟩) m cy] 49)) (fun _ _ => by simp)
    have hyV := (HY4.out).keep ((Below.refl W4.heap.size W4).alloc (Nat.le_refl _) (.cells #[.slice a0 n0 c0, .slice (some ⟨gy, 0, none⟩) m cy] 49))
    have hbV := HB4.out.alloc (by rw [← HBE.out]; exact HB4.out.size) (.cells #[.slice a0 n0 c0, .slice (some ⟨gy, 0, none⟩) m cy] 49)
    have hglV : gy < (W4.alloc (.cells #[.slice a0 n0 c0, .slice (some ⟨gy, 0, none⟩) m cy] 49)).heap.size := by have := HGL4.out; simp; omega
    obtain ⟨G, hG⟩ : ∃ G, W4.heap.size = G := ⟨_, rfl⟩
    rw [hG] at hgx ⊢
    obtain ⟨V, hV⟩ : ∃ V, W4.alloc (.cells #[.slice a0 n0 c0, .slice (some ⟨gy, 0, none⟩) m cy] 49) = V := ⟨_, rfl⟩
    rw [hV] at hgx hmV hyV hbV hglV ⊢
    have HGX := hid1 hgx
    have HMV := hid1 hmV
    have HYV := hid1 hyV
    have HBV := hid1 hbV
    have HGLV := hid1 hglV
    clear hgx hmV hyV hbV hglV hG hV HM4 HY4 HB4 HGL4
    go_loopw [41] (fun i wr => ∃ k : Nat, k ≤ 2 ∧ i = .int .i64 (k : Int) ∧ Hid (Below V.heap.size V wr)) (fun i _ => 2 - (intOf i).toNat)
    case atStart => exact ⟨0, by omega, rfl, hid1 (Below.refl _ _)⟩
    case round =>
      obtain ⟨k, hk, rfl, HW⟩ := hrel
      obtain ⟨wo, rfl⟩ : ∃ wo : World, wo = wr := ⟨_, rfl⟩
      have HWO : Hid (Below V.heap.size V wo) := HW
      clear HW
      by_cases hlt : k < 2
      · obtain ⟨az, nz, cz, zs, hcell, hz, hzl, hzb⟩ : ∃ az nz cz zs, wo.cell? ⟨G, k, none⟩ = some (.slice az nz cz) ∧ Bytes wo az nz cz zs ∧ nz ≤ 1000000 ∧ (zs.map u8 ≠ [] → ∀ p, az = some p → p.block < wo.heap.size) := by
          have hgo := (Fr.ofBelow HWO.out).heap HGX.out (by simp)
          rcases (show k = 0 ∨ k = 1 by omega) with rfl | rfl
          · have hz := Sl.fr HMV.out (Fr.ofBelow HWO.out) (fun _ _ => by simp)
            exact ⟨a0, n0, c0, bs, cell_at hgo 0, hz, by have := HNB.out; omega, fun hx p hp => Sl.lt hz hx p hp⟩
          · have hy := HYV.out.keep HWO.out
            exact ⟨some ⟨gy, 0, none⟩, m, cy, T.set c d, cell_at hgo 1, OwnB.read hy, by have := HTL.out; omega, fun hx p hp => by cases hp; exact Nat.lt_of_lt_of_le HGLV.out HWO.out.size⟩
        have HZ := hid1 hz
        have HZL := hid1 hzl
        have HZB := hid1 hzb
        clear hz hzl hzb
        by_cases hE : (tkEnd zs ⟨0, 0⟩).err = 0
        · have hok := tk_ok (s := ⟨0, 0⟩) (Nat.zero_le _) hE
          obtain ⟨ra, hra⟩ : ∃ ra, gotA zs ⟨0, 0⟩ = ra := ⟨_, rfl⟩
          obtain ⟨rs, hrs⟩ : ∃ rs, gotS zs ⟨0, 0⟩ = rs := ⟨_, rfl⟩
          obtain ⟨rx, hrx⟩ : ∃ rx, gotX zs ⟨0, 0⟩ = rx := ⟨_, rfl⟩
          obtain ⟨p, hp⟩ : ∃ p, (tkEnd zs ⟨0, 0⟩).at_ = p := ⟨_, rfl⟩
          rw [hra, hrs, hrx, hp] at hok
          have HST := hid1 (show tkEnd zs ⟨0, 0⟩ = ⟨p, 0⟩ from rs_eq hE hp)
          have HGOT := hid1 (show recRow (gotA zs ⟨0, 0⟩) (gotS zs ⟨0, 0⟩) (gotX zs ⟨0, 0⟩) = recRow ra rs rx by rw [hra, hrs, hrx])
          have HCHR := hid1 hok.2.2.2.2
          obtain ⟨Zp, hZp⟩ : ∃ Zp, zs.take p = Zp := ⟨_, rfl⟩
          have HPART := hid1 (show recBytes ra rs rx = Zp from hZp ▸ hok.2.2.2.1)
          have HZPL := hid1 (show Zp.length = p by rw [← hZp, List.length_take]; have := hok.2.2.1; omega)
          have HZPE := hid1 hZp
          have HPL := hid1 hok.2.2.1
          have HPN := hid1 (show p ≤ nz by have := HZ.out.len; have := hok.2.2.1; simp at *; omega)
          have HPC := hid1 (show p ≤ cz by have := HZ.out.le; have := HPN.out; omega)
          clear hE hok hra hrs hrx hp hZp
          go_upto_region 15 with (first 
          | (go_at_call 15; refine (read_calls HZ.out HZL.out).mono ?_; rintro e w6 ⟨g6, S6, rfl, hr6, hS6, hb6⟩; have HR6 := hid1 hr6; have HG6 := hid1 (show wo.heap.size ≤ g6 by obtain ⟨_, _, _, _, _, _, h4, _⟩ := hr6; exact (hS6 _ h4).1); have HS6 := hid1 (fun k hk => (hS6 k hk).2); have HZ6 := hid1 (HZ.out.keep hb6); have HB6 := hid1 (HWO.out.trans (hb6.mono HWO.out.size)); have HW6 := hid1 hb6.size; clear hr6 hS6 hb6)
          | (go_at_call 17; refine (rectake_calls HR6.out HS6.out).mono ?_; rintro e w7 ⟨rfl, hr7, hf7⟩; rw [HGOT.out]; rw [HST.out] at hr7; have HR7 := hid1 (hr7.fr (fr_alloc w7 (.cells (recRow 0 false (fun _ => 0)) 44)) (fun _ _ h => by cases h)); have HN7 := hid1 (heap_new w7 (.cells (recRow 0 false (fun _ => 0)) 44)); have HZ7 := hid1 ((HZ6.out.fr2 hf7 (fun hne q hq hq2 => by have := List.mem_singleton.1 hq2; have := HZB.out hne q hq; have := HG6.out; omega)).fr (fr_alloc w7 (.cells (recRow 0 false (fun _ => 0)) 44)) (fun _ _ => by simp)); have HB7 := hid1 ((Fr.below HB6.out hf7 (fun k hk => by have := List.mem_singleton.1 hk; have := HG6.out; have := HWO.out.size; omega) HB6.out.size).alloc (Nat.le_trans HB6.out.size hf7.size) (.cells (recRow 0 false (fun _ => 0)) 44)); have HW67 := hid1 hf7.size; clear hr7)
          | (refine wpList_store_row (w := w7.alloc (.cells (recRow 0 false (fun _ => 0)) 44)) rfl 44 (.tmp 15) (.tmp 48) rfl w7.heap.size (recRow ra rs rx) rfl rfl _ _ HN7.out (Try.infoRecRow _ _ _) rfl (recRow_one _ _ _) ?_; have hf := fr_row (w7.alloc (.cells (recRow 0 false (fun _ => 0)) 44)) w7.heap.size (recRow ra rs rx); have hwl := HW67.out; have hw6 := HW6.out; have hr8 := HR7.out.fr hf (fun k hk hm => by have := List.mem_singleton.1 hm; have := HS6.out k hk; omega); have hn8 := setRow_heap _ _ _ (recRow ra rs rx) _ _ HN7.out; have hz8 := HZ7.out.fr2 hf (fun hne q hq hq2 => by have := List.mem_singleton.1 hq2; have := HZB.out hne q hq; omega); have hb8 := Fr.below HB7.out hf (fun k hk => by have := List.mem_singleton.1 hk; have := HB6.out.size; omega) HB7.out.size; have hs8 : ∀ k ∈ S6, k < ((w7.alloc (.cells (recRow 0 false (fun _ => 0)) 44)).setRow w7.heap.size (recRow ra rs rx)).heap.size ∧ k ≠ w7.heap.size := (fun k hk => by have := HS6.out k hk; have h2 := hf.size; have h3 : (w7.alloc (.cells (recRow 0 false (fun _ => 0)) 44)).heap.size = w7.heap.size + 1 := (by simp); omega); have hzb : zs.map u8 ≠ [] → ∀ p, az = some p → p.block < w7.heap.size := (fun hne q hq => by have := HZB.out hne q hq; omega); obtain ⟨X, hX⟩ : ∃ X, w7.heap.size = X := ⟨_, rfl⟩; rw [hX] at hr8 hn8 hz8 hb8 hs8 hzb ⊢; obtain ⟨V8, hV8⟩ : ∃ V8, (w7.alloc (.cells (recRow 0 false (fun _ => 0)) 44)).setRow X (recRow ra rs rx) = V8 := ⟨_, rfl⟩; rw [hV8] at hr8 hn8 hz8 hb8 hs8 ⊢; have HR8 := hid1 hr8; have HN8 := hid1 hn8; have HZ8 := hid1 hz8; have HB8 := hid1 hb8; have HS8 := hid1 hs8; have HZB8 := hid1 hzb; clear hf hwl hw6 hr8 hn8 hz8 hb8 hs8 hzb hX hV8)
          | (go_at_call 19; refine (rerr_calls HR8.out).mono ?_; rintro e V8 ⟨rfl, rfl⟩))
          have HWN := hid1 (Wr.new V8 51)
          have h9 := fr_alloc V8 (.cells #[.slice none 0 0] 51)
          have hr9 := HR8.out.fr h9 (fun _ _ h => by cases h)
          have hn9 := heap_keep HN8.out (.cells #[.slice none 0 0] 51)
          have hz9 := Sl.fr HZ8.out h9 (fun _ _ => by simp)
          have hb9 := HB8.out.alloc HB8.out.size (.cells #[.slice none 0 0] 51)
          go_upto_region 16 with fail
          obtain ⟨V9, hV9⟩ : ∃ V9, V8.alloc (.cells #[.slice none 0 0] 51) = V9 := ⟨_, rfl⟩
          rw [hV9] at hr9 hn9 hz9 hb9 HWN h9 ⊢
          have HW9 := HWN
          have HR9 := hid1 hr9
          have HB9 := hid1 hb9
          have HCK := hid1 (recchk_row ra rs rx V9.drew)
          rw [HCHR.out] at HCK
          have HS0 := hid1 (show V9.drew.heap[X]? = some (.cells (recRow ra rs rx) 44 (0, 0)) ∧ Bytes V9.drew az nz cz zs from ⟨hn9, hz9.drew⟩)
          clear hr9 hn9 hz9 hb9 h9 hV9 HWN
          refine wp_region_held (S := fun w' => w'.heap[X]? = some (.cells (recRow ra rs rx) 44 (0, 0)) ∧ Bytes w' az nz cz zs) (by kernel_rfl) ?_
          change wpAnyH _ _ _ _ _ 20 (Array.replicate 20 false) _ V9.drew
          refine held_loadG (i := 0) rfl (by kernel_rfl) (some 57) rfl 44 (.tmp 15) rfl (by kernel_rfl) (by kernel_rfl) (by kernel_rfl) (fun _ _ _ _ h => h) (X) rfl 44 (recRow ra rs rx) (0, 0) _ (fun _ h => h.1) Try.underlying44 rfl (Try.infoRecRow _ _ _) HS0.out ?_
          simp only [Act.put, List.setIfInBounds_toArray, List.set_cons_succ, List.set_cons_zero]
          refine held_callG (i := 1) rfl (by kernel_rfl) (some 58) rfl (by kernel_rfl) 11 #[.agg (recRow ra rs rx)] (by go_simp) (fun v w' => v = .int .i64 0 ∧ Below V9.drew.heap.size V9.drew w') (HCK.out.mono (fun e w' h => ⟨_, h.1, rfl, h.2⟩)) (fun v w10 hv => ?_)
          obtain ⟨rfl, hb10⟩ := hv
          have HW10 := hid1 ((HW9.out.fr (fr_drew V9) (fun _ _ h => by cases h)).fr (Fr.ofBelow hb10) (fun _ _ h => by cases h))
          have HR10 := hid1 ((HR9.out.fr (fr_drew V9) (fun _ _ h => by cases h)).fr (Fr.ofBelow hb10) (fun _ _ h => by cases h))
          have HS10 := hid1 (show w10.heap[X]? = some (.cells (recRow ra rs rx) 44 (0, 0)) ∧ Bytes w10 az nz cz zs from ⟨(Fr.ofBelow hb10).heap HS0.out.1 (by simp), HS0.out.2.fr (Fr.ofBelow hb10) (fun _ _ => by simp)⟩)
          have HL10 := hid1 (show V9.heap.size ≤ w10.heap.size from hb10.size)
          have HB10 := hid1 (show Below V.heap.size V w10 from (HB9.out.drew).trans (hb10.mono HB9.out.size))
          clear hb10
          refine ⟨HS10.out, ?_⟩
          simp only [Act.put, List.setIfInBounds_toArray, List.set_cons_succ, List.set_cons_zero]
          refine held_takeG (i := 2) rfl (by kernel_rfl) (some 59) rfl (.bool false) (by kernel_rfl) (by kernel_rfl) (by kernel_rfl) (fun _ _ _ _ h => h) HS10.out (fun w' hw => by go_simp) ?_
          simp only [Act.put, List.setIfInBounds_toArray, List.set_cons_succ, List.set_cons_zero]
          refine held_takeG (i := 3) rfl (by kernel_rfl) (some 60) rfl (.bool false) (by kernel_rfl) (by kernel_rfl) (by kernel_rfl) (fun _ _ _ _ h => h) HS10.out (fun w' hw => by go_simp) ?_
          simp only [Act.put, List.setIfInBounds_toArray, List.set_cons_succ, List.set_cons_zero]
          refine held_loadG (i := 4) rfl (by kernel_rfl) (some 61) rfl 44 (.tmp 15) rfl (by kernel_rfl) (by kernel_rfl) (by kernel_rfl) (fun _ _ _ _ h => h) (X) rfl 44 (recRow ra rs rx) (0, 0) _ (fun _ h => h.1) Try.underlying44 rfl (Try.infoRecRow _ _ _) HS10.out ?_
          simp only [Act.put, List.setIfInBounds_toArray, List.set_cons_succ, List.set_cons_zero]
          refine held_takeG (i := 5) rfl (by kernel_rfl) (some 62) rfl (.pointer (some ⟨V8.heap.size, 0, none⟩)) (by kernel_rfl) (by kernel_rfl) (by kernel_rfl) (fun _ _ _ _ h => h) HS10.out (fun w' hw => by go_simp) ?_
          simp only [Act.put, List.setIfInBounds_toArray, List.set_cons_succ, List.set_cons_zero]
          refine held_callG (i := 6) rfl (by kernel_rfl) (some 63) rfl (by kernel_rfl) 10 #[.agg (recRow ra rs rx), .pointer (some ⟨V8.heap.size, 0, none⟩)] (by go_simp) (fun v w' => v = .int .i64 0 ∧ ∃ S', Wr w' V8.heap.size S' ([] ++ recBytes ra rs rx) ∧ Grows [V8.heap.size] w10 S' ∧ Fr [V8.heap.size] w10 w') ((recput_calls HW10.out (by decide) ra rs rx HCHR.out).mono (fun e w' h => ⟨_, h.1, rfl, h.2⟩)) (fun v w11 hv => ?_)
          obtain ⟨rfl, S11, hw11, hg11, hf11⟩ := hv
          have HW11 := hid1 hw11
          have HR11 := hid1 (HR10.out.fr hf11 (fun k hk hm => by have := List.mem_singleton.1 hm; have := (HS8.out k hk).1; omega))
          have HS11 := hid1 (show w11.heap[X]? = some (.cells (recRow ra rs rx) 44 (0, 0)) ∧ Bytes w11 az nz cz zs from ⟨hf11.heap HS10.out.1 (fun hm => by have := List.mem_singleton.1 hm; have := heap_lt HN8.out; omega), HS10.out.2.fr2 hf11 (fun hne q hq hm => by have := List.mem_singleton.1 hm; have := HZB8.out hne q hq; have := heap_lt HN8.out; omega)⟩)
          have HB11 := hid1 (show Below V.heap.size V w11 from Fr.below HB10.out hf11 (fun k hk => by have := List.mem_singleton.1 hk; have := HB8.out.size; omega) HB10.out.size)
          clear hw11 hg11 hf11
          refine ⟨HS11.out, ?_⟩
          simp only [Act.put, List.setIfInBounds_toArray, List.set_cons_succ, List.set_cons_zero]
          refine held_takeG (i := 7) rfl (by kernel_rfl) (some 64) rfl (.bool false) (by kernel_rfl) (by kernel_rfl) (by kernel_rfl) (fun _ _ _ _ h => h) HS11.out (fun w' hw => by go_simp) ?_
          simp only [Act.put, List.setIfInBounds_toArray, List.set_cons_succ, List.set_cons_zero]
          refine held_takeG (i := 8) rfl (by kernel_rfl) (some 65) rfl (.bool false) (by kernel_rfl) (by kernel_rfl) (by kernel_rfl) (fun _ _ _ _ h => h) HS11.out (fun w' hw => by go_simp) ?_
          simp only [Act.put, List.setIfInBounds_toArray, List.set_cons_succ, List.set_cons_zero]
          refine held_takeG (i := 9) rfl (by kernel_rfl) (some 66) rfl (.bool false) (by kernel_rfl) (by kernel_rfl) (by kernel_rfl) (fun _ _ _ _ h => h) HS11.out (fun w' hw => by go_simp) ?_
          simp only [Act.put, List.setIfInBounds_toArray, List.set_cons_succ, List.set_cons_zero]
          refine held_takeG (i := 10) rfl (by kernel_rfl) (some 67) rfl (.pointer (some ⟨V8.heap.size, 0, none⟩)) (by kernel_rfl) (by kernel_rfl) (by kernel_rfl) (fun _ _ _ _ h => h) HS11.out (fun w' hw => by go_simp) ?_
          simp only [Act.put, List.setIfInBounds_toArray, List.set_cons_succ, List.set_cons_zero]
          refine held_takeG (i := 13) rfl (by kernel_rfl) (some 70) rfl (.slice az nz cz) (by kernel_rfl) (by kernel_rfl) (by kernel_rfl) (fun _ _ _ _ h => h) HS11.out (fun w' hw => by go_simp) ?_
          simp only [Act.put, List.setIfInBounds_toArray, List.set_cons_succ, List.set_cons_zero]
          refine held_takeG (i := 14) rfl (by kernel_rfl) (some 71) rfl (.pointer (some ⟨g6, 0, none⟩)) (by kernel_rfl) (by kernel_rfl) (by kernel_rfl) (fun _ _ _ _ h => h) HS11.out (fun w' hw => by go_simp) ?_
          simp only [Act.put, List.setIfInBounds_toArray, List.set_cons_succ, List.set_cons_zero]
          refine held_callG (i := 11) rfl (by kernel_rfl) (some 68) rfl (by kernel_rfl) 16 #[.pointer (some ⟨V8.heap.size, 0, none⟩)] (by go_simp) (fun v w' => OwnB w' w11.heap.size v ([] ++ recBytes ra rs rx) ∧ Below w11.heap.size w11 w') ((wbytes_calls HW11.out (by rw [List.nil_append, HPART.out, HZPL.out]; have := HZL.out; have := HPN.out; omega)).mono (fun e w' h => by obtain ⟨v, h1, h2, h3⟩ := h; exact ⟨v, h1, h2, h3⟩)) (fun v w12 hv => ?_)
          obtain ⟨hv12, hb12⟩ := hv
          have HS12 := hid1 (show w12.heap[X]? = some (.cells (recRow ra rs rx) 44 (0, 0)) ∧ Bytes w12 az nz cz zs from ⟨(Fr.ofBelow hb12).heap HS11.out.1 (by simp), HS11.out.2.fr (Fr.ofBelow hb12) (fun _ _ => by simp)⟩)
          have HR12 := hid1 (HR11.out.fr (Fr.ofBelow hb12) (fun _ _ h => by cases h))
          have HB12 := hid1 (show Below V.heap.size V w12 from HB11.out.trans (hb12.mono HB11.out.size))
          rw [List.nil_append, HPART.out] at hv12
          obtain ⟨av, cv, rfl, hbv⟩ := hv12.bytes
          rw [HZPL.out] at hbv ⊢
          have HBZ := hid1 hbv
          clear hv12 hb12 hbv
          refine ⟨HS12.out, ?_⟩
          refine wpAnyH_more (S' := fun w' => (w'.heap[X]? = some (.cells (recRow ra rs rx) 44 (0, 0)) ∧ Bytes w' az nz cz zs) ∧ Bytes w' av p cv Zp) (fun _ h => h.1) _ _ _ _ ?_
          have HS13 := hid1 (show (w12.heap[X]? = some (.cells (recRow ra rs rx) 44 (0, 0)) ∧ Bytes w12 az nz cz zs) ∧ Bytes w12 av p cv Zp from ⟨HS12.out, HBZ.out⟩)
          simp only [Act.put, List.setIfInBounds_toArray, List.set_cons_succ, List.set_cons_zero]
          refine held_takeG (i := 12) rfl (by kernel_rfl) (some 69) rfl (.string (str Zp)) (by kernel_rfl) (by kernel_rfl) (by kernel_rfl) (fun _ _ _ _ h => h) HS13.out (fun w' hw => by have e := run_str (P := Try.prog) hw.2 49 9 5 Try.underlying49 Try.underlying5 Try.underlying9; go_simp) ?_
          simp only [Act.put, List.setIfInBounds_toArray, List.set_cons_succ, List.set_cons_zero]
          refine held_callG (i := 15) rfl (by kernel_rfl) (some 72) rfl (by kernel_rfl) 20 #[.pointer (some ⟨g6, 0, none⟩)] (by go_simp) (fun v w' => v = .int .i64 p ∧ w' = w12) ((rat_calls HR12.out).mono (fun e w' h => ⟨_, h.1, rfl, h.2⟩)) (fun v w13 hv => ?_)
          obtain ⟨rfl, rfl⟩ := hv
          have HB13 := HB12
          refine ⟨HS13.out, ?_⟩
          simp only [Act.put, List.setIfInBounds_toArray, List.set_cons_succ, List.set_cons_zero]
          refine held_takeG (i := 16) rfl (by kernel_rfl) (some 73) rfl (.slice az p cz) (by kernel_rfl) (by kernel_rfl) (by kernel_rfl) (fun _ _ _ _ h => h) HS13.out (fun w' hw => by have h1 := HPC.out; go_simp) ?_
          simp only [Act.put, List.setIfInBounds_toArray, List.set_cons_succ, List.set_cons_zero]
          refine held_takeG (i := 17) rfl (by kernel_rfl) (some 74) rfl (.string (str Zp)) (by kernel_rfl) (by kernel_rfl) (by kernel_rfl) (fun _ _ _ _ h => h) HS13.out (fun w' hw => by have e := run_str (P := Try.prog) (show Bytes w' az p cz Zp by rw [← HZPE.out]; exact hw.1.2.front p HPN.out) 49 9 5 Try.underlying49 Try.underlying5 Try.underlying9; go_simp) ?_
          simp only [Act.put, List.setIfInBounds_toArray, List.set_cons_succ, List.set_cons_zero]
          refine held_takeG (i := 18) rfl (by kernel_rfl) (some 75) rfl (.bool false) (by kernel_rfl) (by kernel_rfl) (by kernel_rfl) (fun _ _ _ _ h => h) HS13.out (fun w' hw => by go_simp) ?_
          simp only [Act.put, List.setIfInBounds_toArray, List.set_cons_succ, List.set_cons_zero]
          refine held_takeG (i := 19) rfl (by kernel_rfl) (some 76) rfl (.bool false) (by kernel_rfl) (by kernel_rfl) (by kernel_rfl) (fun _ _ _ _ h => h) HS13.out (fun w' hw => by go_simp) ?_
          simp only [Act.put, List.setIfInBounds_toArray, List.set_cons_succ, List.set_cons_zero]
          refine wpAnyH_done (by kernel_rfl) ?_ _
          go_wp2
          go_roundw
          case rel => exact ⟨k + 1, by omega, by go_num, HB13⟩
          case measure => simp [intOf]; omega
        · have HGOT := hid1 (show recRow (gotA zs ⟨0, 0⟩) (gotS zs ⟨0, 0⟩) (gotX zs ⟨0, 0⟩) = recRow 0 false (fun _ => 0) by unfold gotA gotS gotX; rw [if_neg hE, if_neg hE, if_neg hE])
          obtain ⟨ee, hee⟩ : ∃ ee, (tkEnd zs ⟨0, 0⟩).err = ee := ⟨_, rfl⟩
          have hne : (ee != 0) = true := by rw [bne_iff_ne, ← hee]; exact hE
          have HEE := hid1 hee
          have heq : ∀ w, (binOp .neq 44 (.agg (recRow 0 false (fun _ => 0))) (.agg (recRow 0 false (fun _ => 0)))).run Try.prog w = .ok (.bool false) w := fun w => neq_rec 0 0 false false (fun _ => 0) (fun _ => 0) w
          clear hE hee
          go_upto_region 13 with (first 
          | (go_at_call 15; refine (read_calls HZ.out HZL.out).mono ?_; rintro e w6 ⟨g6, S6, rfl, hr6, hS6, hb6⟩; have HR6 := hid1 hr6; have HG6 := hid1 (show wo.heap.size ≤ g6 by obtain ⟨_, _, _, _, _, _, h4, _⟩ := hr6; exact (hS6 _ h4).1); have HS6 := hid1 (fun k hk => (hS6 k hk).2); have HZ6 := hid1 (HZ.out.keep hb6); have HB6 := hid1 (HWO.out.trans (hb6.mono HWO.out.size)); have HW6 := hid1 hb6.size; clear hr6 hS6 hb6)
          | (go_at_call 17; refine (rectake_calls HR6.out HS6.out).mono ?_; rintro e w7 ⟨rfl, hr7, hf7⟩; rw [HGOT.out]; have HR7 := hid1 (hr7.fr (fr_alloc w7 (.cells (recRow 0 false (fun _ => 0)) 44)) (fun _ _ h => by cases h)); have HN7 := hid1 (heap_new w7 (.cells (recRow 0 false (fun _ => 0)) 44)); have HZ7 := hid1 ((HZ6.out.fr2 hf7 (fun hne q hq hq2 => by have := List.mem_singleton.1 hq2; have := HZB.out hne q hq; have := HG6.out; omega)).fr (fr_alloc w7 (.cells (recRow 0 false (fun _ => 0)) 44)) (fun _ _ => by simp)); have HB7 := hid1 ((Fr.below HB6.out hf7 (fun k hk => by have := List.mem_singleton.1 hk; have := HG6.out; have := HWO.out.size; omega) HB6.out.size).alloc (Nat.le_trans HB6.out.size hf7.size) (.cells (recRow 0 false (fun _ => 0)) 44)); have HW67 := hid1 hf7.size; clear hr7)
          | (refine wpList_store_row (w := w7.alloc (.cells (recRow 0 false (fun _ => 0)) 44)) rfl 44 (.tmp 15) (.tmp 48) rfl w7.heap.size (recRow 0 false (fun _ => 0)) rfl rfl _ _ HN7.out (Try.infoRecRow _ _ _) rfl (recRow_one _ _ _) ?_; have hf := fr_row (w7.alloc (.cells (recRow 0 false (fun _ => 0)) 44)) w7.heap.size (recRow 0 false (fun _ => 0)); have hwl := HW67.out; have hw6 := HW6.out; have hr8 := HR7.out.fr hf (fun k hk hm => by have := List.mem_singleton.1 hm; have := HS6.out k hk; omega); have hn8 := setRow_heap _ _ _ (recRow 0 false (fun _ => 0)) _ _ HN7.out; have hz8 := HZ7.out.fr2 hf (fun hne q hq hq2 => by have := List.mem_singleton.1 hq2; have := HZB.out hne q hq; omega); have hb8 := Fr.below HB7.out hf (fun k hk => by have := List.mem_singleton.1 hk; have := HB6.out.size; omega) HB7.out.size; have hs8 : ∀ k ∈ S6, k < ((w7.alloc (.cells (recRow 0 false (fun _ => 0)) 44)).setRow w7.heap.size (recRow 0 false (fun _ => 0))).heap.size ∧ k ≠ w7.heap.size := (fun k hk => by have := HS6.out k hk; have h2 := hf.size; have h3 : (w7.alloc (.cells (recRow 0 false (fun _ => 0)) 44)).heap.size = w7.heap.size + 1 := (by simp); omega); have hzb : zs.map u8 ≠ [] → ∀ p, az = some p → p.block < w7.heap.size := (fun hne q hq => by have := HZB.out hne q hq; omega); obtain ⟨X, hX⟩ : ∃ X, w7.heap.size = X := ⟨_, rfl⟩; rw [hX] at hr8 hn8 hz8 hb8 hs8 hzb ⊢; obtain ⟨V8, hV8⟩ : ∃ V8, (w7.alloc (.cells (recRow 0 false (fun _ => 0)) 44)).setRow X (recRow 0 false (fun _ => 0)) = V8 := ⟨_, rfl⟩; rw [hV8] at hr8 hn8 hz8 hb8 hs8 ⊢; have HR8 := hid1 hr8; have HN8 := hid1 hn8; have HZ8 := hid1 hz8; have HB8 := hid1 hb8; have HS8 := hid1 hs8; have HZB8 := hid1 hzb; clear hf hwl hw6 hr8 hn8 hz8 hb8 hs8 hzb hX hV8)
          | (go_at_call 19; refine (rerr_calls HR8.out).mono ?_; rintro e V8 ⟨rfl, rfl⟩; rw [HEE.out]))
          go_wp2_with (first
          | (refine wpList_load_row rfl 44 (.tmp 15) rfl X rfl _ (recRow 0 false (fun _ => 0)) _ _ HN8.out Try.underlying44 rfl (Try.infoRecRow _ _ _) ?_)
          | (refine wpList_buildTo rfl 44 _ rfl (some 53) rfl (recRow 0 false (fun _ => 0)) (by kernel_rfl) ?_))
          go_roundw
          case rel => exact ⟨k + 1, by omega, by go_num, HB8⟩
          case measure => simp [intOf]; omega
      · obtain rfl : k = 2 := by omega
        go_wp2
        go_ret
        exact ⟨rfl, by rw [HBE.out]; exact HBV.out.trans (HWO.out.mono (by rw [← HBE.out]; exact HBV.out.size))⟩
end Go.Proofs.Ytmholpploaecgaa
