/-
  ListWrong: the law's walk.
-/
import Derived.Test.YtakobldhjndeiaaLsWrongP
import Derived.Test.YtakobldhjndeiaaOpenBend
import Derived.Outline
namespace Go.Proofs.Ytakobldhjndeiaa
open Go.RowKit
set_option linter.unusedVariables false
set_option linter.unusedSimpArgs false

theorem ints_none (w : World) : Ints w none 0 0 [] := Sl.nil_any _ _
/-- The plan that the law has made. -/
structure Pl (w0 w : World) (PB mb X F : Nat) (xf xm : Int) (af : Option Addr) (nf cf : Nat) (zs : List Int) : Prop where
  top : w.heap[PB]? = some (.cells #[.slice none 0 0, .slice af nf cf, .map (some mb)] 34 (0, 0))
  ints : Ints w af nf cf zs
  map : DictAt w mb ([] ++ [((F : Int), Value.agg #[.int .i64 xf, .int .u32 xm])])
  box : w.heap[X]? = some (.cells #[.int .i64 xf, .int .u32 xm] 49 (0, 0))
  below : Below w0.heap.size w0 w
section
variable {w0 w w' : World} {PB mb X F : Nat} {xf xm : Int} {af : Option Addr} {nf cf : Nat} {zs : List Int}
theorem Pl.keep (h : Pl w0 w PB mb X F xf xm af nf cf zs) (hb : Below w.heap.size w w') : Pl w0 w' PB mb X F xf xm af nf cf zs :=
  ⟨(Fr.ofBelow hb).heap h.top (by simp), Ints.keep h.ints hb, h.map.keep hb, (Fr.ofBelow hb).heap h.box (by simp), h.below.trans (hb.mono h.below.size)⟩
theorem Pl.drew1 (h : Pl w0 w PB mb X F xf xm af nf cf zs) : Pl w0 w.drew PB mb X F xf xm af nf cf zs := h.keep (Below.refl _ _).drew
theorem Pl.cells (h : Pl w0 w PB mb X F xf xm af nf cf zs) : w.cell? ⟨PB, 0, none⟩ = some (.slice none 0 0) ∧ w.cell? ⟨PB, 1, none⟩ = some (.slice af nf cf) ∧ w.cell? ⟨PB, 2, none⟩ = some (.map (some mb)) := by
  rw [cell_at h.top, cell_at h.top, cell_at h.top]; exact ⟨rfl, rfl, rfl⟩
theorem Pl.cells0 (h : Pl w0 w PB mb X F xf xm af nf cf zs) : w.drew.cell? ⟨PB, 0, none⟩ = some (.slice none 0 0) ∧ w.drew.cell? ⟨PB, 1, none⟩ = some (.slice af nf cf) ∧ w.drew.cell? ⟨PB, 2, none⟩ = some (.map (some mb)) := h.drew1.cells
theorem Pl.good (h : Pl w0 w PB mb X F xf xm af nf cf zs) : ∀ p ∈ ([] ++ [((F : Int), Value.agg #[.int .i64 xf, .int .u32 xm])] : List (Int × Value)), ∃ f m, p.2 = bv f m := by
  intro p hp
  simp at hp
  rw [hp]
  exact ⟨_, _, rfl⟩
end
theorem pl_bad {w0 w : World} {PB mb X F : Nat} {xf xm : Int} (h1 : w.heap[PB]? = some (.cells #[.slice none 0 0, .slice none 0 0, .map (some mb)] 34 (0, 0))) (h2 : DictAt w mb ([] ++ [((F : Int), Value.agg #[.int .i64 xf, .int .u32 xm])])) (h3 : w.heap[X]? = some (.cells #[.int .i64 xf, .int .u32 xm] 49 (0, 0))) (h4 : Below w0.heap.size w0 w)
    (hX : X ≠ PB) (hP : w0.heap.size ≤ PB) (hm : mb ≠ PB) : Pl w0 ((w.alloc (.cells #[.int .i64 (F : Int)] 3)).setCell ⟨PB, 1, none⟩ (.slice (some ⟨w.heap.size, 0, none⟩) 1 1)) PB mb X F xf xm (some ⟨w.heap.size, 0, none⟩) 1 1 [(F : Int)] := by
  have hs : Fr [PB] (w.alloc (.cells #[.int .i64 (F : Int)] 3)) ((w.alloc (.cells #[.int .i64 (F : Int)] 3)).setCell ⟨PB, 1, none⟩ (.slice (some ⟨w.heap.size, 0, none⟩) 1 1)) := Fr.set (Fr.refl _ _) _ (.inl (by simp)) _
  have hk := (Below.refl w.heap.size w).alloc (Nat.le_refl _) (.cells #[.int .i64 (F : Int)] 3)
  have hpl := heap_lt h1
  have hn := hs.heap (heap_new w (.cells #[.int .i64 (F : Int)] 3)) (by simp; omega)
  refine ⟨?_, Sl.of_heap hn (by simp) (by simp) (Nat.le_refl _) (by decide), (h2.keep hk).fr hs (by simpa using hm), hs.heap (heap_keep h3 _) (by simpa using hX), (h4.alloc h4.size _).setCell hP _⟩
  rw [heap_set (a := ⟨PB, 1, none⟩) (heap_keep h1 _) rfl]; rfl
structure PlanOk (d : Dev) (F : Nat) (bd : Prop) : Prop where
  none : d.L = []
  room : d.room = 60
  fu : d.fu = []
  nums : d.puts = 0 ∧ d.next = 0 ∧ d.takes = 0
  ok : BendsOk d
  bad : ∀ q, Bad d q → q = F ∧ bd
theorem plan_ok {F : Nat} {xf xm : Int} (h1 : (Lit.int .i64 xf).wf = true) (h2 : (Lit.int .u32 xm).wf = true) {zs : List Int} {bd : Prop} {be : List (Int × Value)} {r : Nat} (hr : r = 60) (hbe : ∀ p, p ∈ be ↔ p ∈ ([] ++ [((F : Int), Value.agg #[.int .i64 xf, .int .u32 xm])] : List (Int × Value))) (hz : ∀ z ∈ zs, z = (F : Int) ∧ bd) (hm : xm ≠ 0 → bd) : PlanOk ⟨[], r, 0, 0, 0, 0, [], zs, be⟩ F bd := by
  have w1 := bounds_i64 h1
  have w2 := bounds_u32 h2
  obtain ⟨m, hm2⟩ : ∃ m : Crc.B32, xm = (m.toNat : Int) := ⟨BitVec.ofNat 32 xm.toNat, by rw [BitVec.toNat_ofNat]; omega⟩
  refine ⟨rfl, hr, rfl, ⟨rfl, rfl, rfl⟩, ?_, ?_⟩
  · intro p hp
    have h3 := (hbe p).1 hp
    simp at h3
    rw [h3]
    exact ⟨xf, m, by omega, by rw [hm2]⟩
  · rintro q (h3 | ⟨f, m', hm0, h3⟩)
    · have h4 : (q : Int) ∈ zs := h3
      obtain ⟨h5, h6⟩ := hz _ h4
      exact ⟨by omega, h6⟩
    · have h4 := (hbe _).1 h3
      simp at h4
      obtain ⟨h5, h6, h7⟩ := h4
      refine ⟨by omega, hm (fun e => hm0 ?_)⟩
      apply BitVec.eq_of_toNat_eq
      have : (m'.toNat : Int) = 0 := by rw [h7, e]
      simp; omega
theorem Fr.toBelow' {w0 w2 : World} {o : Obj} (h : Fr [w0.heap.size] (w0.alloc o) w2) (hb : Below w0.heap.size w0 (w0.alloc o)) : Below w0.heap.size w0 w2 := h.below hb (fun k hk => by simp at hk; omega) (by simp)
set_option maxRecDepth 10000 in
set_option maxHeartbeats 4000000 in
theorem wrong_walk {w : World} {a : Option Addr} {n c : Nat} {l : List UInt8} (h0 : Bytes w a n c l) (sp : Int) (ws : (Lit.int .u8 sp).wf = true) (fa : Int) (wf : (Lit.int .u8 fa).wf = true) {x : BendR} (hx : x.good) (bad : Bool) :
    Calls Try.prog 5 #[.slice a n c, .int .u8 sp, .int .u8 fa, x.val, .bool bad] w fun e w' => e = .returned (.bool true) ∧ Below w.heap.size w w' := by
  have H0 := hid h0
  clear h0
  obtain rfl : l.length = n := Bytes.len H0.out
  have bsp := bounds_u8 ws
  have bfa := bounds_u8 wf
  obtain ⟨xf, xm⟩ := x
  obtain ⟨hx1, hx2⟩ := hx
  simp only [] at hx1 hx2
  have HX1 := hid hx1
  have HX2 := hid hx2
  show Calls Try.prog _ #[.slice a l.length c, .int .u8 sp, .int .u8 fa, .agg #[.int .i64 xf, .int .u32 xm], .bool bad] w _
  by_cases hn : l.length ≤ 12
  · have e1 : decide ((12 : Int) < (l.length : Int)) = false := by simp; omega
    obtain ⟨F, hF⟩ : ∃ F : Nat, fa % 8 = (F : Int) := ⟨(fa % 8).toNat, by omega⟩
    have hF8 : F < 8 := by omega
    have q1 : IntKind.u8.wrap (F : Int) = F := IntWalk.u8_in _ (by omega)
    have q2 : IntKind.i64.wrap (F : Int) = F := IntWalk.i64_in _ (by omega)
    have hmm := @run_makeMap Try.prog
    clear ws wf hx1 hx2
    go_enter Try.func5, Try.ntmps5
    go_upto_region 5 with (first
      | (go_at_call 8; refine (awake17 _).mono ?_; rintro e w0 ⟨rfl, hb0⟩))
    have hbx := (Fr.ofBelow hb0).heap (heap_new w (.cells #[.int .i64 xf, .int .u32 xm] 49)) (by simp)
    have hb1 : Below w.heap.size w w0 := ((Below.refl w.heap.size w).alloc (Nat.le_refl _) _).trans (hb0.mono (by simp))
    have HBX := hid hbx
    have HB1 := hid hb1
    obtain ⟨X, hX⟩ : ∃ X, w.heap.size = X := ⟨_, rfl⟩
    rw [hX] at hbx HBX ⊢
    have HXE := hid hX
    have hd0 := DictAt.made w0
    have hal := (Below.refl w0.heap.size w0).alloc (Nat.le_refl _) (.map #[] 0)
    have hbx0 := (Fr.ofBelow hal).heap HBX.out (by simp)
    have b0 := cell_at hbx0 0
    have b1 := cell_at hbx0 1
    simp only [List.getElem?_toArray, List.getElem?_cons_zero, List.getElem?_cons_succ] at b0 b1
    obtain ⟨w2, hup, hD2, hf2⟩ := hd0.add (P := Try.prog) Try.underlying32 Try.underlying3 (z := (F : Int)) (WalkArith.wf_i64 (by omega)) (fun p hp => by cases hp) (.agg #[.int .i64 xf, .int .u32 xm])
    clear hb0 hb1 hX hd0 hbx hbx0
    have HAL := hid hal
    have HD2 := hid hD2
    have HF2 := hid hf2
    clear hal hD2 hf2
    go_upto_region 6 with (fail)
    have hPB := heap_new w2 (.cells #[.slice none 0 0, .slice none 0 0, .map (some w0.heap.size)] 34)
    have hk3 := (Below.refl w2.heap.size w2).alloc (Nat.le_refl _) (.cells #[.slice none 0 0, .slice none 0 0, .map (some w0.heap.size)] 34)
    have HD3 := hid (HD2.out.keep hk3)
    have hb3 : Below w.heap.size w (w2.alloc (.cells #[.slice none 0 0, .slice none 0 0, .map (some w0.heap.size)] 34)) := by
      have h1 : Below w0.heap.size w0 w2 := HF2.out.toBelow' HAL.out
      have h2 := HB1.out.trans (h1.mono HB1.out.size)
      exact h2.alloc h2.size _
    obtain ⟨PB, hPBe⟩ : ∃ PB, w2.heap.size = PB := ⟨_, rfl⟩
    obtain ⟨mb, hmb⟩ : ∃ mb, w0.heap.size = mb := ⟨_, rfl⟩
    rw [hmb] at hPB HD3 hb3 ⊢
    obtain ⟨W3, hW3⟩ : ∃ W3, w2.alloc (.cells #[.slice none 0 0, .slice none 0 0, .map (some mb)] 34) = W3 := ⟨_, rfl⟩
    rw [hW3] at hPB HD3 hb3 ⊢
    rw [hPBe] at hPB ⊢
    have HX5 := hid (show X < w0.heap.size from heap_lt HBX.out)
    have hbx3 : W3.heap[X]? = some (.cells #[.int .i64 xf, .int .u32 xm] 49 (0, 0)) := by
      rw [← hW3]
      refine heap_keep ?_ _
      exact (HF2.out.heap ((Fr.ofBelow HAL.out).heap HBX.out (by simp)) (by have := HX5.out; simp; omega))
    have HPW := hid (show w.heap.size ≤ PB from by rw [← hPBe]; exact Nat.le_trans HB1.out.size (Nat.le_trans (by simp) HF2.out.size))
    have HMP := hid (show mb ≠ PB from by rw [← hPBe, ← hmb]; have := HF2.out.size; simp at this; omega)
    have hPBl := hPB
    have hne : PB ≠ X := by rw [← hPBe]; have := HX5.out; have := HF2.out.size; simp at this; omega
    clear hmm hW3 hup hPBe hmb HXE b0 b1 hk3
    cases bad
    · go_upto_region 8 with (fail)
      have HP := hid (show Pl w W3 PB mb X F xf xm none 0 0 [] from ⟨hPB, Sl.nil_any _ _, HD3.out, hbx3, hb3⟩)
      clear hPB hPBl hb3 hbx3
      go_region_held (fun w' => w'.cell? ⟨PB, 0, none⟩ = some (.slice none 0 0) ∧ w'.cell? ⟨PB, 1, none⟩ = some (.slice none 0 0) ∧ w'.cell? ⟨PB, 2, none⟩ = some (.map (some mb))) (first | exact HP.out.cells0 | exact HP5.out.cells | exact HP6.out.cells)
        (first
          | (go_at_call 10; refine (new_calls 60 _).mono ?_; rintro e w5 ⟨g, SA, rfl, hA, hSA, hb5⟩; have HP5 := hid (HP.out.drew1.keep hb5); have HAA := hid hA; have HSA := hid hSA; have HB5 := hid hb5; clear hA hSA hb5)
          | (go_at_call 11; refine (dv_new_plan (ints_none w5) HP5.out.ints (by decide) (by simp) HP5.out.map HP5.out.good 60).mono ?_; rintro e w6 ⟨gd, SD, be, rfl, hD, hbe, hSD, hb6⟩; have HP6 := hid (HP5.out.keep hb6); have HDD := hid hD; have HBE := hid hbe; have HSD := hid hSD; have HB6 := hid hb6; clear hD hbe hSD hb6))
      have hpk := plan_ok (bd := false = true ∨ xm ≠ 0) HX1.out HX2.out (r := (min (max (60 : Int) 0) 4096).toNat) rfl HBE.out (zs := []) (fun z hz => by cases hz) (fun h => .inr h)
      have HPK := hid hpk
      obtain ⟨d, hde⟩ : ∃ d : Dev, Dev.mk [] (min (max (60 : Int) 0) 4096).toNat 0 0 0 0 [] [] be = d := ⟨_, rfl⟩
      rw [hde] at HPK HDD
      clear hpk hde
      go_upto_region 10 with (go_at_call 9; refine (lnew_calls 3 _ _ _).mono ?_; rintro e w7 ⟨lb, SL, rfl, hL, hSL, hb7⟩)
      obtain ⟨S, hs, hS⟩ := sys_made (n := 3) HAA.out HSA.out (Below.refl _ _) HDD.out HPK.out.none HSD.out HB6.out (Below.refl _ _) hL hSL hb7 HB5.out.size
      rw [show (min (max (60 : Int) 0) 4096).toNat = 60 from rfl] at hs
      have hpl := HP6.out.keep hb7
      have hwi := winv_made (TA := 50) hs (fun k hk => Nat.le_trans HP.out.drew1.below.size (hS k hk)) ⟨HPK.out.room, HPK.out.fu⟩ HPK.out.nums hpl.below.size
      have hbx8 := heap_keep hpl.box (.cells #[.slice none 0 0, .slice none 0 0, .slice none 0 0] 50)
      have hb8 := hpl.below.alloc hpl.below.size (.cells #[.slice none 0 0, .slice none 0 0, .slice none 0 0] 50)
      have hxb : X ∉ rwBlocks w7.heap.size (List.replicate 3 (Value.slice none 0 0)) ++ S := fun hm => by
        rcases List.mem_append.1 hm with hm | hm
        · have h1 : X = w7.heap.size := by simpa [rwBlocks, List.replicate, Value.ownBlock] using hm
          have := heap_lt hpl.box; omega
        · exact absurd (hS X hm) (Nat.not_le.2 (heap_lt HP.out.drew1.box))
      obtain ⟨wb, hwb⟩ : ∃ wb, w7.heap.size = wb := ⟨_, rfl⟩
      obtain ⟨W8, hW8⟩ : ∃ W8, w7.alloc (.cells #[.slice none 0 0, .slice none 0 0, .slice none 0 0] 50) = W8 := ⟨_, rfl⟩
      rw [hW8] at hwi hbx8 hb8
      rw [hwb] at hwi hxb
      have HWI := hid hwi
      have HBI := hid (BoxI.mk hbx8 hxb)
      have HB8 := hid hb8
      have HDO := hid (show DOk d F _ 0 from ⟨HPK.out.ok, HPK.out.bad, HPK.out.nums.2.2⟩)
      go_upto_region 11 with (fail)
      try rw [hW8]
      try rw [hwb]
      clear hs hS hL hSL hb7 hpl hwi hbx8 hb8 hxb hwb hW8 HAA HSA HDD HPK HSD HB6 HP5 HB5 HBE HD2 HD3 HF2 HAL HPW HMP HX5 HP HP6
      go_wp2
      go_loopw [16, 17, 18, 50] (fun _ _ _ i wr => ∃ (k : Nat) (S : List Nat) (tiles : List (List Ck)) (d : Dev) (vs : List Value) (ts : List (List UInt8)), k ≤ l.length ∧ i = .int .i64 (k : Int) ∧ WInv wr w.heap.size (4 * k) (6 * k) g gd lb wb 50 S tiles d vs ts ∧ DOk d F (false = true ∨ xm ≠ 0) 0 ∧ ts.length = 3 ∧ BoxI wr X (.cells #[.int .i64 xf, .int .u32 xm] 49 (0, 0)) (rwBlocks wb vs ++ S) ∧ Below w.heap.size w wr) (fun _ _ _ i _ => l.length - (intOf i).toNat)
      case atStart => exact ⟨0, S, _, d, _, _, by omega, rfl, HWI.out, HDO.out, rfl, HBI.out, HB8.out⟩
      case round =>
        clear HWI HDO HBI HB8
        obtain ⟨k, S, tiles, d, vs, ts, hk, rfl, hwi, hdo, hts, hbi, hB⟩ := hrel
        have HWI := hid hwi
        have HDO := hid hdo
        have HBI := hid hbi
        have HB := hid hB
        by_cases hlt : k < l.length
        · obtain ⟨bb, off, rfl, hc⟩ := Bytes.at (H0.out.keep hB) k hlt
          obtain ⟨y, hy⟩ : ∃ y : UInt8, l[k] = y := ⟨_, rfl⟩
          rw [hy] at hc
          have hyb := y.toNat_lt
          obtain ⟨m, hm⟩ : ∃ m, y.toNat = m := ⟨_, rfl⟩
          rw [hm] at hc hyb
          have q3 : IntKind.u8.wrap (k : Int) = k := IntWalk.u8_in _ (by omega)
          have q4 : IntKind.i64.wrap (m : Int) = m := IntWalk.i64_in _ (by omega)
          obtain ⟨r, hr⟩ : ∃ r, k % 3 = r := ⟨_, rfl⟩
          have hr3 : r < 3 := by omega
          have hr1 : (k : Int) % 3 = (r : Int) := by omega
          have hr2 : (k : Int).tmod 3 = (r : Int) := by rw [Int.tmod_eq_emod_of_nonneg (by omega)]; exact hr1
          have htt : r < tiles.length := by rw [hwi.three, hts]; exact hr3
          obtain ⟨cs, hcs⟩ : ∃ cs, tiles[r]? = some cs := ⟨tiles[r], by simp⟩
          have HCS := hid hcs
          clear hy hm hwi hdo hbi hB hcs htt
          go_upto_region 15 with (go_at_call 12; refine (bytes17_calls (k : Int) (by omega) m (by omega) _).mono ?_; rintro e w4 ⟨rfl, hy, hb4⟩; have HWI4 := hid (HWI.out.keep hb4); have HBI4 := hid (HBI.out.keep hb4); have HB4 := hid (HB.out.trans (hb4.mono HB.out.size)); have HY4 := hid hy; have HNW := hid (show wr.heap.size ∉ S from fun hm => absurd (HWI.out.q.sys.lt _ hm) (Nat.lt_irrefl _)); clear hy hb4)
          have ADD := hid (q_add HWI4.out.q (t := r) HCS.out (by omega) (by omega) (by omega) HY4.out (fun _ p hp hm => by cases hp; exact HNW.out hm) HB4.out.size)
          go_upto_region 17 with (go_at_call 13; refine ADD.out.mono ?_; rintro e w5 ⟨rfl, S5, cs5, hq5, ht5, hG5, hf5⟩; have HQ5 := hid hq5; have HT5 := hid ht5; have HG5 := hid hG5; have HF5 := hid hf5; clear hq5 ht5 hG5 hf5)
          have hrw5 := HWI4.out.rw.fr HF5.out HWI4.out.ap
          have hts5 := HWI4.out.texts r cs HCS.out
          obtain ⟨ao, co, hv5, c5, f5, ho5, _⟩ := hrw5.at (t := r) (l := (text cs).map u8) (by simp [hts5])
          rw [List.length_map] at hv5 c5 ho5
          have HV5 := hid hv5
          have HO5 := hid (show OwnB w5 w.heap.size (.slice ao (text cs).length co) (text cs) from ho5)
          have HR5 := hid hrw5
          have HY5 := hid (show Bytes w5 (some ⟨wr.heap.size, 0, none⟩) m m (byt (k : Int) m) from HY4.out.fr HF5.out (fun p hp hm => by cases hp; exact HNW.out hm))
          have hcl := HWI4.out.q.chunks HCS.out
          have htl := text_le (HWI4.out.q.sys.len64 HCS.out)
          obtain ⟨TL, hTL⟩ : ∃ TL, (text cs).length = TL := ⟨_, rfl⟩
          rw [hTL] at c5 HV5 HO5 htl
          have HTL := hid hTL
          have HSZ := hid (Nat.le_trans HB4.out.size HF5.out.size)
          clear hrw5 hts5 hv5 ho5 hTL hr1 hr2
          have hr1 : (k : Int) % 3 = (r : Int) := by omega
          go_upto_region 18 with (at_builtin; refine app_bytes_at rfl (.tmp 71) (.tmp 72) rfl rfl HO5.out rfl HY5.out (by have := HTL.out; omega) HSZ.out ?_; intro v6 w6 ho6 hg6 hl6; obtain ⟨c6, f6⟩ := HR5.out.grown6 hg6 HV5.out; have HW7 := hid (HWI4.out.step HQ5.out HG5.out HF5.out HCS.out HT5.out HV5.out ho6 hg6 hl6 HB4.out.size); obtain ⟨a6, n6, q6, rfl⟩ : ∃ a n c, v6 = Value.slice a n c := (by obtain ⟨a7, c7, e, _⟩ := ho6.bytes; exact ⟨_, _, _, e⟩); clear ho6 hg6 hl6)
          obtain ⟨hw7, hf7, hg7⟩ := HW7.out
          have HBI7 := hid (HBI4.out.step hf7 hg7)
          have HB7 := hid (Fr.below HB4.out hf7 HWI4.out.allFar HB4.out.size)
          have HWI7 := hid (hw7.mono (N1 := 4 * (k + 1)) (M1 := 6 * k) (by omega) (Nat.le_refl _))
          clear HW7 hw7 hf7 hg7 c5 f5 c6 f6
          have hl7 : (ts.set r (text cs ++ byt (k : Int) m)).length = 3 := by rw [List.length_set]; exact hts
          generalize hvg : vs.set r (Value.slice a6 n6 q6) = vs7 at HWI7 HBI7
          generalize htg : ts.set r (text cs ++ byt (k : Int) m) = ts7 at HWI7 hl7
          generalize hcg : tiles.set r cs5 = tiles7 at HWI7
          generalize hwg : w6.setCell ⟨wb, r, none⟩ (Value.slice a6 n6 q6) = W7 at HWI7 HBI7 HB7
          try rw [hwg]
          clear hvg htg hcg
          by_cases hk4 : k % 4 = 3
          · have g1 : (k : Int) % 4 = 3 := by omega
            obtain ⟨s6, hs6⟩ : ∃ s6 : Nat, sp % 6 = (s6 : Int) := ⟨(sp % 6).toNat, by omega⟩
            have hs7 : s6 < 6 := by omega
            have p1 : IntKind.u8.wrap (s6 : Int) = s6 := IntWalk.u8_in _ (by omega)
            have p2 : IntKind.i64.wrap (s6 : Int) = s6 := IntWalk.i64_in _ (by omega)
            go_upto_region 20 with (fail)
            go_wp2
            clear g1 hk4 hs6 p1 p2 hr hr1
            go_loopw [81] (fun i wr => ∃ (q : Nat) (S : List Nat) (tiles : List (List Ck)) (d : Dev), q ≤ s6 ∧ i = .int .i64 (q : Int) ∧ WInv wr w.heap.size (4 * (k + 1)) (6 * k + q) g gd lb wb 50 S tiles d vs7 ts7 ∧ DOk d F (false = true ∨ xm ≠ 0) 0 ∧ BoxI wr X (.cells #[.int .i64 xf, .int .u32 xm] 49 (0, 0)) (rwBlocks wb vs7 ++ S) ∧ Below w.heap.size w wr) (fun i _ => s6 - (intOf i).toNat)
            case atStart => exact ⟨0, S5, tiles7, d, by omega, rfl, HWI7.out, HDO.out, HBI7.out, HB7.out⟩
            case round =>
              obtain ⟨q, S9, tiles9, d9, hq, rfl, hwi9, hdo9, hbi9, hB9⟩ := hrel
              have HWI9 := hid hwi9
              have HDO9 := hid hdo9
              have HBI9 := hid hbi9
              have HB9 := hid hB9
              clear hwi9 hdo9 hbi9 hB9
              by_cases hqs : q < s6
              · have SPL := hid (q_spill HWI9.out.q (by omega) (by omega) HB9.out.size)
                go_wp2_with (go_at_call 14; refine SPL.out.mono ?_; rintro e wq ⟨zz, Sq, tq, dq, rfl, hqq, hspq, hGq, hfq, hda, hdb, hdt⟩; have HWIq := hid (HWI9.out.spill hqq hspq hGq hfq); have HBIq := hid (HBI9.out.step (frSys hfq) (growsSys hGq)); have HBq := hid (Fr.below HB9.out hfq HWI9.out.q.far HB9.out.size); have hdo := HDO9.out.same hda hdb; rw [hdt, HDO9.out.takes] at hdo; have HDOq := hid hdo; clear hqq hspq hGq hfq hda hdb hdt hdo)
                go_roundw
                case rel => exact ⟨q + 1, Sq, tq, dq, by omega, by go_num, HWIq.out, HDOq.out, HBIq.out, HBq.out⟩
                case measure => simp [intOf]; omega
              · obtain rfl : q = s6 := by omega
                go_wp2
                go_roundw
                case rel => exact ⟨k + 1, S9, tiles9, d9, vs7, ts7, by omega, by go_num, HWI9.out.mono (Nat.le_refl _) (by omega), HDO9.out, hl7, HBI9.out, HB9.out⟩
                case measure => simp [intOf]; omega
          · have g1 : ((k : Int) % 4 == 3) = false := beq_eq_false_iff_ne.2 (by omega)
            go_wp2
            go_roundw
            case rel => exact ⟨k + 1, S5, tiles7, d, vs7, ts7, by omega, by go_num, HWI7.out.mono (Nat.le_refl _) (by omega), HDO.out, hl7, HBI7.out, HB7.out⟩
            case measure => simp [intOf]; omega
        · obtain rfl : k = l.length := by omega
          have HE := hid (hwi.emptying hdo)
          have hfw := hwi.allFar
          clear hwi hdo hbi hB HWI HDO
          go_wp2
          go_loopw [19, 20, 21, 22, 87] (fun wc _ _ _ i wr => ∃ (j : Nat) (S : List Nat) (tiles : List (List Ck)) (d : Dev) (wn : Nat), j ≤ 3 ∧ i = .int .i64 (j : Int) ∧ wc = .int .i64 (wn : Int) ∧ EInv wr w.heap.size (4 * l.length) (6 * l.length + j) g gd lb wb 50 S tiles d vs ts F (false = true ∨ xm ≠ 0) j wn ∧ BoxI wr X (.cells #[.int .i64 xf, .int .u32 xm] 49 (0, 0)) (rwBlocks wb vs ++ S) ∧ Below w.heap.size w wr) (fun _ _ _ _ i _ => 3 - (intOf i).toNat)
          case atStart => exact ⟨0, S, tiles, d, 0, by omega, rfl, rfl, HE.out, HBI.out, HB.out⟩
          case round =>
            clear HE HBI HB
            obtain ⟨j, S, tiles, d, wn, hj, rfl, rfl, he, hbi, hB⟩ := hrel
            have HE := hid he
            have HBI := hid hbi
            have HB := hid hB
            by_cases hj3 : j < 3
            · have tj : decide ((j : Int) < 3) = true := by simp; omega
              have hjt : j < tiles.length := by rw [he.three, hts]; exact hj3
              obtain ⟨cs, hcs⟩ : ∃ cs, tiles[j]? = some cs := ⟨tiles[j], by simp⟩
              have HCS := hid hcs
              have HTS := hid (he.texts j cs (Nat.le_refl _) hcs)
              have EMP := hid (q_empty he.q hcs (by omega) (by omega) hB.size he.dok.ok)
              have hwn : wn ≤ 1 := by have := he.wrong; omega
              clear he hbi hB hcs
              go_upto_region 29 with (go_at_call 15; refine EMP.out.mono ?_; rintro e w5 ⟨S5, d5, hq5, hd5, htk5, hG5, hf5, hout⟩; have HQ5 := hid hq5; have HD5 := hid hd5; have HG5 := hid hG5; have HF5 := hid hf5; have HTK := hid htk5; have HOUT := hid hout; clear hq5 hd5 htk5 hG5 hf5 hout; obtain ⟨ve, ze, rfl⟩ : ∃ ve ze, e = .returned (.tuple #[ve, ze]) := (by rcases HOUT.out with ⟨v, h1, _⟩ | ⟨h1, _⟩ <;> exact ⟨_, _, h1⟩))
              have HB5 := hid (Fr.below HB.out HF5.out HE.out.q.far HB.out.size)
              have HBI5 := hid (HBI.out.step (frSys (wb := wb) (vs := vs) HF5.out) (growsSys HG5.out))
              have ho := HOUT.out
              clear HOUT
              rcases ho with ⟨v, h1, ho5, hn5⟩ | ⟨h1, q, hq1, hq2, hq3⟩
              · obtain ⟨rfl, rfl⟩ : ve = v ∧ ze = .int .i64 0 := by simpa using h1
                have HE5 := hid (HE.out.step hjt HQ5.out HD5.out HG5.out HF5.out (HE.out.wrong.imp_right fun ⟨x1, x2, x3⟩ => ⟨x1, Nat.lt_of_lt_of_le x2 HTK.out, x3⟩))
                obtain ⟨a5, c5, rfl, hy5⟩ := ho5.bytes
                obtain ⟨aw, cw, _, cwb, hyw⟩ := HE5.out.at HTS.out
                have s1 := run_str (P := Try.prog) hy5.drew 22 9 5 Try.underlying22 Try.underlying5 Try.underlying9
                have s2 := run_str (P := Try.prog) hyw.drew 22 9 5 Try.underlying22 Try.underlying5 Try.underlying9
                obtain ⟨TL, hTL⟩ : ∃ TL, (text cs).length = TL := ⟨_, rfl⟩
                rw [hTL] at s1 s2 cwb ⊢
                have cwd : w5.drew.cell? ⟨wb, j, none⟩ = some (.slice aw TL cw) := cwb
                have HS := hid (And.intro cwd (And.intro s1 s2))
                have hkd : Below w5.heap.size w5 w5.drew := (Below.refl _ _).drew
                have HE6 := hid (HE5.out.keep hkd)
                have HBI6 := hid (HBI5.out.keep hkd)
                have HB6 := hid (HB5.out.trans (hkd.mono HB5.out.size))
                have LEN := hid (sys_len HE6.out.q.sys (t := j) (cs := []) (HE6.out.gone j (Nat.lt_succ_self _)) (by have := HE6.out.q.len; omega))
                clear hkd
                clear hTL h1 ho5 hn5 hy5 hyw cwb cwd s1 s2
                go_upto_region 33 with (fail)
                go_region_held (fun w' => w'.cell? ⟨wb, j, none⟩ = some (.slice aw TL cw) ∧ (convert 22 9 (.slice a5 TL c5)).run Try.prog w' = .ok (.string (str (text cs))) w' ∧ (convert 22 9 (.slice aw TL cw)).run Try.prog w' = .ok (.string (str (text cs))) w') (exact HS.out) (fail)
                go_wp2_with (go_at_call 17; refine LEN.out.mono ?_; rintro e w7 ⟨rfl, hb7⟩)
                go_roundw
                case rel => exact ⟨j + 1, S5, _, d5, wn, by omega, by go_num, rfl, HE6.out.keep hb7, HBI6.out.keep hb7, HB6.out.trans (hb7.mono HB6.out.size)⟩
                case measure => simp [intOf]; omega
              · obtain ⟨rfl, rfl⟩ : ve = .slice none 0 0 ∧ ze = .int .i64 10 := by simpa using h1
                obtain ⟨rfl, hbd⟩ := HE.out.dok.bad q hq3
                obtain rfl : wn = 0 := by have := HE.out.wrong; omega
                have HE5 := hid (HE.out.step (wn' := 1) hjt HQ5.out HD5.out HG5.out HF5.out (.inr ⟨rfl, hq2, hbd⟩))
                have LEN := hid (sys_len HE5.out.q.sys (t := j) (cs := []) (HE5.out.gone j (Nat.lt_succ_self _)) (by have := HE5.out.q.len; omega))
                clear h1
                go_wp2_with (go_at_call 17; refine LEN.out.mono ?_; rintro e w7 ⟨rfl, hb7⟩)
                go_roundw
                case rel => exact ⟨j + 1, S5, _, d5, 1, by omega, by go_num, rfl, HE5.out.keep hb7, HBI5.out.keep hb7, HB5.out.trans (hb7.mono HB5.out.size)⟩
                case measure => simp [intOf]; omega
            · obtain rfl : j = 3 := by omega
              obtain ⟨hh0, ha0⟩ := he.all hts
              have hwn := he.wrong
              have HWN := hid hwn
              have hmk : ∀ w : World, (Instr.makeSlice 22 (.int .i64 64) (.int .i64 64)).run Try.prog w = .ok (.slice (some ⟨w.heap.size, 0, none⟩) 64 64) (w.alloc (.cells (bytesArr (List.replicate 64 0)) 5)) := fun w => make_bytes17 64 (by omega) w
              obtain ⟨zs, hzs⟩ : ∃ zs, List.replicate 64 (0 : UInt8) = zs := ⟨_, rfl⟩
              rw [hzs] at hmk
              have hzl : zs.length = 64 := by rw [← hzs]; simp
              have HZL := hid hzl
              have hk9 := (Below.refl wr.heap.size wr).alloc (Nat.le_refl _) (.cells (bytesArr zs) 5)
              have HE9 := hid (he.keep hk9)
              have HBI9 := hid (hbi.keep hk9)
              have HB9 := hid (hB.trans (hk9.mono hB.size))
              have HY9 := hid (show Bytes (wr.alloc (.cells (bytesArr zs) 5)) (some ⟨wr.heap.size, 0, none⟩) 64 64 zs from Bytes.of_heap (heap_new _ _) hzl.symm (by omega) (by decide))
              have HH0 := hid hh0
              have HA0 := hid ha0
              clear he hbi hB hh0 ha0 hzs hzl hk9 HE HBI HB hwn
              go_upto_region 39 with (go_at_call 18; refine (put_calls HY9.out (by decide)).mono ?_; rintro e w5 ⟨v5, rfl, ho5, hb5⟩; have HE5 := hid (HE9.out.keep hb5); have HBI5 := hid (HBI9.out.keep hb5); have HB5 := hid (HB9.out.trans (hb5.mono HB9.out.size)); obtain ⟨a5, c5, e5, _⟩ := ho5.bytes; rw [List.length_append, be_length, HZL.out] at e5; subst e5; clear ho5 hb5)
              have USE := sys_used HE5.out.q.sys
              rw [HH0.out] at USE
              have DUS := sys_dused HE5.out.q.sys
              rw [HA0.out] at DUS
              have U1 := hid USE
              have U2 := hid DUS
              have b1 := cell_at HBI5.out.box 1
              simp only [List.getElem?_toArray, List.getElem?_cons_zero, List.getElem?_cons_succ] at b1
              clear USE DUS hmk
              rcases HWN.out with rfl | ⟨rfl, _, hbd⟩
              · by_cases hxm : xm = 0
                · subst hxm
                  go_wp2_with (first
                    | (go_at_call 16; refine U1.out.mono ?_; rintro e w6 ⟨rfl, rfl⟩)
                    | (go_at_call 19; refine U2.out.mono ?_; rintro e w6 ⟨rfl, rfl⟩))
                  go_ret
                  exact ⟨rfl, HB5.out⟩
                · have hx0 : (xm != 0) = true := by simp [hxm]
                  have hx1 : (xm == 0) = false := by simp [hxm]
                  go_wp2_with (first
                    | (go_at_call 16; refine U1.out.mono ?_; rintro e w6 ⟨rfl, rfl⟩)
                    | (go_at_call 19; refine U2.out.mono ?_; rintro e w6 ⟨rfl, rfl⟩))
                  go_ret
                  exact ⟨rfl, HB5.out⟩
              · have hxm : ¬ xm = 0 := by simpa using hbd
                have hx0 : (xm != 0) = true := by simp [hxm]
                have hx1 : (xm == 0) = false := by simp [hxm]
                go_wp2_with (first
                  | (go_at_call 16; refine U1.out.mono ?_; rintro e w6 ⟨rfl, rfl⟩)
                  | (go_at_call 19; refine U2.out.mono ?_; rintro e w6 ⟨rfl, rfl⟩))
                go_ret
                exact ⟨rfl, HB5.out⟩
    · have hk4 := heap_keep hPB (.cells #[.int .i64 (F : Int)] 3)
      have c4 := cell_at hk4 1
      have f4 := free_at hk4 1
      go_upto_region 8 with (fail)
      have HP := hid (show Pl w ((W3.alloc (.cells #[.int .i64 (F : Int)] 3)).setCell ⟨PB, 1, none⟩ (.slice (some ⟨W3.heap.size, 0, none⟩) 1 1)) PB mb X F xf xm (some ⟨W3.heap.size, 0, none⟩) 1 1 [(F : Int)] from pl_bad hPB HD3.out hbx3 hb3 hne.symm HPW.out HMP.out)
      clear hPB hPBl hb3 hbx3 hk4 c4 f4
      go_region_held (fun w' => w'.cell? ⟨PB, 0, none⟩ = some (.slice none 0 0) ∧ w'.cell? ⟨PB, 1, none⟩ = some (.slice (some ⟨W3.heap.size, 0, none⟩) 1 1) ∧ w'.cell? ⟨PB, 2, none⟩ = some (.map (some mb))) (first | exact HP.out.cells0 | exact HP5.out.cells | exact HP6.out.cells)
        (first
          | (go_at_call 10; refine (new_calls 60 _).mono ?_; rintro e w5 ⟨g, SA, rfl, hA, hSA, hb5⟩; have HP5 := hid (HP.out.drew1.keep hb5); have HAA := hid hA; have HSA := hid hSA; have HB5 := hid hb5; clear hA hSA hb5)
          | (go_at_call 11; refine (dv_new_plan (ints_none w5) HP5.out.ints (by decide) (by simp) HP5.out.map HP5.out.good 60).mono ?_; rintro e w6 ⟨gd, SD, be, rfl, hD, hbe, hSD, hb6⟩; have HP6 := hid (HP5.out.keep hb6); have HDD := hid hD; have HBE := hid hbe; have HSD := hid hSD; have HB6 := hid hb6; clear hD hbe hSD hb6))
      have hpk := plan_ok (bd := True) HX1.out HX2.out (r := (min (max (60 : Int) 0) 4096).toNat) rfl HBE.out (zs := [(F : Int)]) (fun z hz => ⟨by simpa using hz, trivial⟩) (fun _ => trivial)
      have HPK := hid hpk
      obtain ⟨d, hde⟩ : ∃ d : Dev, Dev.mk [] (min (max (60 : Int) 0) 4096).toNat 0 0 0 0 [] [(F : Int)] be = d := ⟨_, rfl⟩
      rw [hde] at HPK HDD
      clear hpk hde
      go_upto_region 10 with (go_at_call 9; refine (lnew_calls 3 _ _ _).mono ?_; rintro e w7 ⟨lb, SL, rfl, hL, hSL, hb7⟩)
      obtain ⟨S, hs, hS⟩ := sys_made (n := 3) HAA.out HSA.out (Below.refl _ _) HDD.out HPK.out.none HSD.out HB6.out (Below.refl _ _) hL hSL hb7 HB5.out.size
      rw [show (min (max (60 : Int) 0) 4096).toNat = 60 from rfl] at hs
      have hpl := HP6.out.keep hb7
      have hwi := winv_made (TA := 50) hs (fun k hk => Nat.le_trans HP.out.drew1.below.size (hS k hk)) ⟨HPK.out.room, HPK.out.fu⟩ HPK.out.nums hpl.below.size
      have hbx8 := heap_keep hpl.box (.cells #[.slice none 0 0, .slice none 0 0, .slice none 0 0] 50)
      have hb8 := hpl.below.alloc hpl.below.size (.cells #[.slice none 0 0, .slice none 0 0, .slice none 0 0] 50)
      have hxb : X ∉ rwBlocks w7.heap.size (List.replicate 3 (Value.slice none 0 0)) ++ S := fun hm => by
        rcases List.mem_append.1 hm with hm | hm
        · have h1 : X = w7.heap.size := by simpa [rwBlocks, List.replicate, Value.ownBlock] using hm
          have := heap_lt hpl.box; omega
        · exact absurd (hS X hm) (Nat.not_le.2 (heap_lt HP.out.drew1.box))
      obtain ⟨wb, hwb⟩ : ∃ wb, w7.heap.size = wb := ⟨_, rfl⟩
      obtain ⟨W8, hW8⟩ : ∃ W8, w7.alloc (.cells #[.slice none 0 0, .slice none 0 0, .slice none 0 0] 50) = W8 := ⟨_, rfl⟩
      rw [hW8] at hwi hbx8 hb8
      rw [hwb] at hwi hxb
      have HWI := hid hwi
      have HBI := hid (BoxI.mk hbx8 hxb)
      have HB8 := hid hb8
      have HDO := hid (show DOk d F _ 0 from ⟨HPK.out.ok, HPK.out.bad, HPK.out.nums.2.2⟩)
      go_upto_region 11 with (fail)
      try rw [hW8]
      try rw [hwb]
      clear hs hS hL hSL hb7 hpl hwi hbx8 hb8 hxb hwb hW8 HAA HSA HDD HPK HSD HB6 HP5 HB5 HBE HD2 HD3 HF2 HAL HPW HMP HX5 HP HP6
      go_wp2
      go_loopw [16, 17, 18, 50] (fun _ _ _ i wr => ∃ (k : Nat) (S : List Nat) (tiles : List (List Ck)) (d : Dev) (vs : List Value) (ts : List (List UInt8)), k ≤ l.length ∧ i = .int .i64 (k : Int) ∧ WInv wr w.heap.size (4 * k) (6 * k) g gd lb wb 50 S tiles d vs ts ∧ DOk d F True 0 ∧ ts.length = 3 ∧ BoxI wr X (.cells #[.int .i64 xf, .int .u32 xm] 49 (0, 0)) (rwBlocks wb vs ++ S) ∧ Below w.heap.size w wr) (fun _ _ _ i _ => l.length - (intOf i).toNat)
      case atStart => exact ⟨0, S, _, d, _, _, by omega, rfl, HWI.out, HDO.out, rfl, HBI.out, HB8.out⟩
      case round =>
        clear HWI HDO HBI HB8
        obtain ⟨k, S, tiles, d, vs, ts, hk, rfl, hwi, hdo, hts, hbi, hB⟩ := hrel
        have HWI := hid hwi
        have HDO := hid hdo
        have HBI := hid hbi
        have HB := hid hB
        by_cases hlt : k < l.length
        · obtain ⟨bb, off, rfl, hc⟩ := Bytes.at (H0.out.keep hB) k hlt
          obtain ⟨y, hy⟩ : ∃ y : UInt8, l[k] = y := ⟨_, rfl⟩
          rw [hy] at hc
          have hyb := y.toNat_lt
          obtain ⟨m, hm⟩ : ∃ m, y.toNat = m := ⟨_, rfl⟩
          rw [hm] at hc hyb
          have q3 : IntKind.u8.wrap (k : Int) = k := IntWalk.u8_in _ (by omega)
          have q4 : IntKind.i64.wrap (m : Int) = m := IntWalk.i64_in _ (by omega)
          obtain ⟨r, hr⟩ : ∃ r, k % 3 = r := ⟨_, rfl⟩
          have hr3 : r < 3 := by omega
          have hr1 : (k : Int) % 3 = (r : Int) := by omega
          have hr2 : (k : Int).tmod 3 = (r : Int) := by rw [Int.tmod_eq_emod_of_nonneg (by omega)]; exact hr1
          have htt : r < tiles.length := by rw [hwi.three, hts]; exact hr3
          obtain ⟨cs, hcs⟩ : ∃ cs, tiles[r]? = some cs := ⟨tiles[r], by simp⟩
          have HCS := hid hcs
          clear hy hm hwi hdo hbi hB hcs htt
          go_upto_region 15 with (go_at_call 12; refine (bytes17_calls (k : Int) (by omega) m (by omega) _).mono ?_; rintro e w4 ⟨rfl, hy, hb4⟩; have HWI4 := hid (HWI.out.keep hb4); have HBI4 := hid (HBI.out.keep hb4); have HB4 := hid (HB.out.trans (hb4.mono HB.out.size)); have HY4 := hid hy; have HNW := hid (show wr.heap.size ∉ S from fun hm => absurd (HWI.out.q.sys.lt _ hm) (Nat.lt_irrefl _)); clear hy hb4)
          have ADD := hid (q_add HWI4.out.q (t := r) HCS.out (by omega) (by omega) (by omega) HY4.out (fun _ p hp hm => by cases hp; exact HNW.out hm) HB4.out.size)
          go_upto_region 17 with (go_at_call 13; refine ADD.out.mono ?_; rintro e w5 ⟨rfl, S5, cs5, hq5, ht5, hG5, hf5⟩; have HQ5 := hid hq5; have HT5 := hid ht5; have HG5 := hid hG5; have HF5 := hid hf5; clear hq5 ht5 hG5 hf5)
          have hrw5 := HWI4.out.rw.fr HF5.out HWI4.out.ap
          have hts5 := HWI4.out.texts r cs HCS.out
          obtain ⟨ao, co, hv5, c5, f5, ho5, _⟩ := hrw5.at (t := r) (l := (text cs).map u8) (by simp [hts5])
          rw [List.length_map] at hv5 c5 ho5
          have HV5 := hid hv5
          have HO5 := hid (show OwnB w5 w.heap.size (.slice ao (text cs).length co) (text cs) from ho5)
          have HR5 := hid hrw5
          have HY5 := hid (show Bytes w5 (some ⟨wr.heap.size, 0, none⟩) m m (byt (k : Int) m) from HY4.out.fr HF5.out (fun p hp hm => by cases hp; exact HNW.out hm))
          have hcl := HWI4.out.q.chunks HCS.out
          have htl := text_le (HWI4.out.q.sys.len64 HCS.out)
          obtain ⟨TL, hTL⟩ : ∃ TL, (text cs).length = TL := ⟨_, rfl⟩
          rw [hTL] at c5 HV5 HO5 htl
          have HTL := hid hTL
          have HSZ := hid (Nat.le_trans HB4.out.size HF5.out.size)
          clear hrw5 hts5 hv5 ho5 hTL hr1 hr2
          have hr1 : (k : Int) % 3 = (r : Int) := by omega
          go_upto_region 18 with (at_builtin; refine app_bytes_at rfl (.tmp 71) (.tmp 72) rfl rfl HO5.out rfl HY5.out (by have := HTL.out; omega) HSZ.out ?_; intro v6 w6 ho6 hg6 hl6; obtain ⟨c6, f6⟩ := HR5.out.grown6 hg6 HV5.out; have HW7 := hid (HWI4.out.step HQ5.out HG5.out HF5.out HCS.out HT5.out HV5.out ho6 hg6 hl6 HB4.out.size); obtain ⟨a6, n6, q6, rfl⟩ : ∃ a n c, v6 = Value.slice a n c := (by obtain ⟨a7, c7, e, _⟩ := ho6.bytes; exact ⟨_, _, _, e⟩); clear ho6 hg6 hl6)
          obtain ⟨hw7, hf7, hg7⟩ := HW7.out
          have HBI7 := hid (HBI4.out.step hf7 hg7)
          have HB7 := hid (Fr.below HB4.out hf7 HWI4.out.allFar HB4.out.size)
          have HWI7 := hid (hw7.mono (N1 := 4 * (k + 1)) (M1 := 6 * k) (by omega) (Nat.le_refl _))
          clear HW7 hw7 hf7 hg7 c5 f5 c6 f6
          have hl7 : (ts.set r (text cs ++ byt (k : Int) m)).length = 3 := by rw [List.length_set]; exact hts
          generalize hvg : vs.set r (Value.slice a6 n6 q6) = vs7 at HWI7 HBI7
          generalize htg : ts.set r (text cs ++ byt (k : Int) m) = ts7 at HWI7 hl7
          generalize hcg : tiles.set r cs5 = tiles7 at HWI7
          generalize hwg : w6.setCell ⟨wb, r, none⟩ (Value.slice a6 n6 q6) = W7 at HWI7 HBI7 HB7
          try rw [hwg]
          clear hvg htg hcg
          by_cases hk4 : k % 4 = 3
          · have g1 : (k : Int) % 4 = 3 := by omega
            obtain ⟨s6, hs6⟩ : ∃ s6 : Nat, sp % 6 = (s6 : Int) := ⟨(sp % 6).toNat, by omega⟩
            have hs7 : s6 < 6 := by omega
            have p1 : IntKind.u8.wrap (s6 : Int) = s6 := IntWalk.u8_in _ (by omega)
            have p2 : IntKind.i64.wrap (s6 : Int) = s6 := IntWalk.i64_in _ (by omega)
            go_upto_region 20 with (fail)
            go_wp2
            clear g1 hk4 hs6 p1 p2 hr hr1
            go_loopw [81] (fun i wr => ∃ (q : Nat) (S : List Nat) (tiles : List (List Ck)) (d : Dev), q ≤ s6 ∧ i = .int .i64 (q : Int) ∧ WInv wr w.heap.size (4 * (k + 1)) (6 * k + q) g gd lb wb 50 S tiles d vs7 ts7 ∧ DOk d F True 0 ∧ BoxI wr X (.cells #[.int .i64 xf, .int .u32 xm] 49 (0, 0)) (rwBlocks wb vs7 ++ S) ∧ Below w.heap.size w wr) (fun i _ => s6 - (intOf i).toNat)
            case atStart => exact ⟨0, S5, tiles7, d, by omega, rfl, HWI7.out, HDO.out, HBI7.out, HB7.out⟩
            case round =>
              obtain ⟨q, S9, tiles9, d9, hq, rfl, hwi9, hdo9, hbi9, hB9⟩ := hrel
              have HWI9 := hid hwi9
              have HDO9 := hid hdo9
              have HBI9 := hid hbi9
              have HB9 := hid hB9
              clear hwi9 hdo9 hbi9 hB9
              by_cases hqs : q < s6
              · have SPL := hid (q_spill HWI9.out.q (by omega) (by omega) HB9.out.size)
                go_wp2_with (go_at_call 14; refine SPL.out.mono ?_; rintro e wq ⟨zz, Sq, tq, dq, rfl, hqq, hspq, hGq, hfq, hda, hdb, hdt⟩; have HWIq := hid (HWI9.out.spill hqq hspq hGq hfq); have HBIq := hid (HBI9.out.step (frSys hfq) (growsSys hGq)); have HBq := hid (Fr.below HB9.out hfq HWI9.out.q.far HB9.out.size); have hdo := HDO9.out.same hda hdb; rw [hdt, HDO9.out.takes] at hdo; have HDOq := hid hdo; clear hqq hspq hGq hfq hda hdb hdt hdo)
                go_roundw
                case rel => exact ⟨q + 1, Sq, tq, dq, by omega, by go_num, HWIq.out, HDOq.out, HBIq.out, HBq.out⟩
                case measure => simp [intOf]; omega
              · obtain rfl : q = s6 := by omega
                go_wp2
                go_roundw
                case rel => exact ⟨k + 1, S9, tiles9, d9, vs7, ts7, by omega, by go_num, HWI9.out.mono (Nat.le_refl _) (by omega), HDO9.out, hl7, HBI9.out, HB9.out⟩
                case measure => simp [intOf]; omega
          · have g1 : ((k : Int) % 4 == 3) = false := beq_eq_false_iff_ne.2 (by omega)
            go_wp2
            go_roundw
            case rel => exact ⟨k + 1, S5, tiles7, d, vs7, ts7, by omega, by go_num, HWI7.out.mono (Nat.le_refl _) (by omega), HDO.out, hl7, HBI7.out, HB7.out⟩
            case measure => simp [intOf]; omega
        · obtain rfl : k = l.length := by omega
          have HE := hid (hwi.emptying hdo)
          have hfw := hwi.allFar
          clear hwi hdo hbi hB HWI HDO
          go_wp2
          go_loopw [19, 20, 21, 22, 87] (fun wc _ _ _ i wr => ∃ (j : Nat) (S : List Nat) (tiles : List (List Ck)) (d : Dev) (wn : Nat), j ≤ 3 ∧ i = .int .i64 (j : Int) ∧ wc = .int .i64 (wn : Int) ∧ EInv wr w.heap.size (4 * l.length) (6 * l.length + j) g gd lb wb 50 S tiles d vs ts F True j wn ∧ BoxI wr X (.cells #[.int .i64 xf, .int .u32 xm] 49 (0, 0)) (rwBlocks wb vs ++ S) ∧ Below w.heap.size w wr) (fun _ _ _ _ i _ => 3 - (intOf i).toNat)
          case atStart => exact ⟨0, S, tiles, d, 0, by omega, rfl, rfl, HE.out, HBI.out, HB.out⟩
          case round =>
            clear HE HBI HB
            obtain ⟨j, S, tiles, d, wn, hj, rfl, rfl, he, hbi, hB⟩ := hrel
            have HE := hid he
            have HBI := hid hbi
            have HB := hid hB
            by_cases hj3 : j < 3
            · have tj : decide ((j : Int) < 3) = true := by simp; omega
              have hjt : j < tiles.length := by rw [he.three, hts]; exact hj3
              obtain ⟨cs, hcs⟩ : ∃ cs, tiles[j]? = some cs := ⟨tiles[j], by simp⟩
              have HCS := hid hcs
              have HTS := hid (he.texts j cs (Nat.le_refl _) hcs)
              have EMP := hid (q_empty he.q hcs (by omega) (by omega) hB.size he.dok.ok)
              have hwn : wn ≤ 1 := by have := he.wrong; omega
              clear he hbi hB hcs
              go_upto_region 29 with (go_at_call 15; refine EMP.out.mono ?_; rintro e w5 ⟨S5, d5, hq5, hd5, htk5, hG5, hf5, hout⟩; have HQ5 := hid hq5; have HD5 := hid hd5; have HG5 := hid hG5; have HF5 := hid hf5; have HTK := hid htk5; have HOUT := hid hout; clear hq5 hd5 htk5 hG5 hf5 hout; obtain ⟨ve, ze, rfl⟩ : ∃ ve ze, e = .returned (.tuple #[ve, ze]) := (by rcases HOUT.out with ⟨v, h1, _⟩ | ⟨h1, _⟩ <;> exact ⟨_, _, h1⟩))
              have HB5 := hid (Fr.below HB.out HF5.out HE.out.q.far HB.out.size)
              have HBI5 := hid (HBI.out.step (frSys (wb := wb) (vs := vs) HF5.out) (growsSys HG5.out))
              have ho := HOUT.out
              clear HOUT
              rcases ho with ⟨v, h1, ho5, hn5⟩ | ⟨h1, q, hq1, hq2, hq3⟩
              · obtain ⟨rfl, rfl⟩ : ve = v ∧ ze = .int .i64 0 := by simpa using h1
                have HE5 := hid (HE.out.step hjt HQ5.out HD5.out HG5.out HF5.out (HE.out.wrong.imp_right fun ⟨x1, x2, x3⟩ => ⟨x1, Nat.lt_of_lt_of_le x2 HTK.out, x3⟩))
                obtain ⟨a5, c5, rfl, hy5⟩ := ho5.bytes
                obtain ⟨aw, cw, _, cwb, hyw⟩ := HE5.out.at HTS.out
                have s1 := run_str (P := Try.prog) hy5.drew 22 9 5 Try.underlying22 Try.underlying5 Try.underlying9
                have s2 := run_str (P := Try.prog) hyw.drew 22 9 5 Try.underlying22 Try.underlying5 Try.underlying9
                obtain ⟨TL, hTL⟩ : ∃ TL, (text cs).length = TL := ⟨_, rfl⟩
                rw [hTL] at s1 s2 cwb ⊢
                have cwd : w5.drew.cell? ⟨wb, j, none⟩ = some (.slice aw TL cw) := cwb
                have HS := hid (And.intro cwd (And.intro s1 s2))
                have hkd : Below w5.heap.size w5 w5.drew := (Below.refl _ _).drew
                have HE6 := hid (HE5.out.keep hkd)
                have HBI6 := hid (HBI5.out.keep hkd)
                have HB6 := hid (HB5.out.trans (hkd.mono HB5.out.size))
                have LEN := hid (sys_len HE6.out.q.sys (t := j) (cs := []) (HE6.out.gone j (Nat.lt_succ_self _)) (by have := HE6.out.q.len; omega))
                clear hkd
                clear hTL h1 ho5 hn5 hy5 hyw cwb cwd s1 s2
                go_upto_region 33 with (fail)
                go_region_held (fun w' => w'.cell? ⟨wb, j, none⟩ = some (.slice aw TL cw) ∧ (convert 22 9 (.slice a5 TL c5)).run Try.prog w' = .ok (.string (str (text cs))) w' ∧ (convert 22 9 (.slice aw TL cw)).run Try.prog w' = .ok (.string (str (text cs))) w') (exact HS.out) (fail)
                go_wp2_with (go_at_call 17; refine LEN.out.mono ?_; rintro e w7 ⟨rfl, hb7⟩)
                go_roundw
                case rel => exact ⟨j + 1, S5, _, d5, wn, by omega, by go_num, rfl, HE6.out.keep hb7, HBI6.out.keep hb7, HB6.out.trans (hb7.mono HB6.out.size)⟩
                case measure => simp [intOf]; omega
              · obtain ⟨rfl, rfl⟩ : ve = .slice none 0 0 ∧ ze = .int .i64 10 := by simpa using h1
                obtain ⟨rfl, hbd⟩ := HE.out.dok.bad q hq3
                obtain rfl : wn = 0 := by have := HE.out.wrong; omega
                have HE5 := hid (HE.out.step (wn' := 1) hjt HQ5.out HD5.out HG5.out HF5.out (.inr ⟨rfl, hq2, hbd⟩))
                have LEN := hid (sys_len HE5.out.q.sys (t := j) (cs := []) (HE5.out.gone j (Nat.lt_succ_self _)) (by have := HE5.out.q.len; omega))
                clear h1
                go_wp2_with (go_at_call 17; refine LEN.out.mono ?_; rintro e w7 ⟨rfl, hb7⟩)
                go_roundw
                case rel => exact ⟨j + 1, S5, _, d5, 1, by omega, by go_num, rfl, HE5.out.keep hb7, HBI5.out.keep hb7, HB5.out.trans (hb7.mono HB5.out.size)⟩
                case measure => simp [intOf]; omega
            · obtain rfl : j = 3 := by omega
              obtain ⟨hh0, ha0⟩ := he.all hts
              have hwn := he.wrong
              have HWN := hid hwn
              have hmk : ∀ w : World, (Instr.makeSlice 22 (.int .i64 64) (.int .i64 64)).run Try.prog w = .ok (.slice (some ⟨w.heap.size, 0, none⟩) 64 64) (w.alloc (.cells (bytesArr (List.replicate 64 0)) 5)) := fun w => make_bytes17 64 (by omega) w
              obtain ⟨zs, hzs⟩ : ∃ zs, List.replicate 64 (0 : UInt8) = zs := ⟨_, rfl⟩
              rw [hzs] at hmk
              have hzl : zs.length = 64 := by rw [← hzs]; simp
              have HZL := hid hzl
              have hk9 := (Below.refl wr.heap.size wr).alloc (Nat.le_refl _) (.cells (bytesArr zs) 5)
              have HE9 := hid (he.keep hk9)
              have HBI9 := hid (hbi.keep hk9)
              have HB9 := hid (hB.trans (hk9.mono hB.size))
              have HY9 := hid (show Bytes (wr.alloc (.cells (bytesArr zs) 5)) (some ⟨wr.heap.size, 0, none⟩) 64 64 zs from Bytes.of_heap (heap_new _ _) hzl.symm (by omega) (by decide))
              have HH0 := hid hh0
              have HA0 := hid ha0
              clear he hbi hB hh0 ha0 hzs hzl hk9 HE HBI HB hwn
              go_upto_region 39 with (go_at_call 18; refine (put_calls HY9.out (by decide)).mono ?_; rintro e w5 ⟨v5, rfl, ho5, hb5⟩; have HE5 := hid (HE9.out.keep hb5); have HBI5 := hid (HBI9.out.keep hb5); have HB5 := hid (HB9.out.trans (hb5.mono HB9.out.size)); obtain ⟨a5, c5, e5, _⟩ := ho5.bytes; rw [List.length_append, be_length, HZL.out] at e5; subst e5; clear ho5 hb5)
              have USE := sys_used HE5.out.q.sys
              rw [HH0.out] at USE
              have DUS := sys_dused HE5.out.q.sys
              rw [HA0.out] at DUS
              have U1 := hid USE
              have U2 := hid DUS
              have b1 := cell_at HBI5.out.box 1
              simp only [List.getElem?_toArray, List.getElem?_cons_zero, List.getElem?_cons_succ] at b1
              clear USE DUS hmk
              rcases HWN.out with rfl | ⟨rfl, _, _⟩
              · go_wp2_with (first
                  | (go_at_call 16; refine U1.out.mono ?_; rintro e w6 ⟨rfl, rfl⟩)
                  | (go_at_call 19; refine U2.out.mono ?_; rintro e w6 ⟨rfl, rfl⟩))
                go_ret
                exact ⟨rfl, HB5.out⟩
              · go_wp2_with (first
                  | (go_at_call 16; refine U1.out.mono ?_; rintro e w6 ⟨rfl, rfl⟩)
                  | (go_at_call 19; refine U2.out.mono ?_; rintro e w6 ⟨rfl, rfl⟩))
                go_ret
                exact ⟨rfl, HB5.out⟩
  · have e1 : decide ((12 : Int) < (l.length : Int)) = true := by simp; omega
    go_enter Try.func5, Try.ntmps5
    go_wp2_with (first
      | (go_at_call 8; refine (awake17 _).mono ?_; rintro e w0 ⟨rfl, hb0⟩))
    go_ret
    exact ⟨rfl, ((Below.refl w.heap.size w).alloc (Nat.le_refl _) _).trans (hb0.mono (by simp))⟩
end Go.Proofs.Ytakobldhjndeiaa
