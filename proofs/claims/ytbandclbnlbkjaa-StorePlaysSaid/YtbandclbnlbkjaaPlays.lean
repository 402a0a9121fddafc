/-
  StorePlays: the law's walk.
-/
import Derived.Test.YtbandclbnlbkjaaPlaysP
import Derived.Deep.CutRange
import Derived.Deep.CutBlock
import Derived.Outline
namespace Go.Proofs.Ytbandclbnlbkjaa
open Go.RowKit
set_option linter.unusedVariables false
set_option linter.unusedSimpArgs false

def mod30 (l : List UInt8) : List Int := l.map (fun c => (c.toNat : Int) % 30)
theorem mod30_more (l : List UInt8) (k : Nat) (h : k < l.length) : mod30 (l.take (k + 1)) = mod30 (l.take k) ++ [(l[k].toNat : Int) % 30] := by
  unfold mod30
  rw [List.take_succ_eq_append_getElem h, List.map_append]; rfl
abbrev bendsL := bendsL0
theorem bendsL_more (l : List BendR) (k : Nat) : bendsL l (k + 1) = bendsL l k ++ [(3 * (k : Int), bv (bendAt l k).from_ (bendAt l k).mask)] := by
  unfold bendsL bendsL0
  rw [List.range_succ, List.map_append]; rfl
theorem bendsL_mem {l : List BendR} {k : Nat} {p : Int × Value} : p ∈ bendsL l k ↔ ∃ i, i < k ∧ p = (3 * (i : Int), bv (bendAt l i).from_ (bendAt l i).mask) := bendsL0_mem
theorem bendsL_no (l : List BendR) (k : Nat) : ∀ q ∈ bendsL l k, q.1 ≠ 3 * (k : Int) := by
  intro q hq
  obtain ⟨i, hi, rfl⟩ := bendsL_mem.1 hq
  show 3 * (i : Int) ≠ 3 * (k : Int)
  omega
theorem bend_sz (x : BendR) : x.cells.length = 2 := rfl
theorem OwnB.bytesAt {w : World} {B n cap : Nat} {a : Option Addr} {bs : List UInt8} (h : OwnB w B (.slice a n cap) bs) : Bytes w a n cap bs := by
  obtain ⟨a', c', e, hb⟩ := h.bytes
  simp only [Value.slice.injEq] at e
  obtain ⟨rfl, rfl, rfl⟩ := e
  exact hb
theorem OwnB.fr' {w w' : World} {B C mm : Nat} {v : Value} {bs : List UInt8} (h : OwnB w B v bs) (hf : Fr [mm] w w') (hC : C ≤ B) (hm : mm < C) : OwnB w' B v bs :=
  own_fr h hf (fun k hk hm' => by have h1 := (World.ownsRow.lt h k hk).1; have := List.mem_singleton.1 hm'; omega)
set_option maxRecDepth 10000 in
set_option maxHeartbeats 40000000 in
theorem plays_walk {w : World} (room : Int) (hr : (Lit.int .u8 room).wf = true) {a1 : Option Addr} {n1 c1 : Nat} {full : List UInt8} (h1 : Bytes w a1 n1 c1 full) {a2 : Option Addr} {n2 c2 : Nat} {fail : List UInt8} (h2 : Bytes w a2 n2 c2 fail) {a3 : Option Addr} {n3 c3 : Nat} {bends : List BendR} (h3 : Bends w a3 n3 c3 bends) {a4 : Option Addr} {n4 c4 : Nat} {acts : List ActR} (h4 : Acts w a4 n4 c4 acts) :
    Calls Try.prog 5 #[.int .u8 room, .slice a1 n1 c1, .slice a2 n2 c2, .slice a3 n3 c3, .slice a4 n4 c4] w fun e w' => e = .returned (.bool true) ∧ Below w.heap.size w w' := by
  have hrb := bounds_u8 hr
  have H1 := hid h1
  have H2 := hid h2
  have H3 := hid h3
  have H4 := hid h4
  have hmm := @run_makeMap Try.prog
  have HMM := hid hmm
  clear h1 h2 h3 h4 hr
  go_enter Try.func5, Try.ntmps5
  by_cases hs : n1 ≤ 20 ∧ n2 ≤ 20 ∧ n3 ≤ 20 ∧ n4 ≤ 60
  · have e1 : decide ((20 : Int) < (n1 : Int)) = false := by simp; omega
    have e2 : decide ((20 : Int) < (n2 : Int)) = false := by simp; omega
    have e3 : decide ((20 : Int) < (n3 : Int)) = false := by simp; omega
    have e4 : decide ((60 : Int) < (n4 : Int)) = false := by simp; omega
    obtain ⟨hn1, hn2, hn3, hn4⟩ := hs
    go_upto_block 0 with (go_at_call 7; refine (awake06 _).mono ?_; rintro e w1 ⟨rfl, hb1⟩; have HB1 := hid hb1; clear hb1)
    have hk2 : Below w.heap.size w ((w1.alloc (.map #[] 0)).alloc (.cells #[.slice none 0 0, .slice none 0 0, .map (some w1.heap.size)] 30)) := (HB1.out.alloc HB1.out.size _).alloc (Nat.le_trans HB1.out.size (by simp)) _
    have hpre : Pre w ((w1.alloc (.map #[] 0)).alloc (.cells #[.slice none 0 0, .slice none 0 0, .map (some w1.heap.size)] 30)) (w1.heap.size + 1) w1.heap.size (.slice none 0 0) (.slice none 0 0) [] [] [] := by
      refine ⟨?_, OwnI.nil _ _, OwnI.nil _ _, ⟨(fun h => by cases h), (fun h => by cases h), (fun h => by cases h), (fun h => by cases h)⟩, (fun x h => by cases h), (DictAt.made w1).keep ((Below.refl _ _).alloc (Nat.le_refl _) _), ⟨HB1.out.size, by omega⟩, hk2⟩
      have := heap_new (w1.alloc (.map #[] 0)) (.cells #[.slice none 0 0, .slice none 0 0, .map (some w1.heap.size)] 30)
      simpa using this
    obtain ⟨PB, hPB⟩ : ∃ PB, w1.heap.size + 1 = PB := ⟨_, rfl⟩
    rw [hPB] at hpre ⊢
    obtain ⟨M, hM⟩ : ∃ M, w1.heap.size = M := ⟨_, rfl⟩
    rw [hM] at hpre ⊢
    obtain ⟨W1, hW1⟩ : ∃ W1, (w1.alloc (.map #[] 0)).alloc (.cells #[.slice none 0 0, .slice none 0 0, .map (some M)] 30) = W1 := ⟨_, rfl⟩
    rw [hW1] at hpre ⊢
    have HPRE := hid hpre
    clear hk2 hpre hPB hM hW1 e1 e2 e3 e4
    have hl1 := Bytes.len H1.out
    have hl2 := Bytes.len H2.out
    have hl3 := H3.out.1
    subst hl1 hl2 hl3
    go_cut [] from 62 to 76 (fun wx => ∃ v1, Pre w wx PB M v1 (.slice none 0 0) (mod30 full) [] [])
    case first =>
      go_wp2
      go_loopw [64] (fun i wr => ∃ (k : Nat) (v1 : Value), k ≤ full.length ∧ i = .int .i64 (k : Int) ∧ Pre w wr PB M v1 (.slice none 0 0) (mod30 (full.take k)) [] []) (fun i _ => full.length - (intOf i).toNat)
      case atStart => exact ⟨0, _, by omega, rfl, by simpa [mod30] using HPRE.out⟩
      case round =>
        obtain ⟨k, v1, hk, rfl, hp⟩ := hrel
        obtain ⟨wo, rfl⟩ : ∃ wo : World, wo = wr := ⟨_, rfl⟩
        have HP := hid hp
        by_cases hlt : k < full.length
        · obtain ⟨b, off, rfl, hc⟩ := Bytes.at (H1.out.keep hp.below) k hlt
          obtain ⟨y, hy⟩ : ∃ y, full[k] = y := ⟨_, rfl⟩
          rw [hy] at hc
          have hmo := mod30_more full k hlt
          rw [hy] at hmo
          have HMO := hid hmo
          have hyb := y.toNat_lt
          obtain ⟨r, hr⟩ : ∃ r, (y.toNat : Int) % 30 = r := ⟨_, rfl⟩
          have hr0 : 0 ≤ r ∧ r < 30 := by omega
          have hr1 : (y.toNat : Int).tmod 30 = r := by rw [Int.tmod_eq_emod_of_nonneg (by omega)]; exact hr
          rw [hr] at HMO
          have q1 : IntKind.u8.wrap r = r := IntWalk.u8_in _ (by omega)
          have q2 : IntKind.i64.wrap r = r := IntWalk.i64_in _ (by omega)
          have ct := cell_at hp.top 0
          have HLE := hid (show (mod30 (full.take k)).length ≤ 1000000 by unfold mod30; rw [List.length_map, List.length_take]; omega)
          clear hy hmo hp
          go_wp2_with (at_builtin; refine app_int_at (z := r) rfl _ _ rfl rfl HP.out.o1 rfl rfl HP.out.base HLE.out ?_; intro v3 w3 ho3 hg3 hl3; have hk3 := (Below.refl wo.heap.size wo).alloc (Nat.le_refl _) (.cells #[.int .i64 r] 3); obtain ⟨hc3, hz3, hp3⟩ := (HP.out.keep hk3).app1 ho3 hg3 hl3; have HP3 := hid hp3; obtain ⟨a3', c3', rfl, _⟩ := ho3.ints; clear ho3 hg3 hl3 hk3 hp3)
          go_roundw
          case rel => exact ⟨k + 1, _, by omega, by go_num, by rw [HMO.out]; have := HP3.out; simpa only [List.length_append, List.length_singleton] using this⟩
          case measure => simp [intOf]; omega
        · obtain rfl : k = full.length := by omega
          go_wp2
          go_meet
          case rel => exact ⟨v1, by have := HP.out; rw [List.take_length] at this; exact this⟩
    case rest =>
      obtain ⟨v1, hp⟩ := hcut
      have HPRE1 := hid hp
      clear hp
      go_upto_block 2 with fail
      go_cut [] from 77 to 91 (fun wx => ∃ v2, Pre w wx PB M v1 v2 (mod30 full) (mod30 fail) [])
      case first =>
        go_wp2
        go_loopw [79] (fun i wr => ∃ (k : Nat) (v2 : Value), k ≤ fail.length ∧ i = .int .i64 (k : Int) ∧ Pre w wr PB M v1 v2 (mod30 full) (mod30 (fail.take k)) []) (fun i _ => fail.length - (intOf i).toNat)
        case atStart => exact ⟨0, _, by omega, rfl, by simpa [mod30] using HPRE1.out⟩
        case round =>
          obtain ⟨k, v2, hk, rfl, hp⟩ := hrel
          obtain ⟨wo, rfl⟩ : ∃ wo : World, wo = wr := ⟨_, rfl⟩
          have HP := hid hp
          by_cases hlt : k < fail.length
          · obtain ⟨b, off, rfl, hc⟩ := Bytes.at (H2.out.keep hp.below) k hlt
            obtain ⟨y, hy⟩ : ∃ y, fail[k] = y := ⟨_, rfl⟩
            rw [hy] at hc
            have hmo := mod30_more fail k hlt
            rw [hy] at hmo
            have HMO := hid hmo
            have hyb := y.toNat_lt
            obtain ⟨r, hr⟩ : ∃ r, (y.toNat : Int) % 30 = r := ⟨_, rfl⟩
            have hr0 : 0 ≤ r ∧ r < 30 := by omega
            have hr1 : (y.toNat : Int).tmod 30 = r := by rw [Int.tmod_eq_emod_of_nonneg (by omega)]; exact hr
            rw [hr] at HMO
            have q1 : IntKind.u8.wrap r = r := IntWalk.u8_in _ (by omega)
            have q2 : IntKind.i64.wrap r = r := IntWalk.i64_in _ (by omega)
            have ct := cell_at hp.top 1
            have HLE := hid (show (mod30 (fail.take k)).length ≤ 1000000 by unfold mod30; rw [List.length_map, List.length_take]; omega)
            clear hy hmo hp
            go_wp2_with (at_builtin; refine app_int_at (z := r) rfl _ _ rfl rfl HP.out.o2 rfl rfl HP.out.base HLE.out ?_; intro v3 w3 ho3 hg3 hl3; have hk3 := (Below.refl wo.heap.size wo).alloc (Nat.le_refl _) (.cells #[.int .i64 r] 3); obtain ⟨hc3, hz3, hp3⟩ := (HP.out.keep hk3).app2 ho3 hg3 hl3; have HP3 := hid hp3; obtain ⟨a3', c3', rfl, _⟩ := ho3.ints; clear ho3 hg3 hl3 hk3 hp3)
            go_roundw
            case rel => exact ⟨k + 1, _, by omega, by go_num, by rw [HMO.out]; have := HP3.out; simpa only [List.length_append, List.length_singleton] using this⟩
            case measure => simp [intOf]; omega
          · obtain rfl : k = fail.length := by omega
            go_wp2
            go_meet
            case rel => exact ⟨v2, by have := HP.out; rw [List.take_length] at this; exact this⟩
      case rest =>
        obtain ⟨v2, hp⟩ := hcut
        have HPRE2 := hid hp
        clear hp
        go_upto_block 4 with fail
        go_cut [] from 92 to 104 (fun wx => Pre w wx PB M v1 v2 (mod30 full) (mod30 fail) (bendsL bends bends.length))
        case first =>
          go_wp2
          go_loopw [94] (fun i wr => ∃ k : Nat, k ≤ bends.length ∧ i = .int .i64 (k : Int) ∧ Pre w wr PB M v1 v2 (mod30 full) (mod30 fail) (bendsL bends k)) (fun i _ => bends.length - (intOf i).toNat)
          case atStart => exact ⟨0, by omega, rfl, HPRE2.out⟩
          case round =>
            obtain ⟨k, hk, rfl, hp⟩ := hrel
            obtain ⟨wo, rfl⟩ : ∃ wo : World, wo = wr := ⟨_, rfl⟩
            have HP := hid hp
            by_cases hlt : k < bends.length
            · obtain ⟨b, off, rfl, hc⟩ := Sl.rec_at bend_sz (by decide) (H3.out.2.1.keep hp.below) k hlt
              have hx0 : bends[k] = bendAt bends k := by unfold bendAt; rw [List.getElem?_eq_getElem hlt]; rfl
              rw [hx0] at hc
              obtain ⟨x0, hx⟩ : ∃ x0, bendAt bends k = x0 := ⟨_, rfl⟩
              rw [hx] at hc
              have g0 : wo.cell? ⟨b, off + k * 2, none⟩ = some (.int .i64 x0.from_) := hc 0 (by decide)
              have g1 : wo.cell? ⟨b, off + k * 2 + 1, none⟩ = some (.int .u32 x0.mask) := hc 1 (by decide)
              have HX := hid hx
              have q3 : IntKind.i64.wrap (3 * (k : Int)) = 3 * (k : Int) := IntWalk.i64_in _ (by omega)
              clear hc hx0 hx
              go_upto_region 19 with fail
              have hk1 := (Below.refl wo.heap.size wo).alloc (Nat.le_refl _) (.cells #[.int .i64 x0.from_, .int .u32 x0.mask] 25)
              have hp1 := HP.out.keep hk1
              have hbx := heap_new wo (.cells #[.int .i64 x0.from_, .int .u32 x0.mask] 25)
              obtain ⟨X, hX⟩ : ∃ X, wo.heap.size = X := ⟨_, rfl⟩
              obtain ⟨W2, hW2⟩ : ∃ W2, wo.alloc (.cells #[.int .i64 x0.from_, .int .u32 x0.mask] 25) = W2 := ⟨_, rfl⟩
              rw [hW2] at hp1 hbx ⊢
              rw [hX] at hbx ⊢
              have ct := cell_at hp1.top 2
              have b0 := cell_at hbx 0
              have b1 := cell_at hbx 1
              obtain ⟨w8, hup, hD8, hf8⟩ := hp1.map.add (P := Try.prog) Try.underlying27 Try.underlying3 (z := 3 * (k : Int)) (WalkArith.wf_i64 (by omega)) (bendsL_no bends k) (.agg #[.int .i64 x0.from_, .int .u32 x0.mask])
              have HP8 := hid (hp1.more hD8 hf8)
              clear hk1 hp1 hbx hX hW2 hD8 hf8 hp g0 g1
              go_wp2
              go_roundw
              case rel => exact ⟨k + 1, by omega, by go_num, by rw [bendsL_more, HX.out]; exact HP8.out⟩
              case measure => simp [intOf]; omega
            · obtain rfl : k = bends.length := by omega
              go_wp2
              go_meet
              case rel => exact HP.out
        case rest =>
          have HPRE3 := hid hcut
          clear hcut
          have hp := HPRE3.out
          obtain ⟨r, hr⟩ : ∃ r : Nat, room % 6 = (r : Int) := ⟨(room % 6).toNat, by omega⟩
          have hr6 : r < 6 := by omega
          have hr1 : room.tmod 6 = (r : Int) := by rw [Int.tmod_eq_emod_of_nonneg (by omega)]; exact hr
          have q1 : IntKind.u8.wrap (r : Int) = r := IntWalk.u8_in _ (by omega)
          have q2 : IntKind.i64.wrap (r : Int) = r := IntWalk.i64_in _ (by omega)
          obtain ⟨pa1, pc1, rfl, hi1⟩ := hp.o1.ints
          obtain ⟨pa2, pc2, rfl, hi2⟩ := hp.o2.ints
          have hfu : (mod30 full).length = full.length := by simp [mod30]
          have hfa : (mod30 fail).length = fail.length := by simp [mod30]
          obtain ⟨fu, hfue⟩ : ∃ fu, mod30 full = fu := ⟨_, rfl⟩
          obtain ⟨fa, hfae⟩ : ∃ fa, mod30 fail = fa := ⟨_, rfl⟩
          obtain ⟨Lb, hLb⟩ : ∃ Lb, bendsL bends bends.length = Lb := ⟨_, rfl⟩
          rw [hfue] at hp hi1 hfu HPRE3
          rw [hfae] at hp hi2 hfa HPRE3
          rw [hLb] at hp HPRE3
          have HLB := hid (show ∀ p ∈ Lb, ∃ f m, p.2 = bv f m from fun p h => by
            rw [← hLb] at h
            obtain ⟨i, _, rfl⟩ := bendsL_mem.1 h
            exact ⟨_, _, rfl⟩)
          have HLBE := hid hLb
          have ct0 := cell_at hp.top 0
          have ct1 := cell_at hp.top 1
          have ct2 := cell_at hp.top 2
          have HI1 := hid hi1
          have HI2 := hid hi2
          have HN1 := hid (show fu.length ≤ 1000 by omega)
          have HN2 := hid (show fa.length ≤ 1000 by omega)
          have HFU := hid hfue
          have HFA := hid hfae
          have HRM := hid hr
          clear hp hi1 hi2 hfue hfae hLb hfu hfa hr
          go_upto_region 22 with (go_at_call 8; refine (dnew_plan HI1.out HI2.out HN1.out HN2.out HPRE3.out.map HLB.out (r : Int)).mono ?_; rintro e w5 ⟨g, mb, bb, u1, u2, be, rfl, hdv, hbe, hlow, hf1, hf2, hb5⟩; have HDV := hid hdv; have HBND := hid hbe; have HLOW := hid hlow; have HP5 := hid (HPRE3.out.keep hb5); clear hdv hbe hlow hf1 hf2 hb5)
          have hmm := HMM.out
          clear ct0 ct1 ct2
          go_upto_block 6 with fail
          have HR6 := hid hr6
          have hk0 := (Below.refl w5.heap.size w5).alloc (Nat.le_refl _) (.map #[] 0)
          have hp0 := HP5.out.keep hk0
          have hd0 := HDV.out.keep hk0
          have hof := off_new HDV.out
          have hmr := DictAt.made w5
          have hlt5 := HDV.out.lt
          have hb5 : wc.heap.size ≤ w5.heap.size := Nat.le_trans HLOW.out.1 (Nat.le_of_lt hlt5.1)
          have HWB := hid (show w.heap.size ≤ g ∧ w.heap.size ≤ mb ∧ w.heap.size ≤ w5.heap.size from by have := HPRE3.out.below.size; have := HLOW.out; omega)
          have hinv : Inv (w5.alloc (.map #[] 0)) (w5.alloc (.map #[] 0)) g mb bb w5.heap.size u1 u2 ⟨[], r, 0, 0, 0, 0, fu, fa, be⟩ [] [] [] := by
            refine ⟨?_, hmr, trivial, (fun p h => by cases h), ⟨by simp; omega, by simp; omega, by simp, by omega, by omega, by omega⟩, Fr.refl _ _⟩
            have := hd0
            rwa [show (min (max (r : Int) 0) 4096).toNat = r by omega] at this
          have hmw : wc.heap.size ≤ w5.heap.size := hb5
          obtain ⟨mm, hmm2⟩ : ∃ mm, w5.heap.size = mm := ⟨_, rfl⟩
          obtain ⟨W0, hW0⟩ : ∃ W0, w5.alloc (.map #[] 0) = W0 := ⟨_, rfl⟩
          rw [hW0, hmm2] at hinv
          rw [hW0] at hp0 ⊢
          rw [hmm2] at hof HWB hmw ⊢
          have HP0 := hid hp0
          have HINV := hid hinv
          have HOF := hid hof
          have HPLAN := hid (plan_stays HP0.out (lt_of_pre HPRE3.out) HLOW.out hmw)
          clear hmm hk0 hp0 hd0 hof hmr hlt5 hb5 hinv hmm2 hW0 hmw
          go_wp2
          go_loopw [20, 21, 22, 23, 113] (fun v20 v21 v22 v23 i wr => ∃ (k nx mo pu tk : Nat) (L : List (Int × List UInt8)) (V V' : List (Int × Value)), k ≤ n4 ∧ i = .int .i64 (k : Int) ∧ v20 = .int .i64 (pu : Int) ∧ v21 = .int .i64 (tk : Int) ∧ v22 = .int .i64 (nx : Int) ∧ v23 = .int .i64 (mo : Int) ∧ Hid (Inv W0 wr g mb bb mm u1 u2 ⟨L, r, nx, mo, pu, tk, fu, fa, be⟩ V V' L) ∧ L.length ≤ mo ∧ mo ≤ nx ∧ pu ≤ k ∧ tk ≤ k ∧ nx ≤ k) (fun _ _ _ _ i _ => n4 - (intOf i).toNat)
          case atStart => exact ⟨0, 0, 0, 0, 0, [], [], [], by omega, rfl, rfl, rfl, rfl, rfl, HINV, by simp, by omega, by omega, by omega, by omega⟩
          case round =>
            obtain ⟨k, nx, mo, pu, tk, L, V, V', hk, rfl, rfl, rfl, rfl, rfl, HI, hlm, hmn, hpk, htk, hnk⟩ := hrel
            obtain ⟨wo, rfl⟩ : ∃ wo : World, wo = wr := ⟨_, rfl⟩
            by_cases hlt : k < n4
            · have hb0 : Below w.heap.size w wo := Fr.below HP0.out.below HI.out.fr (fun k hk => by have := HWB.out; simp at hk; omega) HP0.out.base
              have HBW := hid hb0
              obtain ⟨b, off, rfl, hc⟩ := Sl.rec_at (f := ActR.cells) (fun _ => rfl) (by decide) (H4.out.2.1.keep hb0) k (by rw [H4.out.1]; exact hlt)
              obtain ⟨x, hx⟩ : ∃ x, acts[k]'(by rw [H4.out.1]; exact hlt) = x := ⟨_, rfl⟩
              rw [hx] at hc
              have hxg : x.good w := hx ▸ H4.out.2.2 _ (List.getElem_mem _)
              obtain ⟨kd, num, seed, long⟩ := x
              have hkd := bounds_u8 hxg.1
              have hnum := bounds_u8 hxg.2.1
              have hseed := bounds_u8 hxg.2.2
              simp only at hkd hnum hseed
              have g0 : wo.cell? ⟨b, off + k * 4, none⟩ = some (.int .u8 kd) := hc 0 (by decide)
              have g1 : wo.cell? ⟨b, off + k * 4 + 1, none⟩ = some (.int .u8 num) := hc 1 (by decide)
              have g2 : wo.cell? ⟨b, off + k * 4 + 2, none⟩ = some (.int .u8 seed) := hc 2 (by decide)
              have g3 : wo.cell? ⟨b, off + k * 4 + 3, none⟩ = some (.bool long) := hc 3 (by decide)
              obtain ⟨z, hz, hz2⟩ : ∃ z : Int, num % ((nx : Int) + 2) = z ∧ 0 ≤ z ∧ z < (nx : Int) + 2 := ⟨_, rfl, Int.emod_nonneg _ (by omega), Int.emod_lt_of_pos _ (by omega)⟩
              have hz1 : num.tmod ((nx : Int) + 2) = z := by rw [Int.tmod_eq_emod_of_nonneg (by omega)]; exact hz
              obtain ⟨q, hq, hq2⟩ : ∃ q : Int, kd % 3 = q ∧ 0 ≤ q ∧ q < 3 := ⟨_, rfl, Int.emod_nonneg _ (by omega), Int.emod_lt_of_pos _ (by omega)⟩
              have hq1 : kd.tmod 3 = q := by rw [Int.tmod_eq_emod_of_nonneg (by omega)]; exact hq
              have t1 : IntKind.u8.wrap q = q := IntWalk.u8_in _ (by omega)
              have t2 : IntKind.i64.wrap num = num := IntWalk.i64_in _ (by omega)
              have t3 : IntKind.i64.wrap ((nx : Int) + 2) = (nx : Int) + 2 := IntWalk.i64_in _ (by omega)
              have t4 : IntKind.i64.wrap z = z := IntWalk.i64_in _ (by omega)
              have t5 : ((nx : Int) + 2 = 0) = False := eq_false (by omega)
              have HZ := hid hz2
              clear hc hx hxg hz hq
              go_upto_block 8 with fail
              have hka := (Below.refl wo.heap.size wo).alloc (Nat.le_refl _) (.cells #[.int .u8 kd, .int .u8 num, .int .u8 seed, .bool long] 46)
              have hi2 := HI.out.keep hka
              have hbx := heap_new wo (.cells #[.int .u8 kd, .int .u8 num, .int .u8 seed, .bool long] 46)
              have hb2 := HBW.out.trans (hka.mono HBW.out.size)
              obtain ⟨X0, hX0⟩ : ∃ X0, wo.heap.size = X0 := ⟨_, rfl⟩
              obtain ⟨W2, hW2⟩ : ∃ W2, wo.alloc (.cells #[.int .u8 kd, .int .u8 num, .int .u8 seed, .bool long] 46) = W2 := ⟨_, rfl⟩
              rw [hW2] at hi2 hbx hb2 ⊢
              rw [hX0] at hbx ⊢
              have HI2 := hid hi2
              have HBX := hid hbx
              have HB2 := hid hb2
              clear hka hi2 hbx hb2 hX0 hW2 g0 g1 g2 g3 hb0 t1 t2 t3 t4 t5 hz1
              go_cut [20, 21, 22] from 126 to 256 (fun v20 v21 v22 wx => ∃ (nx' mo' pu' tk' : Nat) (L' : List (Int × List UInt8)) (V1 V1' : List (Int × Value)), v20 = .int .i64 (pu' : Int) ∧ v21 = .int .i64 (tk' : Int) ∧ v22 = .int .i64 (nx' : Int) ∧ Hid (Inv W0 wx g mb bb mm u1 u2 ⟨L', r, nx', mo', pu', tk', fu, fa, be⟩ V1 V1' L') ∧ max mo L'.length = mo' ∧ mo' ≤ nx' ∧ pu' ≤ k + 1 ∧ tk' ≤ k + 1 ∧ nx' ≤ k + 1)
              case first =>
                have c0 := cell_at HBX.out 0
                have c1 := cell_at HBX.out 1
                have c2 := cell_at HBX.out 2
                have c3 := cell_at HBX.out 3
                rcases (show q = 0 ∨ q = 1 ∨ q = 2 by omega) with rfl | rfl | rfl
                · as_aux_lemma =>
                    have HBLK := hid (fun w => block_any seed hseed long w)
                    obtain ⟨nb, hnb⟩ : ∃ nb, (if long = true then seed.toNat else 64) = nb := ⟨_, rfl⟩
                    rw [hnb] at HBLK
                    have hnb2 : nb ≤ 255 := by rw [← hnb]; split <;> omega
                    obtain ⟨ys, hys⟩ : ∃ ys, blk seed nb = ys := ⟨_, rfl⟩
                    rw [hys] at HBLK
                    clear hnb hys
                    go_upto_region 35 with (go_at_call 12; refine (HBLK.out _).mono ?_; rintro e w3 ⟨rfl, hy3, hb3⟩; have HY3 := hid hy3; have HI3 := hid (HI2.out.keep hb3); have HL3 := hid hb3.size; have HBX3 := hid ((Fr.ofBelow hb3).heap HBX.out (by simp)); clear hy3 hb3)
                    have hlen3 := HI3.out.mp.len (P := Try.prog) (t := 44) (k := 3) (e := 22) Try.underlying44
                    by_cases h64 : nb = 64
                    · subst h64
                      by_cases hfull : r ≤ L.length ∨ (pu : Int) ∈ fu
                      · as_aux_lemma =>
                          have HFULL := hid hfull
                          obtain ⟨b1, b2, e1, e2, hw⟩ : ∃ b1 b2, decide (r ≤ L.length) = b1 ∧ decide ((pu : Int) ∈ fu) = b2 ∧ (b1 = true ∨ (b1 = false ∧ b2 = true)) := ⟨_, _, rfl, rfl, by simp only [decide_eq_true_eq, decide_eq_false_iff_not]; exact (Classical.em (r ≤ L.length)).imp id (fun h => ⟨h, hfull.resolve_left h⟩)⟩
                          have HE2 := hid e2
                          clear hfull e2 hlen3
                          go_upto_region 36 with (go_at_call 9; refine (dput_full HI3.out.dv (by show pu < 1000000; omega) HFULL.out).mono ?_; rintro e w4 ⟨rfl, hd4, hf4⟩; have HI4 : Hid (Inv W0 w4 g mb bb mm u1 u2 ⟨L, r, nx, mo, pu + 1, tk, fu, fa, be⟩ V V' L) := hid (HI3.out.dev hd4 hf4 HI3.out.new); have HPL := hid (HPLAN.out w4 HI4.out.fr); clear hd4 hf4)
                          have hlen4 := HI4.out.mp.len (P := Try.prog) (t := 44) (k := 3) (e := 22) Try.underlying44
                          rw [rowsG_len HI4.out.rows] at hlen4
                          have ct0 := cell_at HPL.out.1 0
                          rcases hw with rfl | ⟨rfl, rfl⟩
                          all_goals
                            go_wp2_with (go_at_call 14; refine (lamong_calls HPL.out.2.1 (pu : Int)).mono ?_; rw [HE2.out]; rintro e w4 ⟨rfl, rfl⟩)
                            go_meet
                            case rel => exact ⟨nx, mo, pu + 1, tk, L, V, V', by go_num, rfl, rfl, HI4, by omega, by omega, by omega, by omega, by omega⟩
                      · as_aux_lemma =>
                          have e1 : decide (r ≤ L.length) = false := by simp; omega
                          have hfn : (pu : Int) ∉ fu := fun h => hfull (.inr h)
                          have HE2 := hid (show decide ((pu : Int) ∈ fu) = false by simpa using hfn)
                          have HRL := hid (show L.length < r by omega)
                          have HFN := hid hfn
                          clear hfull hfn hlen3
                          go_upto_region 36 with (go_at_call 9; refine (dput_ok HI3.out.dv HY3.out (fun p hp hm => by cases hp; have h1 := HI2.out.low; have h2 := HI2.out.fr.size; simp at hm; omega) (by show pu < 1000000; omega) (by show nx < 1000000; omega) HRL.out HFN.out).mono ?_; rintro e w4 ⟨rfl, ⟨qb, qc, hd4, hq4⟩, hf4⟩; have HI4 : Hid (Inv W0 w4 g mb bb mm u1 u2 ⟨L ++ [((nx : Int) + 1, ys)], r, nx + 1, max mo (L.length + 1), pu + 1, tk, fu, fa, be⟩ (V ++ [((nx : Int) + 1, .slice (some ⟨qb, 0, none⟩) 68 qc)]) V' L) := hid (HI3.out.dev hd4 hf4 (fun p hp k hk => by rcases List.mem_append.1 hp with h | h; exact HI3.out.new p h k hk; rw [List.mem_singleton.1 h] at hk; cases hk; exact Nat.le_trans HI3.out.fr.size hq4)); have HPL := hid (HPLAN.out w4 HI4.out.fr); have HY4 := hid (Sl.fr2 HY3.out hf4 (fun hne p hp hm => by cases hp; have h1 := HI2.out.low; have h2 := HI2.out.fr.size; simp at hm; omega)); clear hd4 hf4 hq4)
                          have hlen4 := HI4.out.mp.len (P := Try.prog) (t := 44) (k := 3) (e := 22) Try.underlying44
                          rw [rowsG_len HI4.out.rows] at hlen4
                          have ct0 := cell_at HPL.out.1 0
                          have hno : ∀ p ∈ V', p.1 ≠ (nx : Int) + 1 := rowsG_none HI4.out.rows (fun p hp => by have := (HI3.out.dv.nums p hp).2; simp only at this; omega)
                          have hys : ys.length = 64 := HY3.out.len
                          obtain ⟨w5', hup, hD5, hf5⟩ := HI4.out.mp.add (P := Try.prog) (t := 44) (k := 3) (e := 22) Try.underlying44 Try.underlying3 (z := (nx : Int) + 1) (WalkArith.wf_i64 (by omega)) hno (.slice (some ⟨W2.heap.size, 0, none⟩) 64 64)
                          have HI5 := hid (HI4.out.mapped hD5 (rowsG_snoc (z := (nx : Int) + 1) (bs := ys) ⟨W2.heap.size, 64, rfl, HI2.out.fr.size, hys, HY4.out⟩ HI4.out.rows) hf5 HOF.out.1 HOF.out.2)
                          have hnx1 : IntKind.i64.wrap ((nx : Int) + 1) = (nx : Int) + 1 := IntWalk.i64_in _ (by omega)
                          clear hno hys hD5 hf5
                          go_wp2_with (go_at_call 14; refine (lamong_calls HPL.out.2.1 (pu : Int)).mono ?_; rw [HE2.out]; rintro e w4 ⟨rfl, rfl⟩)
                          go_meet
                          case rel => exact ⟨nx + 1, max mo (L.length + 1), pu + 1, tk, _, _, _, by go_num, rfl, by go_num, HI5, by simp, by omega, by omega, by omega, by omega⟩
                    · as_aux_lemma =>
                        have hl2 : ¬ ((nb : Int) = 64) := by omega
                        clear hlen3
                        go_wp2_with (go_at_call 9; refine (dput_size HY3.out h64).mono ?_; rintro e w3 ⟨rfl, rfl⟩)
                        go_meet
                        case rel => exact ⟨nx, mo, pu, tk, L, V, V', rfl, rfl, rfl, HI3, by omega, by omega, by omega, by omega, by omega⟩
                · have hzi := HZ.out
                  have hwz : -9223372036854775808 ≤ z ∧ z < 9223372036854775808 := by omega
                  have q5 : IntKind.i64.wrap ((tk : Int) + 1) = (tk : Int) + 1 := IntWalk.i64_in _ (by omega)
                  by_cases hfd : ∃ bs, (z, bs) ∈ L
                  · as_aux_lemma =>
                      obtain ⟨bs, hzL⟩ := hfd
                      have HZL := hid hzL
                      have HWZ := hid hwz
                      obtain ⟨fz, m, isb, hlk0, hfz, hbend⟩ := plan_look HLBE.out H3.out.2.2 (Nat.le_refl _) (tk : Int) (by omega)
                      have HLK := hid hlk0
                      have HFZB := hid hfz
                      have hfl : (L.filter (fun p => !(p.1 == z))).length ≤ L.length := List.length_filter_le _ _
                      clear hlk0 hzL hwz hzi hfz
                      by_cases hfm : (tk : Int) ∈ fa
                      · as_aux_lemma =>
                          have HFAM := hid hfm
                          have HE := hid (show decide ((tk : Int) ∈ fa) = true by simpa using hfm)
                          clear hfm hbend
                          go_upto_region 51 with (go_at_call 10; refine (dtake_fail HI2.out.dv HZL.out HWZ.out (by show tk < 1000000; omega) HFAM.out).mono ?_; rintro e w3 ⟨rfl, hd3, hf3⟩; have HI3 : Hid (Inv W0 w3 g mb bb mm u1 u2 ⟨L.filter (fun p => !(p.1 == z)), r, nx, mo, pu, tk + 1, fu, fa, be⟩ (V.filter (fun p => !(p.1 == z))) V' L) := hid (HI2.out.dev hd3 hf3 (filter_new HI2.out.new z)); clear hd3 hf3)
                          obtain ⟨b', c', hl, hbl, h64, hby⟩ := glook_some HI3.out.mp HI3.out.rows HZL.out HWZ.out
                          obtain ⟨w5', hdel, hD5, hf5⟩ := HI3.out.mp.drop (P := Try.prog) (t := 44) (k := 3) (e := 22) Try.underlying44 Try.underlying3 (z := z) (WalkArith.wf_i64 (by have := HWZ.out; omega)) 0
                          have HI5 := hid (HI3.out.mapped hD5 (rowsG_filter z HI3.out.rows) hf5 HOF.out.1 HOF.out.2)
                          have HPL := hid (HPLAN.out w5' HI5.out.fr)
                          have HF5 := hid hf5
                          have HBY5 := hid (Sl.fr2 hby hf5 (fun hne p hp hm => by cases hp; have h1 := HI3.out.low; have h2 := List.mem_singleton.1 hm; simp only at h2; omega))
                          have hlk := HLK.out w5' M HPL.out.2.2.2
                          have ct2 := cell_at HPL.out.1 2
                          clear hbl hby hD5 hf5
                          go_upto_region 58 with fail
                          have hk6 := (Below.refl w5'.heap.size w5').alloc (Nat.le_refl _) (.cells #[.int .i64 fz, .int .u32 (m.toNat : Int)] 25)
                          have ct1 := cell_at (heap_keep HPL.out.1 (.cells #[.int .i64 fz, .int .u32 (m.toNat : Int)] 25)) 1
                          have hbx6 := heap_new w5' (.cells #[.int .i64 fz, .int .u32 (m.toNat : Int)] 25)
                          have HI6 := hid (HI5.out.keep hk6)
                          have HFA6 := hid (HPL.out.2.2.1.keep hk6)
                          have HBY6 := hid (show Bytes _ (some ⟨b', 0, none⟩) 64 c' bs from Sl.keep HBY5.out hk6)
                          have HK6 := hid hk6
                          obtain ⟨X6, hX6⟩ : ∃ X6, w5'.heap.size = X6 := ⟨_, rfl⟩
                          obtain ⟨W6, hW6⟩ : ∃ W6, w5'.alloc (.cells #[.int .i64 fz, .int .u32 (m.toNat : Int)] 25) = W6 := ⟨_, rfl⟩
                          rw [hX6] at hbx6 ⊢
                          rw [hW6] at ct1 hbx6 HI6 HFA6 HBY6 HK6 ⊢
                          have xb0 := cell_at hbx6 0
                          have xb1 := cell_at hbx6 1
                          have H64 := hid h64
                          clear hk6 hbx6 hX6 hW6 ct2 hlk hl hdel h64
                          go_wp2_with (go_at_call 14; refine (lamong_calls HFA6.out (tk : Int)).mono ?_; rw [HE.out]; rintro e W6 ⟨rfl, rfl⟩)
                          go_meet
                          case rel => exact ⟨nx, mo, pu, tk + 1, _, _, _, rfl, by go_num, rfl, HI6, by omega, by omega, by omega, by omega, by omega⟩
                      · as_aux_lemma =>
                          have HFAM := hid hfm
                          have HE := hid (show decide ((tk : Int) ∈ fa) = false by simpa using hfm)
                          clear hfm
                          rcases hbend with ⟨rfl, hnb⟩ | ⟨rfl, hbn⟩
                          · as_aux_lemma =>
                              have HNB := hid (show ∀ p ∈ be, p.1 ≠ (tk : Int) from fun p hp => hnb p ((HBND.out p).1 hp))
                              clear hnb
                              go_upto_region 51 with (go_at_call 10; refine (dtake_ok HI2.out.dv HZL.out HWZ.out (by show tk < 1000000; omega) HFAM.out HNB.out).mono ?_; rintro e w3 ⟨gv, rfl, hv3, hd3, hf3⟩; have HI3 : Hid (Inv W0 w3 g mb bb mm u1 u2 ⟨L.filter (fun p => !(p.1 == z)), r, nx, mo, pu, tk + 1, fu, fa, be⟩ (V.filter (fun p => !(p.1 == z))) V' L) := hid (HI2.out.dev hd3 hf3 (filter_new HI2.out.new z)); obtain ⟨av, cv, rfl, _⟩ := hv3.bytes; have HV3 := hid hv3; clear hv3 hd3 hf3)
                              obtain ⟨b', c', hl, hbl, h64, hby⟩ := glook_some HI3.out.mp HI3.out.rows HZL.out HWZ.out
                              obtain ⟨w5', hdel, hD5, hf5⟩ := HI3.out.mp.drop (P := Try.prog) (t := 44) (k := 3) (e := 22) Try.underlying44 Try.underlying3 (z := z) (WalkArith.wf_i64 (by have := HWZ.out; omega)) 0
                              have HI5 := hid (HI3.out.mapped hD5 (rowsG_filter z HI3.out.rows) hf5 HOF.out.1 HOF.out.2)
                              have HPL := hid (HPLAN.out w5' HI5.out.fr)
                              have HF5 := hid hf5
                              have HBY5 := hid (Sl.fr2 hby hf5 (fun hne p hp hm => by cases hp; have h1 := HI3.out.low; have h2 := List.mem_singleton.1 hm; simp only at h2; omega))
                              have hlk := HLK.out w5' M HPL.out.2.2.2
                              have ct2 := cell_at HPL.out.1 2
                              clear hbl hby hD5 hf5
                              go_upto_region 58 with fail
                              have hk6 := (Below.refl w5'.heap.size w5').alloc (Nat.le_refl _) (.cells #[.int .i64 fz, .int .u32 (m.toNat : Int)] 25)
                              have ct1 := cell_at (heap_keep HPL.out.1 (.cells #[.int .i64 fz, .int .u32 (m.toNat : Int)] 25)) 1
                              have hbx6 := heap_new w5' (.cells #[.int .i64 fz, .int .u32 (m.toNat : Int)] 25)
                              have HI6 := hid (HI5.out.keep hk6)
                              have HFA6 := hid (HPL.out.2.2.1.keep hk6)
                              have HBY6 := hid (show Bytes _ (some ⟨b', 0, none⟩) 64 c' bs from Sl.keep HBY5.out hk6)
                              have HK6 := hid hk6
                              obtain ⟨X6, hX6⟩ : ∃ X6, w5'.heap.size = X6 := ⟨_, rfl⟩
                              obtain ⟨W6, hW6⟩ : ∃ W6, w5'.alloc (.cells #[.int .i64 fz, .int .u32 (m.toNat : Int)] 25) = W6 := ⟨_, rfl⟩
                              rw [hX6] at hbx6 ⊢
                              rw [hW6] at ct1 hbx6 HI6 HFA6 HBY6 HK6 ⊢
                              have xb0 := cell_at hbx6 0
                              have xb1 := cell_at hbx6 1
                              have H64 := hid h64
                              clear hk6 hbx6 hX6 hW6 ct2 hlk hl hdel h64
                              have hs1 := run_str (P := Try.prog) (OwnB.bytesAt ((OwnB.fr' HV3.out HF5.out (HI2.out.fr.size) HI2.out.low.2.2.1).keep HK6.out)) 22 9 5 Try.underlying22 Try.underlying5 Try.underlying9
                              have hs2 := run_str (P := Try.prog) HBY6.out 22 9 5 Try.underlying22 Try.underlying5 Try.underlying9
                              go_wp2_with (go_at_call 14; refine (lamong_calls HFA6.out (tk : Int)).mono ?_; rw [HE.out]; rintro e W6 ⟨rfl, rfl⟩)
                              go_meet
                              case rel => exact ⟨nx, mo, pu, tk + 1, _, _, _, rfl, by go_num, rfl, HI6, by omega, by omega, by omega, by omega, by omega⟩
                          · as_aux_lemma =>
                              have HBN := hid ((HBND.out _).2 hbn)
                              clear hbn
                              go_upto_region 51 with (go_at_call 10; refine (dtake_exact2 HI2.out.dv HZL.out HWZ.out (by show tk < 1000000; omega) HFAM.out HFZB.out HBN.out).mono ?_; rintro e w3 ⟨gv, ez, Y, rfl, hY, htb, hd3, hf3⟩; have HI3 : Hid (Inv W0 w3 g mb bb mm u1 u2 ⟨L.filter (fun p => !(p.1 == z)), r, nx, mo, pu, tk + 1, fu, fa, be⟩ (V.filter (fun p => !(p.1 == z))) V' L) := hid (HI2.out.dev hd3 hf3 (filter_new HI2.out.new z)); have HYB := hid hY; have HTB := hid htb; clear hY htb hd3 hf3)
                              obtain ⟨b', c', hl, hbl, h64, hby⟩ := glook_some HI3.out.mp HI3.out.rows HZL.out HWZ.out
                              obtain ⟨w5', hdel, hD5, hf5⟩ := HI3.out.mp.drop (P := Try.prog) (t := 44) (k := 3) (e := 22) Try.underlying44 Try.underlying3 (z := z) (WalkArith.wf_i64 (by have := HWZ.out; omega)) 0
                              have HI5 := hid (HI3.out.mapped hD5 (rowsG_filter z HI3.out.rows) hf5 HOF.out.1 HOF.out.2)
                              have HPL := hid (HPLAN.out w5' HI5.out.fr)
                              have HF5 := hid hf5
                              have HBY5 := hid (Sl.fr2 hby hf5 (fun hne p hp hm => by cases hp; have h1 := HI3.out.low; have h2 := List.mem_singleton.1 hm; simp only at h2; omega))
                              have hlk := HLK.out w5' M HPL.out.2.2.2
                              have ct2 := cell_at HPL.out.1 2
                              clear hbl hby hD5 hf5
                              go_upto_region 58 with fail
                              have hk6 := (Below.refl w5'.heap.size w5').alloc (Nat.le_refl _) (.cells #[.int .i64 fz, .int .u32 (m.toNat : Int)] 25)
                              have ct1 := cell_at (heap_keep HPL.out.1 (.cells #[.int .i64 fz, .int .u32 (m.toNat : Int)] 25)) 1
                              have hbx6 := heap_new w5' (.cells #[.int .i64 fz, .int .u32 (m.toNat : Int)] 25)
                              have HI6 := hid (HI5.out.keep hk6)
                              have HFA6 := hid (HPL.out.2.2.1.keep hk6)
                              have HBY6 := hid (show Bytes _ (some ⟨b', 0, none⟩) 64 c' bs from Sl.keep HBY5.out hk6)
                              have HK6 := hid hk6
                              obtain ⟨X6, hX6⟩ : ∃ X6, w5'.heap.size = X6 := ⟨_, rfl⟩
                              obtain ⟨W6, hW6⟩ : ∃ W6, w5'.alloc (.cells #[.int .i64 fz, .int .u32 (m.toNat : Int)] 25) = W6 := ⟨_, rfl⟩
                              rw [hX6] at hbx6 ⊢
                              rw [hW6] at ct1 hbx6 HI6 HFA6 HBY6 HK6 ⊢
                              have xb0 := cell_at hbx6 0
                              have xb1 := cell_at hbx6 1
                              have H64 := hid h64
                              clear hk6 hbx6 hX6 hW6 ct2 hlk hl hdel h64
                              rcases HTB.out with ⟨hR, rfl, rfl⟩ | ⟨hR, rfl, hv3⟩
                              · have HR := hid hR
                                clear hR
                                go_wp2_with (first
                                  | (go_at_call 14; refine (lamong_calls HFA6.out (tk : Int)).mono ?_; rw [HE.out]; rintro e W6 ⟨rfl, rfl⟩)
                                  | (go_at_call 16; refine (bent_calls HBY6.out (by decide) fz HFZB.out m).mono ?_; rintro e w7 ⟨v7, Y', rfl, ho7, hy7, hb7⟩; obtain rfl := benti_one hy7 HYB.out; obtain ⟨a7, c7, rfl, hbb7⟩ := ho7.bytes; have HB7 := hid hbb7; have HI7 := hid (HI6.out.keep hb7); clear ho7 hy7 hb7 hbb7)
                                  | (go_at_call 15; refine (right_calls HB7.out).mono ?_; rw [HR.out]; rintro e w7 ⟨rfl, rfl⟩))
                                go_meet
                                case rel => exact ⟨nx, mo, pu, tk + 1, _, _, _, rfl, by go_num, rfl, HI7, by omega, by omega, by omega, by omega, by omega⟩
                              · have HR := hid hR
                                obtain ⟨av, cv, rfl, _⟩ := hv3.bytes
                                have HV6 := hid ((OwnB.fr' hv3 HF5.out (HI2.out.fr.size) HI2.out.low.2.2.1).keep HK6.out)
                                clear hR hv3
                                go_upto_region 60 with (first
                                  | (go_at_call 14; refine (lamong_calls HFA6.out (tk : Int)).mono ?_; rw [HE.out]; rintro e W6 ⟨rfl, rfl⟩)
                                  | (go_at_call 16; refine (bent_calls HBY6.out (by decide) fz HFZB.out m).mono ?_; rintro e w7 ⟨v7, Y', rfl, ho7, hy7, hb7⟩; obtain rfl := benti_one hy7 HYB.out; obtain ⟨a7, c7, rfl, hbb7⟩ := ho7.bytes; have HB7 := hid hbb7; have HI7 := hid (HI6.out.keep hb7); have hs1 := run_str (P := Try.prog) (OwnB.bytesAt (HV6.out.keep hb7)) 22 9 5 Try.underlying22 Try.underlying5 Try.underlying9; have hs2 := run_str (P := Try.prog) (Bytes.keep HBY6.out hb7) 22 9 5 Try.underlying22 Try.underlying5 Try.underlying9; clear ho7 hy7 hb7 hbb7)
                                  | (go_at_call 15; refine (right_calls HB7.out).mono ?_; rw [HR.out]; rintro e w7 ⟨rfl, rfl⟩))
                                go_wp2
                                go_meet
                                case rel => exact ⟨nx, mo, pu, tk + 1, _, _, _, rfl, by go_num, rfl, HI7, by omega, by omega, by omega, by omega, by omega⟩
                  · as_aux_lemma =>
                      have hzn : ∀ p ∈ L, p.1 ≠ z := fun p hp e => hfd ⟨p.2, e ▸ hp⟩
                      have hl := glook_none HI2.out.mp HI2.out.rows hzn hwz
                      obtain ⟨w5', hdel, hD5, hf5⟩ := HI2.out.mp.drop (P := Try.prog) (t := 44) (k := 3) (e := 22) Try.underlying44 Try.underlying3 (z := z) (WalkArith.wf_i64 (by omega)) 0
                      rw [filter_none (rowsG_none HI2.out.rows hzn)] at hD5
                      have HI5 := hid (HI2.out.mapped hD5 HI2.out.rows hf5 HOF.out.1 HOF.out.2)
                      have HZN := hid hzn
                      have HWZ := hid hwz
                      clear hfd hzn hwz hD5 hf5 hzi
                      go_wp2_with (go_at_call 10; refine (dtake_none HI2.out.dv HZN.out HWZ.out).mono ?_; rintro e W2 ⟨rfl, rfl⟩)
                      go_meet
                      case rel => exact ⟨nx, mo, pu, tk, L, V, V', rfl, rfl, rfl, HI5, by omega, by omega, by omega, by omega, by omega⟩
                · have hzi := HZ.out
                  have hwz : -9223372036854775808 ≤ z ∧ z < 9223372036854775808 := by omega
                  by_cases hfd : ∃ bs, (z, bs) ∈ L
                  · as_aux_lemma =>
                      obtain ⟨bs, hzL⟩ := hfd
                      obtain ⟨b', c', hl, hbl, h64, hby⟩ := glook_some HI2.out.mp HI2.out.rows hzL hwz
                      obtain ⟨w5', hdel, hD5, hf5⟩ := HI2.out.mp.drop (P := Try.prog) (t := 44) (k := 3) (e := 22) Try.underlying44 Try.underlying3 (z := z) (WalkArith.wf_i64 (by omega)) 0
                      have HI5 := hid (HI2.out.mapped hD5 (rowsG_filter z HI2.out.rows) hf5 HOF.out.1 HOF.out.2)
                      have HZL := hid hzL
                      have HWZ := hid hwz
                      have hfl : (L.filter (fun p => !(p.1 == z))).length ≤ L.length := List.length_filter_le _ _
                      clear hzL hwz hD5 hf5 hzi hbl h64 hby
                      go_wp2_with (go_at_call 17; refine (ddrop_exact HI5.out.dv HZL.out HWZ.out).mono ?_; rintro e w6 ⟨rfl, hd6, hf6⟩; have HI6 : Hid (Inv W0 w6 g mb bb mm u1 u2 ⟨L.filter (fun p => !(p.1 == z)), r, nx, mo, pu, tk, fu, fa, be⟩ (V.filter (fun p => !(p.1 == z))) (V'.filter (fun p => !(p.1 == z))) (L.filter (fun p => !(p.1 == z)))) := hid (HI5.out.dev hd6 hf6 (filter_new HI5.out.new z)); clear hd6 hf6)
                      go_meet
                      case rel => exact ⟨nx, mo, pu, tk, _, _, _, rfl, rfl, rfl, HI6, by omega, by omega, by omega, by omega, by omega⟩
                  · as_aux_lemma =>
                      have hzn : ∀ p ∈ L, p.1 ≠ z := fun p hp e => hfd ⟨p.2, e ▸ hp⟩
                      have hl := glook_none HI2.out.mp HI2.out.rows hzn hwz
                      obtain ⟨w5', hdel, hD5, hf5⟩ := HI2.out.mp.drop (P := Try.prog) (t := 44) (k := 3) (e := 22) Try.underlying44 Try.underlying3 (z := z) (WalkArith.wf_i64 (by omega)) 0
                      rw [filter_none (rowsG_none HI2.out.rows hzn)] at hD5
                      have HI5 := hid (HI2.out.mapped hD5 HI2.out.rows hf5 HOF.out.1 HOF.out.2)
                      have HZN := hid hzn
                      have HWZ := hid hwz
                      clear hfd hzn hwz hD5 hf5 hzi
                      go_wp2_with (go_at_call 17; refine (ddrop_none HI5.out.dv HZN.out HWZ.out).mono ?_; rintro e w5' ⟨rfl, rfl⟩)
                      go_meet
                      case rel => exact ⟨nx, mo, pu, tk, L, V, V', rfl, rfl, rfl, HI5, by omega, by omega, by omega, by omega, by omega⟩
              case rest =>
                obtain ⟨nx', mo', pu', tk', L', V1, V1', rfl, rfl, rfl, HI3, hmx, hmn', hpk', htk', hnk'⟩ := hcut
                have hlm' : L'.length ≤ mo' := by omega
                have hV1 : V1'.length = L'.length := rowsG_len HI3.out.rows
                have hlen := HI3.out.mp.len (P := Try.prog) (t := 44) (k := 3) (e := 22) Try.underlying44
                rw [hV1] at hlen
                have hmx2 : (if mo < L'.length then (L'.length : Int) else (mo : Int)) = (mo' : Int) := by split <;> omega
                have HMX := hid hmx
                clear hmx hV1
                have HU := hid (show Calls Try.prog 11 #[.pointer (some ⟨g, 0, none⟩)] wc (fun e w' => e = .returned (.int .i64 (L'.length : Int)) ∧ wc = w') from (dused_calls HI3.out.dv).mono (fun e w' h => ⟨h.1, h.2.symm⟩))
                have HMO := hid (show Calls Try.prog 13 #[.pointer (some ⟨g, 0, none⟩)] wc (fun e w' => e = .returned (.int .i64 (mo' : Int)) ∧ wc = w') from (dmost_calls HI3.out.dv).mono (fun e w' h => ⟨h.1, h.2.symm⟩))
                have HRO := hid (show Calls Try.prog 18 #[.pointer (some ⟨g, 0, none⟩)] wc (fun e w' => e = .returned (.int .i64 (r : Int)) ∧ wc = w') from (droom_calls HI3.out.dv).mono (fun e w' h => ⟨h.1, h.2.symm⟩))
                go_wp2_with (first
                  | (go_at_call 11; refine HU.out.mono ?_; rintro e w12 ⟨rfl, rfl⟩)
                  | (go_at_call 13; refine HMO.out.mono ?_; rintro e w12 ⟨rfl, rfl⟩)
                  | (go_at_call 18; refine HRO.out.mono ?_; rintro e w12 ⟨rfl, rfl⟩))
                go_roundw
                case rel => exact ⟨k + 1, nx', mo', pu', tk', L', V1, V1', by omega, by go_num, rfl, rfl, rfl, rfl, HI3, hlm', hmn', hpk', htk', hnk'⟩
                case measure => simp [intOf]; omega
            · obtain rfl : k = n4 := by omega
              go_wp2
              go_ret
              exact ⟨rfl, Fr.below HP0.out.below HI.out.fr (fun k hk => by have := HWB.out; simp at hk; omega) HP0.out.base⟩
  · obtain ⟨b1, b2, b3, b4, e1, e2, e3, e4, hw⟩ : ∃ b1 b2 b3 b4, decide ((20 : Int) < (n1 : Int)) = b1 ∧ decide ((20 : Int) < (n2 : Int)) = b2 ∧ decide ((20 : Int) < (n3 : Int)) = b3 ∧ decide ((60 : Int) < (n4 : Int)) = b4 ∧ (b1 = true ∨ (b1 = false ∧ b2 = true) ∨ (b1 = false ∧ b2 = false ∧ b3 = true) ∨ (b1 = false ∧ b2 = false ∧ b3 = false ∧ b4 = true)) := ⟨_, _, _, _, rfl, rfl, rfl, rfl, by simp only [decide_eq_true_eq, decide_eq_false_iff_not]; omega⟩
    clear hs
    rcases hw with rfl | ⟨rfl, rfl⟩ | ⟨rfl, rfl, rfl⟩ | ⟨rfl, rfl, rfl, rfl⟩
    all_goals
      go_wp2_with (go_at_call 7; refine (awake06 _).mono ?_; rintro e w1 ⟨rfl, hb1⟩; have HB1 := hid hb1; clear hb1)
      go_ret
      exact ⟨rfl, HB1.out⟩
end Go.Proofs.Ytbandclbnlbkjaa
