/-
  StoreTells: the law's walk.
-/
import Derived.Test.YtbandclbnlbkjaaDevPlan
import Derived.Test.YtbandclbnlbkjaaDevAwake
import Derived.Test.YtbandclbnlbkjaaOpenBend
import Derived.Test.YtbandclbnlbkjaaStr
import Derived.Outline
namespace Go.Proofs.Ytbandclbnlbkjaa
open Go.RowKit
set_option linter.unusedVariables false
set_option linter.unusedSimpArgs false

theorem FreshP.low {B B' : Nat} {v : Value} {zs : List Int} (h : FreshP B' v zs) (hb : B ≤ B') : FreshP B v zs := by
  obtain ⟨a, n, c, rfl, h1⟩ := h
  exact ⟨a, n, c, rfl, fun hn p hp => Nat.le_trans hb (h1 hn p hp)⟩
theorem cell_fr {S : List Nat} {w w' : World} {b o : Nat} {u : Value} (h : w.cell? ⟨b, o, none⟩ = some u) (hf : Fr S w w') (hn : b ∉ S) : w'.cell? ⟨b, o, none⟩ = some u := by
  have hl : b < w.heap.size := World.block_lt_of_cell? w (a := ⟨b, o, none⟩) h
  unfold World.cell? at *
  rw [hf.block b hl hn]; exact h
theorem froz_fr {S : List Nat} {w w' : World} {b o : Nat} (hl : b < w.heap.size) (hf : Fr S w w') (hn : b ∉ S) : w'.frozen? ⟨b, o, none⟩ = w.frozen? ⟨b, o, none⟩ := by
  unfold World.frozen?
  rw [hf.block b hl hn]
theorem cells_of {w : World} {b o : Nat} {u : Value} (h : w.cell? ⟨b, o, none⟩ = some u) : ∃ cs e f, w.heap[b]? = some (.cells cs e f) ∧ cs[o]? = some u := by
  unfold World.cell? at h
  cases hb : w.heap[b]? with
  | none => simp [hb] at h
  | some obj =>
    cases obj with
    | cells cs e f => exact ⟨cs, e, f, rfl, by simpa [hb] using h⟩
    | _ => simp [hb] at h
theorem set_cell {w : World} {b o : Nat} {u : Value} (h : w.cell? ⟨b, o, none⟩ = some u) (v : Value) : (w.setCell ⟨b, o, none⟩ v).cell? ⟨b, o, none⟩ = some v := by
  obtain ⟨cs, e, f, hh, hc⟩ := cells_of h
  rw [cell_at (heap_set (a := ⟨b, o, none⟩) hh rfl v) o]
  have : o < cs.size := by
    rcases Nat.lt_or_ge o cs.size with h | h
    · exact h
    · rw [Array.getElem?_eq_none h] at hc; cases hc
  simp [this]
/-- A cell that is turned, and turned back. -/
theorem turn_back {S : List Nat} {w w' : World} {b o : Nat} {u v : Value} (h : w.cell? ⟨b, o, none⟩ = some u) (hf : Fr S (w.setCell ⟨b, o, none⟩ v) w') (hb : b ∉ S) : Fr S w (w'.setCell ⟨b, o, none⟩ u) := by
  obtain ⟨cs, e, f, hh, hc⟩ := cells_of h
  have h1 := heap_set (a := ⟨b, o, none⟩) hh rfl v
  have h2 := hf.heap h1 hb
  have h3 := heap_set (a := ⟨b, o, none⟩) h2 rfl u
  have h4 : (cs.setIfInBounds o v).setIfInBounds o u = cs := by
    apply Array.ext
    · simp
    · intro i hi1 hi2
      have hq : ((cs.setIfInBounds o v).setIfInBounds o u)[i]? = cs[i]? := by
        by_cases e : o = i
        · subst e
          rw [hc]
          simp [hi2]
        · rw [Array.getElem?_setIfInBounds_ne e, Array.getElem?_setIfInBounds_ne e]
      rw [Array.getElem?_eq_getElem hi1, Array.getElem?_eq_getElem hi2] at hq
      exact Option.some.inj hq
  rw [h4] at h3
  have hsz : (w.setCell ⟨b, o, none⟩ v).heap.size = w.heap.size := by simp [World.setCell]
  have hsz' : (w'.setCell ⟨b, o, none⟩ u).heap.size = w'.heap.size := by simp [World.setCell]
  refine ⟨hf.os, hf.tape, hf.output, by rw [hsz', ← hsz]; exact hf.size, fun k hk hn => ?_⟩
  by_cases e : k = b
  · subst e; rw [h3, hh]
  · rw [heap_set_ne w' (a := ⟨b, o, none⟩) e, hf.block k (by rw [hsz]; exact hk) hn, heap_set_ne w (a := ⟨b, o, none⟩) e]
/-- What the first Take tells. -/
def Tells (fail : Bool) (w w' : World) (bs : List UInt8) (v : Value) (z : Int) : Prop := (z = 10 ∧ v = .slice none 0 0) ∨ (z = 0 ∧ fail = false ∧ OwnB w' w.heap.size v bs)
theorem tells_take {w : World} {g mb bb : Nat} {v1 v2 : Value} {V : List (Int × Value)} {be : List (Int × Value)} {bs : List UInt8} {fail : Bool} {n mo pu : Nat} (h : Dvx w g mb bb v1 v2 V ⟨[(1, bs)], 3, n, mo, pu, 0, [], (if fail = true then [0] else []), be⟩) {x : BendR} (hx : x.good) (hbe : ∀ p, p ∈ be ↔ p ∈ [((0 : Int), bv x.from_ x.mask)]) :
    Calls Try.prog 10 #[.pointer (some ⟨g, 0, none⟩), .int .i64 1] w fun e w' => ∃ v z, e = .returned (.tuple #[v, .int .i64 z]) ∧ Tells fail w w' bs v z ∧ Dvx w' g mb bb v1 v2 (V.filter (fun p => !(p.1 == 1))) ⟨[], 3, n, mo, pu, 1, [], (if fail = true then [0] else []), be⟩ ∧ Fr [g, mb] w w' := by
  cases fail with
  | true =>
    refine (dtake_fail h (z := 1) (bs := bs) (by simp) (by decide) (by simp) (by simp)).mono ?_
    rintro e w' ⟨rfl, hd, hf⟩
    exact ⟨_, _, rfl, .inl ⟨rfl, rfl⟩, hd, hf⟩
  | false =>
    have wf := bounds_i64 hx.1
    obtain ⟨m, hm⟩ : ∃ m : Crc.B32, x.mask = (m.toNat : Int) := ⟨BitVec.ofNat 32 x.mask.toNat, by
      have := bounds_u32 hx.2
      rw [BitVec.toNat_ofNat, Nat.mod_eq_of_lt (by omega)]; omega⟩
    refine (dtake_bent h (z := 1) (bs := bs) (by simp) (by decide) (by simp) (by simp) (f := x.from_) (m := m) (by omega) (by
      have := (hbe (0, bv x.from_ x.mask)).2 (by simp)
      rw [bv, hm] at this
      exact this)).mono ?_
    rintro e w' ⟨he, hd, hf⟩
    rcases he with rfl | ⟨v, rfl, hv⟩
    · exact ⟨_, _, rfl, .inl ⟨rfl, rfl⟩, hd, hf⟩
    · exact ⟨_, _, rfl, .inr ⟨rfl, rfl, hv⟩, hd, hf⟩

set_option maxRecDepth 10000 in
set_option maxHeartbeats 4000000 in
theorem tells_walk {w : World} {a : Option Addr} {l c : Nat} {bs : List UInt8} (hm : Bytes w a l c bs) (hfz : ∀ b off, a = some ⟨b, off, none⟩ → 0 < l → w.frozen? ⟨b, off, none⟩ = false) {x : BendR} (hx : x.good) (fail : Bool) :
    Calls Try.prog 3 #[.slice a l c, .agg #[.int .i64 x.from_, .int .u32 x.mask], .bool fail] w fun e w' => e = .returned (.bool true) ∧ Below w.heap.size w w' := by
  have hmm := @run_makeMap Try.prog
  have HMM := hid hmm
  have HM := hid hm
  have hk0 := (Below.refl w.heap.size w).alloc (Nat.le_refl _) (.cells #[.int .i64 x.from_, .int .u32 x.mask] 25)
  have h0 := heap_new w (.cells #[.int .i64 x.from_, .int .u32 x.mask] 25)
  obtain ⟨B, hB⟩ : ∃ B, w.heap.size = B := ⟨_, rfl⟩
  have HBE := hid hB
  rw [hB] at hk0 h0
  have HK0 := hid hk0
  have HB0 := hid h0
  have HFZ := hid hfz
  have HX := hid hx
  clear hmm hm hk0 h0 hfz hx
  go_enter Try.func3, Try.ntmps3
  by_cases hl : l = 64
  · subst hl
    go_upto_region 5 with (go_at_call 7; refine (awake06 _).mono ?_; rintro e w1 ⟨rfl, hb1⟩; have HB1 := hid (HK0.out.trans (hb1.mono (by rw [← HBE.out]; exact HK0.out.size))); have HX1 := hid ((Fr.ofBelow hb1).heap HB0.out (by simp)); clear hb1)
    have c0 := cell_at (heap_keep HX1.out (.map #[] 0)) 0
    have c1 := cell_at (heap_keep HX1.out (.map #[] 0)) 1
    have hmm := HMM.out
    obtain ⟨w3, hup, hD3, hf3⟩ := DictAt.add (P := Try.prog) (w := w1.alloc (.map #[] 0)) (b := w1.heap.size) (L := []) (DictAt.made w1) Try.underlying27 Try.underlying3 (z := 0) (by decide) (fun p h => by cases h) (.agg #[.int .i64 x.from_, .int .u32 x.mask])
    go_upto_region 6 with fail
    have hk3 : Below w1.heap.size w1 w3 := Fr.below ((Below.refl w1.heap.size w1).alloc (Nat.le_refl _) (.map #[] 0)) hf3 (fun k hk => by rw [List.mem_singleton.1 hk]; exact Nat.le_refl _) (by simp)
    have hB1 : B ≤ w1.heap.size := by rw [← HBE.out]; exact HB1.out.size
    have hk4 : Below w1.heap.size w1 (w3.alloc (.cells #[.slice none 0 0, .slice none 0 0, .map (some w1.heap.size)] 30)) := hk3.alloc hk3.size _
    have HB4 := hid (HB1.out.trans (hk4.mono hB1))
    have hd4 := hD3.keep ((Below.refl w3.heap.size w3).alloc (Nat.le_refl _) (.cells #[.slice none 0 0, .slice none 0 0, .map (some w1.heap.size)] 30))
    have hp4 := heap_new w3 (.cells #[.slice none 0 0, .slice none 0 0, .map (some w1.heap.size)] 30)
    have hmp : w1.heap.size < w3.heap.size := hD3.lt
    obtain ⟨M, hM⟩ : ∃ M, w1.heap.size = M := ⟨_, rfl⟩
    obtain ⟨PB, hPB⟩ : ∃ PB, w3.heap.size = PB := ⟨_, rfl⟩
    rw [hM] at hd4 hp4 HB4 hmp ⊢
    rw [hPB] at hp4 hmp ⊢
    obtain ⟨W4, hW4⟩ : ∃ W4, w3.alloc (.cells #[.slice none 0 0, .slice none 0 0, .map (some M)] 30) = W4 := ⟨_, rfl⟩
    rw [hW4] at hd4 hp4 HB4 ⊢
    have HD4 := hid hd4
    have HP4 := hid hp4
    have HMP := hid (show B ≤ M ∧ M < PB from ⟨by omega, hmp⟩)
    clear c0 c1 hmm hup hD3 hf3 hk3 hk4 hB1 hd4 hp4 hmp hM hPB hW4
    go_upto_if 28 with fail
    go_cut [] from 28 to 30 (fun wx => ∃ a2 n2, wx.heap[PB]? = some (.cells #[.slice none 0 0, .slice a2 n2 n2, .map (some M)] 30 (0, 0)) ∧ Ints wx a2 n2 n2 (if fail = true then [0] else []) ∧ n2 ≤ 1000 ∧ DictAt wx M [((0 : Int), .agg #[.int .i64 x.from_, .int .u32 x.mask])] ∧ Below B w wx)
    case first =>
      cases fail with
      | true =>
        have hk := (Below.refl W4.heap.size W4).alloc (Nat.le_refl _) (.cells #[.int .i64 0] 3)
        have hp5 := heap_keep HP4.out (.cells #[.int .i64 0] 3)
        have c1 := cell_at hp5 1
        have z1 := free_at hp5 1
        go_wp2
        go_meet
        case rel =>
          have hf := (Fr.refl [PB] (W4.alloc (.cells #[.int .i64 0] 3))).set ⟨PB, 1, none⟩ (.inl (by simp)) (.slice (some ⟨W4.heap.size, 0, none⟩) 1 1)
          have hn := heap_new W4 (.cells #[.int .i64 0] 3)
          have hpl := heap_lt HP4.out
          refine ⟨_, 1, heap_set (a := ⟨PB, 1, none⟩) hp5 rfl _, ?_, by decide, (HD4.out.keep hk).fr hf (by have := HMP.out; simp; omega), Fr.below (HB4.out.alloc (by rw [← HBE.out]; exact HB4.out.size) _) hf (fun k hk => by rw [List.mem_singleton.1 hk]; have := HMP.out; omega) (by simp; have := HB4.out.size; omega)⟩
          exact Sl.of_heap (hf.heap hn (by simp; omega)) rfl rfl (Nat.le_refl _) (by decide)
      | false =>
        go_wp2
        go_meet
        case rel => exact ⟨none, 0, HP4.out, Sl.nil_any _ _, by decide, HD4.out, HB4.out⟩
    case rest =>
      obtain ⟨a2, n2, hp, hI, hn2, hd, hb⟩ := hcut
      have c0 := cell_at hp 0
      have c1 := cell_at hp 1
      have c2 := cell_at hp 2
      have HI := hid hI
      have HN2 := hid hn2
      have HD := hid hd
      have HB5 := hid hb
      clear hp hI hn2 hd hb
      go_upto_region 9 with (go_at_call 8; refine (dnew_plan (a1 := none) (n1 := 0) (c1 := 0) (zs1 := []) (Sl.nil_any wc 1) HI.out (by decide) HN2.out HD.out (fun p hp => by rw [List.mem_singleton.1 hp]; exact ⟨_, _, rfl⟩) 3).mono ?_; rintro e w5 ⟨g, mb, bb, v1, v2, be, rfl, hdv, hbe, hlow, hf1, hf2, hb5⟩; have HDV := hid hdv; have HBND := hid hbe; have HF1 := hid hf1; have HF2 := hid hf2; have hbc : B ≤ wc.heap.size := (by rw [← HBE.out]; exact HB5.out.size); have HLOW := hid (show B ≤ g ∧ B ≤ mb ∧ B ≤ bb from ⟨Nat.le_trans hbc hlow.1, Nat.le_trans hbc hlow.2.1, Nat.le_trans hbc hlow.2.2⟩); have HB6 := hid (HB5.out.trans (hb5.mono hbc)); have HBC := hid hbc; clear hdv hbe hlow hf1 hf2 hb5 hbc)
      clear c0 c1 c2
      have hlen := HM.out.len
      obtain ⟨b0, off0, rfl, hcell⟩ := Bytes.at HM.out 0 (by omega)
      clear hcell
      have hb0 : b0 < B := by
        obtain ⟨b', off', e, hlt, _⟩ := Sl.row HM.out (by intro e; have := congrArg List.length e; simp at this; rw [this] at hlen; cases hlen)
        cases e
        rw [← HBE.out]; exact hlt
      obtain ⟨y, hy⟩ : ∃ y, bs[0]? = some y := ⟨_, List.getElem?_eq_getElem (by omega)⟩
      have HB0L := hid hb0
      have HY := hid hy
      have HLN := hid hlen
      have HDV0 : Hid (Dvx w5 g mb bb v1 v2 [] ⟨[], 3, 0, 0, 0, 0, [], (if fail = true then [0] else []), be⟩) := HDV
      have HM5 := hid (HM.out.keep (show Below w.heap.size w w5 by rw [HBE.out]; exact HB6.out))
      clear hb0 hy hlen HDV
      go_upto_region 10 with (go_at_call 9; refine (dput_ok HDV0.out HM5.out (fun p hp hm => by cases hp; have := HLOW.out; have := HB0L.out; simp at hm; omega) (by simp) (by simp) (by simp) (by simp)).mono ?_; rintro e w6 ⟨he, ⟨q, c', hdq, hq⟩, hf6⟩; replace he : e = .returned (.tuple #[.int .i64 1, .int .i64 0]) := he; subst he; have HD6 : Hid (Dvx w6 g mb bb v1 v2 [(1, .slice (some ⟨q, 0, none⟩) 68 c')] ⟨[(1, bs)], 3, 1, 1, 1, 0, [], (if fail = true then [0] else []), be⟩) := hid hdq; have HQ := hid (show B ≤ q from Nat.le_trans (by rw [← HBE.out]; exact HB6.out.size) hq); have HM6 := hid (Sl.fr2 HM5.out hf6 (fun hne p hp hm => by cases hp; have := HLOW.out; have := HB0L.out; simp at hm; omega)); have HB7 := hid (Fr.below HB6.out hf6 (fun k hk => by have := HLOW.out; simp at hk; omega) (by rw [← HBE.out]; exact HB6.out.size)); clear hdq hq hf6)
      have hc6 : w6.cell? ⟨b0, off0, none⟩ = some (.int .u8 (y.toNat : Int)) := by
        obtain ⟨h1, h2⟩ := List.getElem?_eq_some_iff.1 HY.out
        have := Bytes.cell HM6.out 0 h1
        rw [h2] at this
        simpa using this
      have hz6 : w6.frozen? ⟨b0, off0, none⟩ = false := by
        have := HFZ.out b0 off0 rfl (by decide)
        unfold World.frozen? at this ⊢
        rw [HB7.out.block b0 HB0L.out]
        exact this
      obtain ⟨y1, hy1, hy2⟩ : ∃ y1 : UInt8, IntKind.u8.wrap ((y.toNat : Int) + 1) = (y1.toNat : Int) ∧ IntKind.u8.wrap ((y1.toNat : Int) - 1) = (y.toNat : Int) := by
        have hyb := y.toNat_lt
        refine ⟨UInt8.ofNat ((y.toNat + 1) % 256), ?_, ?_⟩
        · rw [IntKind.wrap_u8, UInt8.toNat_ofNat_of_lt' (by show _ < 256; omega)]; omega
        · rw [IntKind.wrap_u8, UInt8.toNat_ofNat_of_lt' (by show _ < 256; omega)]; omega
      go_upto_region 11 with fail
      have hf7 := (Fr.refl [b0] w6).set ⟨b0, off0, none⟩ (.inl (by simp)) (.int .u8 (y1.toNat : Int))
      have hc7 : (w6.setCell ⟨b0, off0, none⟩ (.int .u8 (y1.toNat : Int))).cell? ⟨b0, off0, none⟩ = some (.int .u8 (y1.toNat : Int)) := set_cell hc6 _
      have hz7 : (w6.setCell ⟨b0, off0, none⟩ (.int .u8 (y1.toNat : Int))).frozen? ⟨b0, off0, none⟩ = false := by simpa using hz6
      have hl6 : b0 < w6.heap.size := World.block_lt_of_cell? w6 (a := ⟨b0, off0, none⟩) hc6
      have HN3 := hid (show g ∉ [b0] ∧ mb ∉ [b0] ∧ bb ∉ [b0] ∧ b0 ∉ [g, mb] from by have := HLOW.out; have := HB0L.out; simp; omega)
      have hv6 : ∀ p ∈ [((1 : Int), Value.slice (some ⟨q, 0, none⟩) 68 c')], ∀ k, p.2.ownBlock = some k → k ∉ [b0] := fun p hp k hk => by rw [List.mem_singleton.1 hp] at hk; cases hk; have := HQ.out; have := HB0L.out; simp; omega
      have hd7 := HD6.out.frP hf7 ⟨HN3.out.1, HN3.out.2.1, HN3.out.2.2.1⟩ hv6 (HF1.out.low HBC.out) (HF2.out.low HBC.out) (fun k hk => by rw [List.mem_singleton.1 hk]; exact HB0L.out)
      have htb := fun w' hf => turn_back (S := [g, mb]) (v := .int .u8 (y1.toNat : Int)) (w' := w') hc6 hf HN3.out.2.2.2
      have hl7 := hf7.size
      obtain ⟨W7, hW7⟩ : ∃ W7, w6.setCell ⟨b0, off0, none⟩ (.int .u8 (y1.toNat : Int)) = W7 := ⟨_, rfl⟩
      rw [hW7] at hc7 hz7 hd7 hl7 ⊢
      have htb' : ∀ w', Fr [g, mb] W7 w' → Fr [g, mb] w6 (w'.setCell ⟨b0, off0, none⟩ (.int .u8 (y.toNat : Int))) := fun w' hf => htb w' (by rw [hW7]; exact hf)
      have HC7 := hid hc7
      have HZ7 := hid hz7
      have HD7 := hid hd7
      have HL7 := hid (Nat.lt_of_lt_of_le hl6 hl7)
      have HTB := hid htb'
      clear hf7 hc7 hz7 hl6 hv6 hd7 htb htb' hl7 hW7 hc6 hz6
      go_upto_region 12 with (go_at_call 10; refine (tells_take HD7.out HX.out HBND.out).mono ?_; rintro e w8 ⟨gv, fz, rfl, htl, hd8, hf8⟩; have HTL := hid htl; have HD8 := hid hd8; have HF8 := hid hf8; clear htl hd8 hf8)
      have hc8 := cell_fr HC7.out HF8.out HN3.out.2.2.2
      have hz8 : w8.frozen? ⟨b0, off0, none⟩ = false := by rw [froz_fr HL7.out HF8.out HN3.out.2.2.2]; exact HZ7.out
      go_upto_region 13 with fail
      have hf9 := (Fr.refl [b0] w8).set ⟨b0, off0, none⟩ (.inl (by simp)) (.int .u8 (y.toNat : Int))
      have hd9 := HD8.out.frP hf9 ⟨HN3.out.1, HN3.out.2.1, HN3.out.2.2.1⟩ (fun p hp => by simp at hp) (HF1.out.low HBC.out) (HF2.out.low HBC.out) (fun k hk => by rw [List.mem_singleton.1 hk]; exact HB0L.out)
      have h69 := HTB.out w8 HF8.out
      have hm9 := Sl.fr2 HM6.out h69 (fun hne p hp hm => by cases hp; exact HN3.out.2.2.2 hm)
      have hb9 := Fr.below HB7.out h69 (fun k hk => by have := HLOW.out; simp at hk; omega) (by rw [← HBE.out]; exact HB7.out.size)
      have ht9 : Tells fail W7 (w8.setCell ⟨b0, off0, none⟩ (.int .u8 (y.toNat : Int))) bs gv fz := by
        rcases HTL.out with h | ⟨h1, h2, h3⟩
        · exact .inl h
        · exact .inr ⟨h1, h2, own_fr h3 hf9 (fun k hk hm => by have h1 := (World.ownsRow.lt h3 k hk).1; have h2 := HL7.out; have h3 := List.mem_singleton.1 hm; omega)⟩
      obtain ⟨W9, hW9⟩ : ∃ W9, w8.setCell ⟨b0, off0, none⟩ (.int .u8 (y.toNat : Int)) = W9 := ⟨_, rfl⟩
      rw [hW9] at hd9 hm9 hb9 ht9 ⊢
      have HD9 : Hid (Dvx W9 g mb bb v1 v2 [] ⟨[], 3, 1, 1, 1, 1, [], (if fail = true then [0] else []), be⟩) := hid hd9
      have HM9 := hid hm9
      have HB9 := hid hb9
      have HT9 := hid ht9
      have HGL := hid (show g < W7.heap.size ∧ mb < W7.heap.size from ⟨HD7.out.lt.1, HD7.out.lt.2.1⟩)
      clear hf9 hd9 h69 hm9 hb9 ht9 hW9 hc8 hz8 hy1 hy2
      go_upto_region 16 with (first
        | (go_at_call 10; (with_reducible refine (dtake_none (z := 1) HD9.out (fun q hq => by simp at hq) (by decide)).mono ?_); rintro e W9 ⟨rfl, rfl⟩)
        | (go_at_call 9; refine (dput_ok HD9.out HM9.out (fun p hp hm => by cases hp; exact HN3.out.2.2.2 hm) (by simp) (by simp) (by simp) (by simp)).mono ?_; rintro e w10 ⟨he, ⟨q2, c2', hdq, hq⟩, hf10⟩; replace he : e = .returned (.tuple #[.int .i64 2, .int .i64 0]) := he; subst he; have HD10 : Hid (Dvx w10 g mb bb v1 v2 [(2, .slice (some ⟨q2, 0, none⟩) 68 c2')] ⟨[(2, bs)], 3, 2, 1, 2, 1, [], (if fail = true then [0] else []), be⟩) := hid hdq; have HM10 := hid (Sl.fr2 HM9.out hf10 (fun hne p hp hm => by cases hp; exact HN3.out.2.2.2 hm)); have HB10 := hid (Fr.below HB9.out hf10 (fun k hk => by have := HLOW.out; simp at hk; omega) (by rw [← HBE.out]; exact HB9.out.size)); have HF10 := hid hf10; clear hdq hq hf10)
        | (go_at_call 10; refine (dtake_ok (z := 2) (bs := bs) HD10.out (by simp) (by decide) (by simp) (by cases fail <;> simp) (fun p hp => by have := (HBND.out p).1 hp; rw [List.mem_singleton.1 this]; show (0 : Int) ≠ ((1 : Nat) : Int); decide)).mono ?_; rintro e w11 ⟨v11, rfl, hv11, hd11, hf11⟩; have HD11 : Hid (Dvx w11 g mb bb v1 v2 [] ⟨[], 3, 2, 1, 2, 2, [], (if fail = true then [0] else []), be⟩) := hid hd11; have HV11 := hid hv11; have HM11 := hid (Sl.fr2 HM10.out hf11 (fun hne p hp hm => by cases hp; exact HN3.out.2.2.2 hm)); have HB11 := hid (Fr.below HB10.out hf11 (fun k hk => by have := HLOW.out; simp at hk; omega) (by rw [← HBE.out]; exact HB10.out.size)); have HF11 := hid hf11; clear hv11 hd11 hf11))
      obtain ⟨a11, c11, rfl, hb11⟩ := HV11.out.bytes
      have hs1 := run_str (P := Try.prog) hb11 22 9 5 Try.underlying22 Try.underlying5 Try.underlying9
      have hs2 := run_str (P := Try.prog) (show Bytes w11 _ _ _ _ from HM11.out) 22 9 5 Try.underlying22 Try.underlying5 Try.underlying9
      have HUS := hid (show Calls Try.prog 11 #[.pointer (some ⟨g, 0, none⟩)] w11 (fun e w' => e = .returned (.int .i64 0) ∧ w11 = w') from (dused_calls HD11.out).mono (fun e w' h => ⟨h.1, h.2.symm⟩))
      rcases HT9.out with ⟨rfl, rfl⟩ | ⟨rfl, rfl, hv⟩
      · clear hb11
        go_wp2_with (go_at_call 11; refine HUS.out.mono ?_; rintro e w12 ⟨rfl, rfl⟩)
        go_ret
        exact ⟨rfl, by rw [HBE.out]; exact HB11.out⟩
      · have hn4 : ∀ k, gv.ownBlock = some k → k ∉ [g, mb] := fun k hk hm => by have h1 := (World.ownsRow.lt hv k hk).1; have h2 := HGL.out; simp at hm; omega
        obtain ⟨a9, c9, rfl, hb9⟩ := OwnB.bytes (own_fr (own_fr hv HF10.out hn4) HF11.out hn4)
        have hs3 := run_str (P := Try.prog) hb9 22 9 5 Try.underlying22 Try.underlying5 Try.underlying9
        clear hb11 hb9 hv hn4
        go_wp2_with (go_at_call 11; refine HUS.out.mono ?_; rintro e w12 ⟨rfl, rfl⟩)
        go_ret
        exact ⟨rfl, by rw [HBE.out]; exact HB11.out⟩
  · have hl2 : ¬ ((l : Int) = 64) := by omega
    go_wp2_with (go_at_call 7; refine (awake06 _).mono ?_; rintro e w1 ⟨rfl, hb1⟩; have HB1 := hid (HK0.out.trans (hb1.mono (by rw [← HBE.out]; exact HK0.out.size))); clear hb1)
    go_ret
    exact ⟨rfl, by rw [HBE.out]; exact HB1.out⟩
end Go.Proofs.Ytbandclbnlbkjaa
