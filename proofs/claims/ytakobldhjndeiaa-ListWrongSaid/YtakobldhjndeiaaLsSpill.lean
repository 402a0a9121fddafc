/-
  Texts joined: XLsSpill, XLsTake.
-/
import Derived.Test.YtakobldhjndeiaaLsAdd
import Derived.Test.YtakobldhjndeiaaDevExact
import Derived.Outline
/- Lists.Spill. -/
namespace Go.Proofs.Ytakobldhjndeiaa
open Go.RowKit
set_option linter.unusedVariables false
set_option linter.unusedSimpArgs false

structure SysM (w : World) (SA SD SL : List Nat) (g gd lb r : Nat) (free U : List Int) (most : Int) (mem : Nat → List UInt8) (tiles : List (List Ck)) (d : Dev) : Prop where
  ar : Ar w g SA r free U most mem
  dv : Dv w gd SD d
  ls : Ls w lb SL (some ⟨g, 0, none⟩) (some ⟨gd, 0, none⟩) tiles
  ad : ∀ k ∈ SA, k ∉ SD
  al : ∀ k ∈ SA, k ∉ SL
  dl : ∀ k ∈ SD, k ∉ SL
section
variable {w w' : World} {SA SD SL SA' SD' SL' : List Nat} {g gd lb r : Nat} {free U free' U' : List Int} {most most' : Int} {mem mem' : Nat → List UInt8} {tiles tiles' : List (List Ck)} {F F' : List Ck} {d d' : Dev}
theorem SysX.m (h : SysX w SA SD SL g gd lb r free U most mem tiles F d) : SysM w SA SD SL g gd lb r free U most mem tiles d := ⟨h.ar, h.dv, h.ls, h.ad, h.al, h.dl⟩
theorem SysM.x (h : SysM w SA SD SL g gd lb r free U most mem tiles d) (hR : Rel F U mem d.L) (hm : most ≤ r) : SysX w SA SD SL g gd lb r free U most mem tiles F d := ⟨h.ar, h.dv, h.ls, hR, h.ad, h.al, h.dl, hm⟩
theorem SysM.arena (h : SysM w SA SD SL g gd lb r free U most mem tiles d) (hA : Ar w' g SA' r free' U' most' mem') (hG : Grows SA w SA') (hf : Fr SA w w') : SysM w' SA' SD SL g gd lb r free' U' most' mem' tiles d := by
  refine ⟨hA, h.dv.fr hf (fun k hk hm => h.ad k hm hk), h.ls.fr hf (fun k hk hm => h.al k hm hk), ?_, ?_, h.dl⟩
  · intro k hk hm
    rcases hG k hk with h1 | h1
    · exact h.ad k h1 hm
    · have := h.dv.lt k hm; omega
  · intro k hk hm
    rcases hG k hk with h1 | h1
    · exact h.al k h1 hm
    · have := h.ls.lt k hm; omega
theorem SysM.device (h : SysM w SA SD SL g gd lb r free U most mem tiles d) (hD : Dv w' gd SD' d') (hG : Grows SD w SD') (hf : Fr SD w w') : SysM w' SA SD' SL g gd lb r free U most mem tiles d' := by
  refine ⟨h.ar.fr hf (fun k hk hm => h.ad k hk hm), hD, h.ls.fr hf (fun k hk hm => h.dl k hm hk), ?_, h.al, ?_⟩
  · intro k hk hm
    rcases hG k hm with h1 | h1
    · exact h.ad k hk h1
    · have := h.ar.lt k hk; omega
  · intro k hk hm
    rcases hG k hk with h1 | h1
    · exact h.dl k h1 hm
    · have := h.ls.lt k hm; omega
theorem SysM.lists (h : SysM w SA SD SL g gd lb r free U most mem tiles d) (hL : Ls w' lb SL (some ⟨g, 0, none⟩) (some ⟨gd, 0, none⟩) tiles') (hf : Fr SL w w') : SysM w' SA SD SL g gd lb r free U most mem tiles' d :=
  ⟨h.ar.fr hf (fun k hk hm => h.al k hk hm), h.dv.fr hf (fun k hk hm => h.dl k hk hm), hL, h.ad, h.al, h.dl⟩
theorem SysM.keep (h : SysM w SA SD SL g gd lb r free U most mem tiles d) (hb : Below w.heap.size w w') : SysM w' SA SD SL g gd lb r free U most mem tiles d := ⟨h.ar.keep hb, h.dv.keep hb, h.ls.keep hb, h.ad, h.al, h.dl⟩
end
theorem spill_nil (w : World) : Calls Try.prog 14 #[.pointer none] w fun e w' => e = .returned (.int .i64 1) ∧ w' = w := by
  go_enter Try.func14, Try.ntmps14
  go_wp2
  go_ret
  exact ⟨rfl, rfl⟩
/-- A chunk's cells. -/
theorem Lsx.ck {w : World} {lb cb : Nat} {pa pd : Option Addr} {vs : List Value} {tiles : List (List Ck)} (h : Lsx w lb cb pa pd vs tiles) {t k : Nat} {cs : List Ck} (ht : tiles[t]? = some cs) {v : Value} (hv : vs[t]? = some v) (hk : k < cs.length) :
    ∃ g1 cap, v = .slice (some ⟨g1, 0, none⟩) cs.length cap ∧ w.cell? ⟨g1, k * 3, none⟩ = some (.bool cs[k].away) ∧ w.cell? ⟨g1, k * 3 + 1, none⟩ = some (.int .i64 cs[k].id) ∧ w.cell? ⟨g1, k * 3 + 2, none⟩ = some (.int .i64 (cs[k].bs.length : Int)) ∧ w.frozen? ⟨g1, k * 3, none⟩ = false ∧ w.frozen? ⟨g1, k * 3 + 1, none⟩ = false := by
  have ho := h.rows t _ _ hv ht
  obtain ⟨g1, cap, rfl, _, _⟩ := ho.there ck_sz (by decide) (by rintro rfl; simp at hk)
  have k0 := ho.cells ck_sz (by decide) k hk 0 (by decide)
  have k1 := ho.cells ck_sz (by decide) k hk 1 (by decide)
  have k2 := ho.cells ck_sz (by decide) k hk 2 (by decide)
  simp only [Ck.cells, List.getElem?_cons_zero, List.getElem?_cons_succ, Nat.add_zero] at k0 k1 k2
  exact ⟨g1, cap, rfl, k0, k1, k2, ho.free _, ho.free _⟩
set_option maxRecDepth 10000 in
set_option maxHeartbeats 1000000 in
theorem spill_none {w : World} {S : List Nat} {g gd lb r : Nat} {tiles : List (List Ck)} {d : Dev} (h : Sys w S g gd lb r tiles d) (hd : d.L.length ≤ 100000) (hall : ∀ c ∈ tiles.flatten, c.away = true) :
    Calls Try.prog 14 #[.pointer (some ⟨lb, 0, none⟩)] w fun e w' => e = .returned (.int .i64 9) ∧ Below w.heap.size w w' := by
  have HS := hid h
  obtain ⟨SA, SD, SL, free, U, most, mem, h, rfl⟩ := h
  obtain ⟨cb, vs, hl, rfl⟩ := h.ls
  have c2 := cell_at hl.top 2
  have HL := hid hl
  have HA := hid hall
  have hlen := hl.len
  have hsm := hl.small
  clear h hl hall
  go_enter Try.func14, Try.ntmps14
  go_wp2
  go_loopw [4, 5, 6, 7, 8, 9, 10, 18] (fun _ _ _ _ _ _ _ i wr => ∃ k : Nat, k ≤ vs.length ∧ i = .int .i64 (k : Int) ∧ Below w.heap.size w wr) (fun _ _ _ _ _ _ _ i _ => vs.length - (intOf i).toNat)
  case atStart => exact ⟨0, by omega, rfl, Below.refl _ _⟩
  case round =>
    obtain ⟨k, hk, rfl, hb⟩ := hrel
    obtain ⟨wo, rfl⟩ : ∃ wo : World, wo = wr := ⟨_, rfl⟩
    by_cases hlt : k < vs.length
    · have htk : tiles[k]? = some tiles[k] := by simp
      obtain ⟨cs, hcs⟩ : ∃ cs, tiles[k] = cs := ⟨_, rfl⟩
      rw [hcs] at htk
      obtain ⟨a, cap, hv, ct, ft, ho, hvl, hle, hmx⟩ := (HL.out.keep hb).at htk
      have hcl := HS.out.count htk
      have HT := hid htk
      have HV := hid hv
      clear hcs htk hv ho c2
      go_wp2
      go_loopw [5, 6, 7, 8, 9, 10, 24] (fun _ _ _ _ _ _ i wr => ∃ q : Nat, q ≤ cs.length ∧ i = .int .i64 (q : Int) ∧ Below wo.heap.size wo wr) (fun _ _ _ _ _ _ i _ => cs.length - (intOf i).toNat)
      case atStart => exact ⟨0, by omega, rfl, Below.refl _ _⟩
      case round =>
        obtain ⟨q, hq, rfl, hb2⟩ := hrel
        by_cases hqt : q < cs.length
        · obtain ⟨g1, cap', e, k0, k1, k2, _, _⟩ := ((HL.out.keep hb).keep hb2).ck HT.out HV.out hqt
          have haw := HA.out cs[q] (List.mem_flatten.2 ⟨cs, List.mem_of_getElem? HT.out, by simp⟩)
          rw [haw] at k0
          simp only [Value.slice.injEq] at e
          obtain ⟨rfl, _, rfl⟩ := e
          obtain ⟨z, hz⟩ : ∃ z, cs[q].id = z := ⟨_, rfl⟩
          obtain ⟨m, hm⟩ : ∃ m, cs[q].bs.length = m := ⟨_, rfl⟩
          rw [hz] at k1
          rw [hm] at k2
          clear haw hz hm
          go_wp2
          go_roundw
          case rel => exact ⟨q + 1, by omega, by go_num, hb2.alloc hb2.size _⟩
          case measure => simp [intOf]; omega
        · obtain rfl : q = cs.length := by omega
          go_wp2
          go_roundw
          case rel => exact ⟨k + 1, by omega, by go_num, hb.trans (hb2.mono hb.size)⟩
          case measure => simp [intOf]; omega
    · obtain rfl : k = vs.length := by omega
      go_wp2
      go_ret
      exact ⟨rfl, hb⟩
def others (tiles : List (List Ck)) (t : Nat) (cs : List Ck) (q : Nat) : List Ck := cs.take q ++ (cs.drop (q + 1) ++ (tiles.set t []).flatten)
theorem ck_perm {tiles : List (List Ck)} {t : Nat} {cs : List Ck} (ht : tiles[t]? = some cs) {q : Nat} (hq : q < cs.length) (c : Ck) : (tiles.set t (cs.set q c)).flatten.Perm (c :: others tiles t cs q) := by
  refine (flat_perm tiles t _ (List.getElem?_eq_some_iff.1 ht).1).trans ?_
  rw [List.set_eq_take_append_cons_drop, if_pos hq, List.append_assoc, List.cons_append]
  exact List.perm_middle
theorem ck_perm_self {tiles : List (List Ck)} {t : Nat} {cs : List Ck} (ht : tiles[t]? = some cs) {q : Nat} {c : Ck} (hq : cs[q]? = some c) : tiles.flatten.Perm (c :: others tiles t cs q) := by
  have h := ck_perm ht (List.getElem?_eq_some_iff.1 hq).1 c
  have e : cs.set q c = cs := by
    apply List.ext_getElem?
    intro i
    rw [List.getElem?_set]
    split
    · next e => subst e; rw [hq, if_pos (List.getElem?_eq_some_iff.1 hq).1]
    · rfl
  rwa [e, flat_set_self ht] at h
/-- A chunk that has gone away. -/
theorem sys_spilled {w w1 w5 w6 w7 : World} {SA SD SL SA' SD' : List Nat} {g gd lb cb r : Nat} {free free' U : List Int} {most : Int} {mem : Nat → List UInt8} {tiles : List (List Ck)} {d : Dev} {t q z g1 n cap1 : Nat} {cs : List Ck} {x : List UInt8} {vs : List Value}
    (h : SysX w SA SD SL g gd lb r free U most mem tiles tiles.flatten d) (ht : tiles[t]? = some cs) (hq : cs[q]? = some ⟨false, z, x⟩) (hk : Below w.heap.size w w5)
    (hD : Dv w6 gd SD' (d.put (mem z))) (hG : Grows SD w5 SD') (hf : Fr SD w5 w6) (hk1 : Below w6.heap.size w6 w1)
    (hA : Ar w7 g SA' r free' (less U z) most mem) (hG7 : Grows SA w1 SA') (hf7 : Fr SA w1 w7)
    (hl : Lsx w lb cb (some ⟨g, 0, none⟩) (some ⟨gd, 0, none⟩) vs tiles) (hv : vs[t]? = some (.slice (some ⟨g1, 0, none⟩) n cap1)) (hSL : SL = lsBlocks lb cb vs) :
    ∃ S', Sys ((w7.setCell ⟨g1, q * 3, none⟩ (.bool true)).setCell ⟨g1, q * 3 + 1, none⟩ (.int .i64 ((d.next : Int) + 1))) S' g gd lb r (tiles.set t (cs.set q ⟨true, (d.next : Int) + 1, x⟩)) (d.put (mem z)) ∧ Grows (SA ++ (SD ++ SL)) w S' ∧
      Fr (SA ++ (SD ++ SL)) w ((w7.setCell ⟨g1, q * 3, none⟩ (.bool true)).setCell ⟨g1, q * 3 + 1, none⟩ (.int .i64 ((d.next : Int) + 1))) := by
  subst hSL
  have hql := (List.getElem?_eq_some_iff.1 hq).1
  have htl := (List.getElem?_eq_some_iff.1 ht).1
  have hcq : cs[q] = ⟨false, z, x⟩ := (List.getElem?_eq_some_iff.1 hq).2
  have hm5 := h.m.keep hk
  have hm6 := (hm5.device hD hG hf).keep hk1
  have hm7 := hm6.arena hA hG7 hf7
  have hl6 := ((hl.keep hk).fr hf (fun k hk hm => h.dl k hm hk)).keep hk1
  have hl7 := hl6.fr hf7 (fun k hk hm => h.al k hm hk)
  obtain ⟨h8, f8⟩ := hl7.cell ht hv q 0 hql (by decide) ⟨true, z, x⟩ (.bool true) (by rw [hcq]; rfl)
  obtain ⟨h9, f9⟩ := h8.cell (t := t) (cs := cs.set q ⟨true, z, x⟩) (by simp [htl]) hv q 1 (by simpa using hql) (by decide) ⟨true, (d.next : Int) + 1, x⟩ (.int .i64 ((d.next : Int) + 1)) (by rw [List.getElem_set_self]; rfl)
  rw [List.set_set, List.set_set] at h9
  have hm9 := hm7.lists ⟨cb, vs, h9, rfl⟩ (f8.trans f9 (Grows.refl _ _))
  have hR := ((h.rel.perm (ck_perm_self ht hq).symm).spill h.ar.nodup.1 ((d.next : Int) + 1)).perm (ck_perm ht hql ⟨true, (d.next : Int) + 1, x⟩)
  have hx9 := hm9.x (F := (tiles.set t (cs.set q ⟨true, (d.next : Int) + 1, x⟩)).flatten) hR h.mo
  have hGa : Grows (SA ++ (SD ++ lsBlocks lb cb vs)) w (SA ++ (SD' ++ lsBlocks lb cb vs)) := grows_d (fun k hk' => (hG k hk').imp_right (fun h => Nat.le_trans hk.size h))
  have hs16 : w.heap.size ≤ w1.heap.size := Nat.le_trans hk.size (Nat.le_trans hf.size hk1.size)
  refine ⟨_, ⟨_, _, _, _, _, _, _, hx9, rfl⟩, hGa.trans (fun k hk' => (grows_a (SD := SD') (SL := lsBlocks lb cb vs) hG7 k hk')) hs16, ?_⟩
  have e1 : Fr (SA ++ (SD ++ lsBlocks lb cb vs)) w w5 := (Fr.ofBelow hk).nilMono
  have e2 : Fr (SA ++ (SD ++ lsBlocks lb cb vs)) w w6 := e1.trans (fr_d hf) (Grows.refl _ _)
  have e3 : Fr (SA ++ (SD ++ lsBlocks lb cb vs)) w w1 := e2.trans (Fr.nilMono (S := SA ++ (SD ++ lsBlocks lb cb vs)) (Fr.ofBelow hk1)) (Grows.refl _ _)
  have e4 : Fr (SA ++ (SD ++ lsBlocks lb cb vs)) w w7 := e3.trans (fr_a hf7) (Grows.refl _ _)
  exact e4.trans (fr_l (f8.trans f9 (Grows.refl _ _))) (Grows.refl _ _)
def SpillPost (w : World) (S : List Nat) (g gd lb r : Nat) (tiles : List (List Ck)) (d : Dev) (t j : Nat) (cs : List Ck) (x : List UInt8) (e : Ending) (w' : World) : Prop :=
  ((d.room ≤ d.L.length ∨ (d.puts : Int) ∈ d.fu) ∧ e = .returned (.int .i64 8) ∧ Sys w' S g gd lb r tiles d.tried ∧ Fr S w w') ∨
  ((d.L.length < d.room ∧ (d.puts : Int) ∉ d.fu) ∧ e = .returned (.int .i64 0) ∧ ∃ S' blk, Sys w' S' g gd lb r (tiles.set t (cs.set j ⟨true, (d.next : Int) + 1, x⟩)) (d.put blk) ∧ Grows S w S' ∧ Fr S w w')
set_option maxRecDepth 10000 in
set_option maxHeartbeats 2000000 in
theorem spill_found {w : World} {S : List Nat} {g gd lb r : Nat} {tiles : List (List Ck)} {d : Dev} (h : Sys w S g gd lb r tiles d) (hd : d.L.length ≤ 100000) (hp : d.puts < 1000000) (hnx : d.next < 1000000) {t j : Nat} {cs : List Ck} (ht : tiles[t]? = some cs) {z : Nat} {x : List UInt8} (hj : cs[j]? = some ⟨false, z, x⟩) (hbef : ∀ s cs', s < t → tiles[s]? = some cs' → ∀ c ∈ cs', c.away = true) (hbef2 : ∀ i c, i < j → cs[i]? = some c → c.away = true) :
    Calls Try.prog 14 #[.pointer (some ⟨lb, 0, none⟩)] w (SpillPost w S g gd lb r tiles d t j cs x) := by
  have HS := hid h
  obtain ⟨SA, SD, SL, free, U, most, mem, h, rfl⟩ := h
  obtain ⟨cb, vs, hl, rfl⟩ := h.ls
  have c2 := cell_at hl.top 2
  have HX := hid h
  have HL := hid hl
  have HB1 := hid hbef
  have HB2 := hid hbef2
  have HJ := hid hj
  have HT := hid ht
  have hlen := hl.len
  have hsm := hl.small
  have htl : t < vs.length := by rw [hlen]; exact (List.getElem?_eq_some_iff.1 ht).1
  have hjl : j < cs.length := (List.getElem?_eq_some_iff.1 hj).1
  clear h hl hbef hbef2 hj ht
  go_enter Try.func14, Try.ntmps14
  go_wp2
  go_loopw [4, 5, 6, 7, 8, 9, 10, 18] (fun _ _ _ _ _ _ _ i wr => ∃ k : Nat, k ≤ t ∧ i = .int .i64 (k : Int) ∧ Below w.heap.size w wr) (fun _ _ _ _ _ _ _ i _ => vs.length - (intOf i).toNat)
  case atStart => exact ⟨0, by omega, rfl, Below.refl _ _⟩
  case round =>
    obtain ⟨k, hk, rfl, hb⟩ := hrel
    obtain ⟨wo, rfl⟩ : ∃ wo : World, wo = wr := ⟨_, rfl⟩
    have hkv : k < vs.length := by omega
    by_cases hlt : k < t
    · have htk : tiles[k]? = some tiles[k] := by simp
      obtain ⟨ds, hcs⟩ : ∃ cs, tiles[k] = cs := ⟨_, rfl⟩
      rw [hcs] at htk
      have HA := hid (HB1.out k ds hlt htk)
      obtain ⟨a, cap, hv, ct, ft, ho, hvl, hle, hmx⟩ := (HL.out.keep hb).at htk
      have hcl := HS.out.count htk
      have HT2 := hid htk
      have HV := hid hv
      clear hcs htk hv ho c2
      go_wp2
      go_loopw [5, 6, 7, 8, 9, 10, 24] (fun _ _ _ _ _ _ i wr => ∃ q : Nat, q ≤ ds.length ∧ i = .int .i64 (q : Int) ∧ Below wo.heap.size wo wr) (fun _ _ _ _ _ _ i _ => ds.length - (intOf i).toNat)
      case atStart => exact ⟨0, by omega, rfl, Below.refl _ _⟩
      case round =>
        obtain ⟨q, hq, rfl, hb2⟩ := hrel
        by_cases hqt : q < ds.length
        · obtain ⟨g1, cap', e, k0, k1, k2, _, _⟩ := ((HL.out.keep hb).keep hb2).ck HT2.out HV.out hqt
          have haw := HA.out ds[q] (by simp)
          rw [haw] at k0
          simp only [Value.slice.injEq] at e
          obtain ⟨rfl, _, rfl⟩ := e
          obtain ⟨z, hz⟩ : ∃ z, ds[q].id = z := ⟨_, rfl⟩
          obtain ⟨m, hm⟩ : ∃ m, ds[q].bs.length = m := ⟨_, rfl⟩
          rw [hz] at k1
          rw [hm] at k2
          clear haw hz hm
          go_wp2
          go_roundw
          case rel => exact ⟨q + 1, by omega, by go_num, hb2.alloc hb2.size _⟩
          case measure => simp [intOf]; omega
        · obtain rfl : q = ds.length := by omega
          go_wp2
          go_roundw
          case rel => exact ⟨k + 1, by omega, by go_num, hb.trans (hb2.mono hb.size)⟩
          case measure => simp [intOf]; omega
    · obtain rfl : k = t := by omega
      obtain ⟨a, cap, hv, ct, ft, ho, hvl, hle, hmx⟩ := (HL.out.keep hb).at HT.out
      have hcl := HS.out.count HT.out
      have HV := hid hv
      clear hv ho c2
      go_wp2
      go_loopw [5, 6, 7, 8, 9, 10, 24] (fun _ _ _ _ _ _ i wr => ∃ q : Nat, q ≤ j ∧ i = .int .i64 (q : Int) ∧ Below wo.heap.size wo wr) (fun _ _ _ _ _ _ i _ => cs.length - (intOf i).toNat)
      case atStart => exact ⟨0, by omega, rfl, Below.refl _ _⟩
      case round =>
        obtain ⟨q, hq, rfl, hb2⟩ := hrel
        have hqc : q < cs.length := by omega
        obtain ⟨g1, cap', e, k0, k1, k2, f0, f1⟩ := ((HL.out.keep hb).keep hb2).ck HT.out HV.out hqc
        simp only [Value.slice.injEq] at e
        obtain ⟨rfl, _, rfl⟩ := e
        by_cases hqt : q < j
        · have haw := HB2.out q cs[q] hqt (by simp)
          rw [haw] at k0
          obtain ⟨z, hz⟩ : ∃ z, cs[q].id = z := ⟨_, rfl⟩
          obtain ⟨m, hm⟩ : ∃ m, cs[q].bs.length = m := ⟨_, rfl⟩
          rw [hz] at k1
          rw [hm] at k2
          clear haw hz hm f0 f1
          go_wp2
          go_roundw
          case rel => exact ⟨q + 1, by omega, by go_num, hb2.alloc hb2.size _⟩
          case measure => simp [intOf]; omega
        · obtain rfl : q = j := by omega
          have hcq : cs[q] = ⟨false, z, x⟩ := by have := HJ.out; rw [List.getElem?_eq_getElem hqc] at this; exact Option.some.inj this
          rw [hcq] at k0 k1 k2
          simp only [] at k0 k1 k2
          obtain ⟨m, hm⟩ : ∃ m, x.length = m := ⟨_, rfl⟩
          rw [hm] at k2
          clear hm hcq
          go_upto_region 10 with (fail)
          have hb3 := (hb.trans (hb2.mono hb.size)).alloc (Nat.le_trans hb.size hb2.size) (.cells #[.bool false, .int .i64 (z : Int), .int .i64 (m : Int)] 73)
          have hbx := heap_new wr (.cells #[.bool false, .int .i64 (z : Int), .int .i64 (m : Int)] 73)
          have hBX := hid (Nat.le_trans hb.size hb2.size)
          obtain ⟨B, hB⟩ : ∃ B, wr.heap.size = B := ⟨_, rfl⟩
          obtain ⟨W, hW⟩ : ∃ W, wr.alloc (.cells #[.bool false, .int .i64 (z : Int), .int .i64 (m : Int)] 73) = W := ⟨_, rfl⟩
          rw [hW] at hb3 hbx ⊢
          rw [hB] at hbx hBX ⊢
          have HB3 := hid hb3
          have hzU : (z : Int) ∈ U := HX.out.rel.memU (List.mem_flatten.2 ⟨cs, List.mem_of_getElem? HT.out, List.mem_of_getElem? HJ.out⟩) rfl
          have HU := hid hzU
          have hld := (HL.out.keep hb3).keep (Below.refl _ _).drew
          have s0 := cell_at hld.top 0
          have s1 := cell_at (b := B) (show W.drew.heap[B]? = _ from hbx) 1
          simp only [List.getElem?_toArray, List.getElem?_cons_zero, List.getElem?_cons_succ] at s0 s1
          have HS0 := hid (And.intro s0 s1)
          have HAD := hid ((HX.out.ar.keep hb3).keep (Below.refl _ _).drew)
          have HM64 := hid (HX.out.ar.mem64 hzU)
          have HBX := hid hbx
          clear hb3 hbx hzU hld s0 s1 k0 k1 k2 f0 f1 ct ft hB hW hb hb2
          go_region_held (fun w' => w'.cell? ⟨lb, 0, none⟩ = some (.pointer (some ⟨g, 0, none⟩)) ∧ w'.cell? ⟨B, 1, none⟩ = some (.int .i64 (z : Int))) (first | exact HS0.out | exact HS5.out)
            (first | (go_at_call 27; refine (bytes_ok HAD.out z HU.out).mono ?_; rintro e w5 ⟨v5, rfl, ho5, hb5⟩; obtain ⟨a5, c5, e5, hy5⟩ := ho5.bytes; rw [HM64.out] at e5 hy5; subst e5; have HB5 := hid (HB3.out.trans (((Below.refl W.heap.size W).drew.trans (hb5.mono (Nat.le_refl _))).mono HB3.out.size)); have HBX5 := hid (show w5.heap[B]? = _ from (Fr.ofBelow ((Below.refl W.heap.size W).drew.trans (hb5.mono (Nat.le_refl _)))).heap HBX.out (by simp)); have s0 := cell_at (HL.out.keep HB5.out).top 0; have s1 := cell_at HBX5.out 1; simp only [List.getElem?_toArray, List.getElem?_cons_zero, List.getElem?_cons_succ] at s0 s1; have HS5 := hid (And.intro s0 s1); have HO5 := hid ho5; have HY5 := hid hy5; clear ho5 hb5 hy5 s0 s1))
          have hx5 := HX.out.keep HB5.out
          have HD5 := hid hx5.dv
          have c1 := cell_at (HL.out.keep HB5.out).top 1
          have HA5 := hid (show ∀ p, a5 = some p → p.block ∉ SD from fun p hp hm => by
            have h1 := (World.ownsRow.lt HO5.out p.block (by rw [hp]; rfl)).1
            have h2 := HX.out.dv.lt _ hm
            have h3 := HB3.out.size
            simp at h1
            omega)
          have HX5 := hid hx5
          clear hx5
          by_cases hroom : d.L.length < d.room ∧ (d.puts : Int) ∉ d.fu
          · obtain ⟨hr1, hr2⟩ := hroom
            have HR2 := hid hr2
            clear hr2
            go_upto_region 14 with (first | (go_at_call 28; refine (dv_put HD5.out HY5.out HA5.out hp hnx hr1 HR2.out).mono ?_; rintro e w6 ⟨rfl, ⟨SD', hd6, hg6⟩, hf6⟩; have HD6 := hid hd6; have HG6 := hid hg6; have HF6 := hid hf6; clear hd6 hg6 hf6))
            have hm6 := (HX5.out.m.device HD6.out HG6.out HF6.out).keep (Below.refl w6.heap.size w6).drew
            have HAR6 := hid hm6.ar
            have hl6 := ((HL.out.keep HB5.out).fr HF6.out (fun k hk hm => HX.out.dl k hm hk)).keep (Below.refl w6.heap.size w6).drew
            have hbx6 : w6.drew.heap[B]? = some (.cells #[.bool false, .int .i64 (z : Int), .int .i64 (m : Int)] 73 (0, 0)) := HF6.out.heap HBX5.out (fun hm => by have h2 := HX.out.dv.lt _ hm; have := hBX.out; omega)
            have HL6 := hid hl6
            have HBX6 := hid hbx6
            have s0 := cell_at hl6.top 0
            have s1 := cell_at hbx6 1
            simp only [List.getElem?_toArray, List.getElem?_cons_zero, List.getElem?_cons_succ] at s0 s1
            have HS6 := hid (And.intro s0 s1)
            clear c1 hm6 hl6 hbx6 s0 s1
            go_region_held (fun w' => w'.cell? ⟨lb, 0, none⟩ = some (.pointer (some ⟨g, 0, none⟩)) ∧ w'.cell? ⟨B, 1, none⟩ = some (.int .i64 (z : Int))) (first | exact HS6.out | exact HS7.out)
              (first | (go_at_call 29; refine (give_ok HAR6.out z HU.out).mono ?_; rintro e w7 ⟨rfl, SA', hA7, hG7, hf7⟩; have hl7 := HL6.out.fr hf7 (fun k hk hm => HX.out.al k hm hk); have s0 := cell_at hl7.top 0; have s1 := cell_at (hf7.heap HBX6.out (fun hm => by have h2 := HX.out.ar.lt _ hm; have := hBX.out; omega)) 1; simp only [List.getElem?_toArray, List.getElem?_cons_zero, List.getElem?_cons_succ] at s0 s1; have HS7 := hid (And.intro s0 s1); obtain ⟨g2, cap2, e2, k0, k1, _, f0, f1⟩ := hl7.ck HT.out HV.out hqc; have HA7 := hid hA7; have HG7 := hid hG7; have HF7 := hid hf7; have HE2 := hid e2; clear hA7 hG7 hf7 hl7 s0 s1 e2))
            have e2 := HE2.out
            simp only [Value.slice.injEq, Option.some.injEq, Addr.mk.injEq] at e2
            obtain ⟨⟨rfl, _, _⟩, _, _⟩ := e2
            go_wp2
            go_ret
            refine .inr ⟨⟨hr1, HR2.out⟩, rfl, ?_⟩
            obtain ⟨S', h1, h2, h3⟩ := sys_spilled HX.out HT.out HJ.out HB5.out HD6.out HG6.out HF6.out (Below.refl w6.heap.size w6).drew HA7.out HG7.out HF7.out HL.out HV.out rfl
            exact ⟨S', _, h1, h2, h3⟩
          · have hfull : d.room ≤ d.L.length ∨ (d.puts : Int) ∈ d.fu := by
              rcases Nat.lt_or_ge d.L.length d.room with h1 | h1
              · exact .inr (Classical.byContradiction fun h2 => hroom ⟨h1, h2⟩)
              · exact .inl h1
            have HFL := hid hfull
            clear hroom hfull
            go_wp2_with (first | (go_at_call 28; refine (dv_put_full HD5.out hp HFL.out).mono ?_; rintro e w6 ⟨rfl, hd6, hf6⟩; have HD6 := hid hd6; have HF6 := hid hf6; clear hd6 hf6))
            go_ret
            refine .inl ⟨HFL.out, rfl, ⟨_, _, _, _, _, _, _, HX5.out.device HD6.out (Grows.refl _ _) HF6.out HX5.out.rel, rfl⟩, ?_⟩
            exact (Fr.ofBelow HB5.out).nilMono.trans (fr_d HF6.out) (Grows.refl _ _)
end Go.Proofs.Ytakobldhjndeiaa
/- A block taken from the device: which takes go wrong; the system behind a give, a drop, a take. -/
namespace Go.Proofs.Ytakobldhjndeiaa
open Go.RowKit
set_option linter.unusedVariables false
set_option linter.unusedSimpArgs false

/-- It is planned that this take goes wrong. -/
def Bad (d : Dev) (q : Nat) : Prop := (q : Int) ∈ d.fa ∨ ∃ (f : Int) (m : Crc.B32), m ≠ 0 ∧ ((q : Int), Value.agg #[.int .i64 f, .int .u32 (m.toNat : Int)]) ∈ d.be
def BendsOk (d : Dev) : Prop := ∀ p ∈ d.be, ∃ (f : Int) (m : Crc.B32), (-9223372036854775808 ≤ f ∧ f < 9223372036854775808) ∧ p.2 = .agg #[.int .i64 f, .int .u32 (m.toNat : Int)]
theorem benti_same {X Y : List UInt8} {f : Int} (h : BentI X Y f 0 32) : Y = X := by
  refine bits_same h.1 (fun i hi => ?_)
  have e : ∀ k, maskBit 0 k = false := fun k => by unfold maskBit; simp
  rw [h.2 i hi, e]; simp
theorem dv_takes {w : World} {g : Nat} {SD : List Nat} {d : Dev} (h : Dv w g SD d) {z : Int} {bs : List UInt8} (hz : (z, bs) ∈ d.L) (wz : -9223372036854775808 ≤ z ∧ z < 9223372036854775808) (htk : d.takes < 1000000) (hbe : BendsOk d) :
    Calls Try.prog 31 #[.pointer (some ⟨g, 0, none⟩), .int .i64 z] w fun e w' => ∃ v ez, e = .returned (.tuple #[v, .int .i64 ez]) ∧ ((ez = 10 ∧ v = .slice none 0 0 ∧ Bad d d.takes) ∨ (ez = 0 ∧ OwnB w' w.heap.size v bs)) ∧ (∃ SD', Dv w' g SD' (d.took z) ∧ ∀ k ∈ SD', k ∈ SD) ∧ Fr SD w w' := by
  obtain ⟨mb, bb, v1, v2, V, h, rfl⟩ := h
  by_cases hfa : (d.takes : Int) ∈ d.fa
  · refine (dtake_fail h hz wz htk hfa).mono ?_
    rintro e w' ⟨rfl, hd, hf⟩
    exact ⟨_, _, rfl, .inl ⟨rfl, rfl, .inl hfa⟩, dv_less hd rfl rfl, dv_fr hf⟩
  · by_cases hb : ∃ p ∈ d.be, p.1 = (d.takes : Int)
    · obtain ⟨⟨q, v⟩, hp, rfl⟩ := hb
      obtain ⟨f, m, wf, rfl⟩ := hbe _ hp
      refine (dtake_exact h hz wz htk hfa wf hp).mono ?_
      rintro e w' ⟨Y, hY, he, hd, hf⟩
      rcases he with ⟨hr, rfl⟩ | ⟨_, v, rfl, hv⟩
      · refine ⟨_, _, rfl, .inl ⟨rfl, rfl, .inr ⟨f, m, ?_, hp⟩⟩, dv_less hd rfl rfl, dv_fr hf⟩
        rintro rfl
        rw [benti_same hY, right_put] at hr
        cases hr
      · exact ⟨_, _, rfl, .inr ⟨rfl, hv⟩, dv_less hd rfl rfl, dv_fr hf⟩
    · refine (dtake_ok h hz wz htk hfa (fun p hp e => hb ⟨p, hp, e⟩)).mono ?_
      rintro e w' ⟨v, rfl, hv, hd, hf⟩
      exact ⟨v, _, rfl, .inr ⟨rfl, hv⟩, dv_less hd rfl rfl, dv_fr hf⟩
theorem rows_len64 {w : World} {X : List Nat} : ∀ {V : List (Int × Value)} {L : List (Int × List UInt8)}, Rows w X V L → ∀ p ∈ L, p.2.length = 64
  | [], [], _, p, hp => by cases hp
  | _ :: _, _ :: _, h, p, hp => by
    rcases List.mem_cons.1 hp with rfl | hp
    · obtain ⟨_, _, _, _, h64, _⟩ := h.2.1
      exact h64
    · exact rows_len64 h.2.2 p hp
  | [], _ :: _, h, _, _ => h.elim
  | _ :: _, [], h, _, _ => h.elim
theorem Dv.len64 {w : World} {g : Nat} {SD : List Nat} {d : Dev} (h : Dv w g SD d) {z : Int} {bs : List UInt8} (hz : (z, bs) ∈ d.L) : bs.length = 64 := by
  obtain ⟨mb, bb, v1, v2, V, h, rfl⟩ := h
  exact rows_len64 h.rows _ hz
theorem flat_cons {tiles : List (List Ck)} {t : Nat} (h : t < tiles.length) (c : Ck) (cs : List Ck) : (tiles.set t (c :: cs)).flatten.Perm (c :: (tiles.set t cs).flatten) :=
  (flat_perm tiles t _ h).trans ((flat_perm tiles t cs h).symm.cons c)
/-- The same plan. -/
structure DSame (d d' : Dev) : Prop where
  room : d'.room = d.room
  next : d'.next = d.next
  puts : d'.puts = d.puts
  fu : d'.fu = d.fu
  fa : d'.fa = d.fa
  be : d'.be = d.be
theorem DSame.refl (d : Dev) : DSame d d := ⟨rfl, rfl, rfl, rfl, rfl, rfl⟩
theorem DSame.less {d d' : Dev} (h : DSame d d') (z : Int) : DSame d (d'.less z) := ⟨h.room, h.next, h.puts, h.fu, h.fa, h.be⟩
theorem DSame.took {d d' : Dev} (h : DSame d d') (z : Int) : DSame d (d'.took z) := ⟨h.room, h.next, h.puts, h.fu, h.fa, h.be⟩
theorem DSame.bad {d d' : Dev} (h : DSame d d') {q : Nat} (hb : Bad d' q) : Bad d q := by
  unfold Bad at *
  rwa [h.fa, h.be] at hb
theorem DSame.ok {d d' : Dev} (h : DSame d d') (hb : BendsOk d) : BendsOk d' := by
  unfold BendsOk at *
  rwa [h.be]
section
variable {w w1 w' : World} {SA SD SL SA' SD' : List Nat} {g gd lb r : Nat} {free U free' : List Int} {most : Int} {mem : Nat → List UInt8} {tiles : List (List Ck)} {d : Dev} {t : Nat} {rest : List Ck} {z : Int} {x : List UInt8}
theorem sys_gave (h : SysX w SA SD SL g gd lb r free U most mem tiles (tiles.set t (⟨false, z, x⟩ :: rest)).flatten d) (ht : t < tiles.length) (hk : Below w.heap.size w w1) (hA : Ar w' g SA' r free' (less U z) most mem) (hG : Grows SA w1 SA') (hf : Fr SA w1 w') :
    SysX w' SA' SD SL g gd lb r free' (less U z) most mem tiles (tiles.set t rest).flatten d ∧ Grows (SA ++ (SD ++ SL)) w (SA' ++ (SD ++ SL)) ∧ Fr (SA ++ (SD ++ SL)) w w' := by
  have h1 := h.keep hk
  refine ⟨h1.arena hA hG hf ((h.rel.perm (flat_cons ht _ _).symm).give h.ar.nodup.1) h.mo, fun k hk' => ?_, (Fr.ofBelow hk).nilMono.trans (fr_a hf) (Grows.refl _ _)⟩
  exact (grows_a (SD := SD) (SL := SL) hG k hk').imp_right (fun h => Nat.le_trans hk.size h)
theorem sys_lost {d' : Dev} (h : SysX w SA SD SL g gd lb r free U most mem tiles (tiles.set t (⟨true, z, x⟩ :: rest)).flatten d) (ht : t < tiles.length) (hk : Below w.heap.size w w1) (hL : d'.L = d.L.filter (fun p => !(p.1 == z))) (hD : Dv w' gd SD' d') (hG : ∀ k ∈ SD', k ∈ SD) (hf : Fr SD w1 w') :
    SysX w' SA SD' SL g gd lb r free U most mem tiles (tiles.set t rest).flatten d' ∧ Grows (SA ++ (SD ++ SL)) w (SA ++ (SD' ++ SL)) ∧ Fr (SA ++ (SD ++ SL)) w w' := by
  have h1 := h.keep hk
  refine ⟨h1.device hD (grows_less hG) hf (by rw [hL]; exact (h.rel.perm (flat_cons ht _ _).symm).drop h.dv.nodup), grows_d (grows_less hG), (Fr.ofBelow hk).nilMono.trans (fr_d hf) (Grows.refl _ _)⟩
end
end Go.Proofs.Ytakobldhjndeiaa
