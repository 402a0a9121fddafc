/-
  The walk of the law 'StoreFills'.
-/
import Derived.Test.YtbandclbnlbkjaaBlock
import Derived.Test.YtbandclbnlbkjaaStr
import Derived.OpenShut
import Derived.Deep.CutRange
namespace Go.Proofs.Ytbandclbnlbkjaa
open Go.RowKit

def entry (s : Int) (j : Int) : Int × List UInt8 := (j + 1, blk ((s + j) % 256) 64)
/-- k blocks, one behind the other. -/
def fills (s : Int) (n k : Nat) : Dev := ⟨(upTo k).map (entry s), n, k, k, k, 0, [], [], []⟩
theorem fills_put (s : Int) (n k : Nat) : (fills s n k).put (blk ((s + k) % 256) 64) = fills s n (k + 1) := by
  simp only [fills, Dev.put, Dev.mk.injEq, and_true, true_and]
  refine ⟨?_, ?_⟩
  · rw [upTo_succ, List.map_append]; rfl
  · rw [List.length_map, upTo_len]; omega
theorem put_fill {w : World} {g mb bb : Nat} {v1 v2 : Value} {V : List (Int × Value)} {s : Int} {n k : Nat} (h : Dvx w g mb bb v1 v2 V (fills s n k)) (hk : k < n) (hn : n < 12) {a : Option Addr} {c : Nat} (HB : Bytes w a 64 c (blk ((s + k) % 256) 64)) (ha : ∀ p, a = some p → p.block ∉ [g, mb]) :
    Calls Try.prog 9 #[.pointer (some ⟨g, 0, none⟩), .slice a 64 c] w fun e w' => e = .returned (.tuple #[.int .i64 ((k : Int) + 1), .int .i64 0]) ∧ (∃ q c', Dvx w' g mb bb v1 v2 (V ++ [((k : Int) + 1, .slice (some ⟨q, 0, none⟩) 68 c')]) (fills s n (k + 1)) ∧ w.heap.size ≤ q) ∧ Fr [g, mb] w w' := by
  refine (dput_ok h HB ha (by show k < _; omega) (by show k < _; omega) (by show ((upTo k).map _).length < n; rw [List.length_map, upTo_len]; exact hk) (by show (k : Int) ∉ []; simp)).mono ?_
  rintro e w' ⟨rfl, ⟨q, c', h2, h3⟩, hf⟩
  rw [fills_put] at h2
  exact ⟨rfl, ⟨q, c', h2, h3⟩, hf⟩
theorem put_over {w : World} {g mb bb : Nat} {v1 v2 : Value} {V : List (Int × Value)} {s : Int} {n : Nat} (h : Dvx w g mb bb v1 v2 V (fills s n n)) (hn : n < 12) {a : Option Addr} {c : Nat} :
    Calls Try.prog 9 #[.pointer (some ⟨g, 0, none⟩), .slice a 64 c] w fun e w' => e = .returned (.tuple #[.int .i64 0, .int .i64 8]) ∧ Dvx w' g mb bb v1 v2 V (fills s n n).tried ∧ Fr [g, mb] w w' :=
  dput_full h (by show n < _; omega) (.inl (by show n ≤ ((upTo n).map _).length; rw [List.length_map, upTo_len]; exact Nat.le_refl _))
theorem used_over {w : World} {g mb bb : Nat} {v1 v2 : Value} {V : List (Int × Value)} {s : Int} {n : Nat} (h : Dvx w g mb bb v1 v2 V (fills s n n).tried) :
    Calls Try.prog 11 #[.pointer (some ⟨g, 0, none⟩)] w fun e w' => e = .returned (.int .i64 (n : Int)) ∧ w' = w := by
  have := dused_calls h
  rw [show (fills s n n).tried.L.length = n by show ((upTo n).map _).length = n; rw [List.length_map, upTo_len]] at this
  exact this

theorem blk_arg (s : Int) (I : Nat) : IntKind.u8.wrap (s + IntKind.u8.wrap (I : Int)) = (s + (I : Int)) % 256 := by
  show (s + ((I : Int) % 256)) % 256 = _
  omega
theorem ids_cell {w : World} {C g n c : Nat} {l : List Int} (h : OwnI w C (.slice (some ⟨g, 0, none⟩) n c) l) (i : Nat) (hi : i < l.length) {z : Int} (hz : l.getD i 0 = z) : w.cell? ⟨g, i, none⟩ = some (.int .i64 z) := by
  obtain ⟨a, c', e, hI⟩ := h.ints
  have := Ints.cell (show Ints w (some ⟨g, 0, none⟩) l.length c' l by cases e; exact hI) i hi
  rw [Nat.zero_add] at this
  rw [this, ← hz]
  simp [List.getD, hi]
/-- What is left of the blocks. -/
def Left (s : Int) (n : Nat) (d : Dev) (A : List Int) (t : Nat) : Prop := d.fu = [] ∧ d.fa = [] ∧ d.be = [] ∧ d.takes = t ∧ d.most = n ∧ ∀ q, q ∈ d.L ↔ ∃ j ∈ A, q = entry s j
theorem left_start {s : Int} {n : Nat} {A : List Int} (h : A.Perm (upTo n)) : Left s n (fills s n n).tried A 0 := by
  refine ⟨rfl, rfl, rfl, rfl, rfl, fun q => ?_⟩
  show q ∈ (upTo n).map (entry s) ↔ _
  rw [List.mem_map]
  constructor
  · rintro ⟨j, hj, rfl⟩; exact ⟨j, h.mem_iff.2 hj, rfl⟩
  · rintro ⟨j, hj, rfl⟩; exact ⟨j, h.mem_iff.1 hj, rfl⟩
theorem left_in {s : Int} {n : Nat} {d : Dev} {A : List Int} {i : Int} {t : Nat} (h : Left s n d (i :: A) t) : (i + 1, blk ((s + i) % 256) 64) ∈ d.L := (h.2.2.2.2.2 _).2 ⟨i, by simp, rfl⟩
theorem left_took {s : Int} {n : Nat} {d : Dev} {A : List Int} {i : Int} {t : Nat} (h : Left s n d (i :: A) t) (hi : i ∉ A) : Left s n (d.took (i + 1)) A (t + 1) := by
  obtain ⟨h1, h2, h3, h4, h5, h6⟩ := h
  refine ⟨h1, h2, h3, by show d.takes + 1 = _; rw [h4], h5, fun q => ?_⟩
  show q ∈ d.L.filter _ ↔ _
  rw [List.mem_filter, h6]
  constructor
  · rintro ⟨⟨j, hj, rfl⟩, hne⟩
    rcases List.mem_cons.1 hj with rfl | hj
    · simp [entry] at hne
    · exact ⟨j, hj, rfl⟩
  · rintro ⟨j, hj, rfl⟩
    refine ⟨⟨j, List.mem_cons_of_mem _ hj, rfl⟩, ?_⟩
    have : j ≠ i := fun e => hi (e ▸ hj)
    simp [entry]; omega
theorem left_none {s : Int} {n : Nat} {d : Dev} {A : List Int} {i : Int} {t : Nat} (h : Left s n d A t) (hi : i ∉ A) : ∀ q ∈ d.L, q.1 ≠ i + 1 := by
  intro q hq e
  obtain ⟨j, hj, rfl⟩ := (h.2.2.2.2.2 q).1 hq
  have : j = i := by simp [entry] at e; omega
  exact hi (this ▸ hj)
theorem left_nil {s : Int} {n : Nat} {d : Dev} {t : Nat} (h : Left s n d [] t) : d.L = [] := List.eq_nil_iff_forall_not_mem.2 (fun q hq => by obtain ⟨j, hj, _⟩ := (h.2.2.2.2.2 q).1 hq; cases hj)
theorem used_none {w : World} {g mb bb : Nat} {v1 v2 : Value} {V : List (Int × Value)} {d : Dev} (h : Dvx w g mb bb v1 v2 V d) (hl : d.L = []) :
    Calls Try.prog 11 #[.pointer (some ⟨g, 0, none⟩)] w fun e w' => e = .returned (.int .i64 0) ∧ w' = w := by
  have := dused_calls h
  rw [hl] at this
  exact this
theorem most_at {w : World} {g mb bb : Nat} {v1 v2 : Value} {V : List (Int × Value)} {d : Dev} (h : Dvx w g mb bb v1 v2 V d) {n : Nat} (hl : d.most = n) :
    Calls Try.prog 13 #[.pointer (some ⟨g, 0, none⟩)] w fun e w' => e = .returned (.int .i64 (n : Int)) ∧ w' = w := by
  subst hl; exact dmost_calls h

set_option maxRecDepth 100000 in
set_option maxHeartbeats 4000000 in
theorem fills_walk (room : Int) (wroom : (Lit.int .u8 room).wf = true) {a : Option Addr} {l cap : Nat} {bs : List UInt8} {w : World} (HB0 : Bytes w a l cap bs) (s : Int) (ws : (Lit.int .u8 s).wf = true) :
    Calls Try.prog 4 #[.int .u8 room, .slice a l cap, .int .u8 s] w fun e w' => e = .returned (.bool true) ∧ Below w.heap.size w w' := by
  have hlen := HB0.len
  subst hlen
  have hr := bounds_u8 wroom
  have hs := bounds_u8 ws
  obtain ⟨n, hn, hn2⟩ : ∃ n : Nat, room % 12 = (n : Int) ∧ n < 12 := ⟨(room % 12).toNat, by omega, by omega⟩
  have q0 : IntKind.i64.wrap (n : Int) = n := IntWalk.i64_in _ (by omega)
  have HN := dnew_room (n : Int) n (by omega)
  have hmk := run_make_ints (n := n) (hn := by omega)
  have HB := hid HB0
  clear HB0
  go_enter Try.func4, Try.ntmps4
  go_wp2_with (first
    | (go_at_call 7; refine (awake06 _).mono ?_; rintro e w1 ⟨rfl, hb1⟩)
    | (go_at_call 8; refine (HN _).mono ?_; rintro e w2 ⟨g, mb, bb, v1, v2, rfl, h2, hge, hb2⟩))
  have hb3 := hb1.trans (hb2.mono hb1.size)
  have hb4 := hb3.alloc hb3.size (.cells (zerosI n) 3)
  have h4 := h2.keep ((Below.refl _ _).alloc (Nat.le_refl _) (.cells (zerosI n) 3))
  have ho4 := own_base (own_zeros w2 n (by omega)) hb3.size
  obtain ⟨ib, hib⟩ : ∃ ib, w2.heap.size = ib := ⟨_, rfl⟩
  have HI := hid (show g < ib ∧ mb < ib ∧ bb < ib by rw [← hib]; exact h2.lt)
  have HG := hid (show w.heap.size ≤ g ∧ w.heap.size ≤ mb ∧ w.heap.size ≤ ib by rw [← hib]; have := hb1.size; have := hb3.size; omega)
  rw [hib] at ho4
  rw [hib]
  clear hmk h2 hge hb2 hb1 hb3 hib
  go_loopw [10, 11, 12, 37] (fun _ _ _ i wr => ∃ (k : Nat) (V : List (Int × Value)) (d : List Int), k ≤ n ∧ i = .int .i64 k ∧ Dvx wr g mb bb v1 v2 V (fills s n k) ∧ OwnI wr w.heap.size (.slice (some ⟨ib, 0, none⟩) n n) d ∧ Hid (d.length = n) ∧ Hid (∀ j, j < k → d.getD j 0 = (j : Int) + 1) ∧ Hid (∀ p ∈ V, ∀ q, p.2.ownBlock = some q → q ≠ ib) ∧ Below w.heap.size w wr) (fun _ _ _ i _ => n - (intOf i).toNat)
  case atStart => exact ⟨0, [], _, by omega, rfl, h4, ho4, (by show _ = _; simp), (fun j hj => by omega), (fun p hp => by cases hp), hb4⟩
  case round =>
    clear h4 ho4 hb4
    obtain ⟨k, V, d, hk, rfl, h, ho, HD, HE, HV, hb⟩ := hrel
    by_cases hlt : k < n
    · have hHI := HI.out
      go_wp2_with (first
        | (go_at_call 12; refine (block_calls _ _).mono ?_; rintro e w5 ⟨rfl, hB5, hb5⟩)
        | (go_at_call 9; refine (put_fill (h.keep hb5) hlt hn2 (by first | exact hB5 | simpa using hB5) (by intro p hp; cases hp; have := h.lt; simp; omega)).mono ?_; rintro e w6 ⟨rfl, ⟨q6, c6, h6, hq6⟩, hf6⟩; have ho6 := own_fr (ho.keep hb5) hf6 (fun x hx hm => by simp [Value.ownBlock] at hx; subst hx; simp at hm; omega); obtain ⟨cur, hh, hcs, hnl⟩ := own_heap ho6; clear hnl; obtain ⟨u, c1⟩ : ∃ u, w6.cell? ⟨ib, k, none⟩ = some u := ⟨cur[k]'(by have := HD.out; omega), by rw [cell_at hh]; simp⟩; have f1 := free_at hh k; clear hh hcs))
      have HFB := hid (Fr.below (hb.trans (hb5.mono hb.size)) hf6 (by intro x hx; simp at hx; have := HG.out; rcases hx with rfl | rfl <;> omega) (by have := hb5.size; have := hb.size; omega))
      have HO6 := hid ho6
      have H6 := hid h6
      have HIB := hid (show wr.heap.size > ib by have := (World.ownsRow.lt ho ib rfl).2; exact this)
      have HQ6 := hid (show wr.heap.size ≤ q6 by have := hb5.size; omega)
      go_roundw
      case rel =>
        refine ⟨k + 1, _, d.set k ((k : Int) + 1), by omega, by go_num, H6.out.fr (Fr.set (Fr.refl [ib] _) ⟨ib, k, none⟩ (.inl (by simp)) _) (by simp; omega) ?_ rfl rfl, OwnI.store HO6.out k _, by show _ = _; rw [List.length_set]; exact HD.out, fun j hj => ?_, ?_, HFB.out.setCell HG.out.2.2 _⟩
        · intro p hp q hq hm
          rcases List.mem_append.1 hp with hp | hp
          · exact HV.out p hp q hq (by simpa using hm)
          · simp at hp; subst hp; simp [Value.ownBlock] at hq; simp at hm; have := HQ6.out; have := HIB.out; omega
        · rw [List.getD_eq_getElem?_getD, List.getElem?_set]
          by_cases hjk : k = j
          · subst hjk; have := HD.out; simp [show k < d.length by omega]
          · rw [if_neg hjk, ← List.getD_eq_getElem?_getD]; exact HE.out j (by omega)
        · intro p hp q hq
          rcases List.mem_append.1 hp with hp | hp
          · exact HV.out p hp q hq
          · simp at hp; subst hp; simp [Value.ownBlock] at hq; have := HQ6.out; have := HIB.out; omega
      case measure => simp [intOf]; omega
    · obtain rfl : k = n := by omega
      have hmk := run_make_ints (n := k) (hn := by omega)
      go_wp2_with (first
        | (go_at_call 12; refine (block_calls _ _).mono ?_; rintro e w5 ⟨rfl, hB5, hb5⟩)
        | (go_at_call 9; refine (put_over (h.keep hb5) hn2).mono ?_; rintro e w6 ⟨rfl, h6, hf6⟩)
        | (go_at_call 11; refine (used_over h6).mono ?_; rintro e w6 ⟨rfl, rfl⟩))
      have hHI := HI.out
      have hHG := HG.out
      have hib5 := (World.ownsRow.lt ho ib rfl).2
      have hb6 := Fr.below (hb.trans (hb5.mono hb.size)) hf6 (by intro x hx; simp at hx; rcases hx with rfl | rfl <;> omega) (by have := hb5.size; have := hb.size; omega)
      have ho6 := own_fr (ho.keep hb5) hf6 (fun x hx hm => by simp [Value.ownBlock] at hx; subst hx; simp at hm; omega)
      have hA := (Below.refl w6.heap.size w6).alloc (Nat.le_refl _) (.cells (zerosI k) 3)
      obtain ⟨W, hW⟩ : ∃ W, w6.alloc (.cells (zerosI k) 3) = W := ⟨_, rfl⟩
      obtain ⟨ab, hab⟩ : ∃ ab, w6.heap.size = ab := ⟨_, rfl⟩
      have hiab : ib < ab := by have := hb5.size; have := hf6.size; omega
      have hD := h6.keep hA
      have HVB : Hid (∀ p ∈ V, ∀ q, p.2.ownBlock = some q → q ≠ ab) := fun p hp q hq e => by have := rows_lt h6.rows p hp q hq; omega
      have hO := OwnI.keep ho6 hA
      have hT := own_base (own_zeros w6 k (by omega)) hb6.size
      have hBW := hb6.alloc hb6.size (.cells (zerosI k) 3)
      rw [hW] at hD hO hT hBW
      rw [hab] at hT
      rw [hW, hab]
      have HDX := hid hD
      have HOX := hid hO
      have HBX := hid hBW
      have HIA := hid hiab
      clear hD hO hBW h6 h ho hb hb5 hb6 ho6 hA hW hab hf6 hB5 hib5 hiab hmk HV
      go_loopw [16, 75] (fun _ i wr => ∃ (j : Nat) (d2 : List Int), j ≤ k ∧ i = .int .i64 j ∧ OwnI wr w.heap.size (.slice (some ⟨ab, 0, none⟩) k k) d2 ∧ Hid (d2.length = k) ∧ Hid (∀ i, i < j → d2.getD i 0 = i) ∧ Fr [ab] W wr) (fun _ i _ => k - (intOf i).toNat)
      case atStart => exact ⟨0, _, by omega, rfl, hT, (by show _ = _; simp), fun j hj => by omega, Fr.refl _ _⟩
      case round =>
        clear hT
        obtain ⟨j, d2, hj, rfl, ho, HD2, HJ, hf⟩ := hrel
        by_cases hlt2 : j < k
        · obtain ⟨cur, hh, hcs, hnl⟩ := own_heap ho
          clear hnl
          obtain ⟨u, c1⟩ : ∃ u, wr.cell? ⟨ab, j, none⟩ = some u := ⟨cur[j]'(by have := HD2.out; omega), by rw [cell_at hh]; simp⟩
          have f1 := free_at hh j
          clear hh hcs
          have HO2 := hid ho
          clear ho
          go_wp2
          go_roundw
          case rel =>
            refine ⟨j + 1, d2.set j (j : Int), by omega, by go_num, OwnI.store HO2.out j (j : Int), (by show _ = _; rw [List.length_set]; exact HD2.out), fun i hi => ?_, hf.set _ (.inl (by simp)) _⟩
            rw [List.getD_eq_getElem?_getD, List.getElem?_set]
            by_cases hjk : j = i
            · subst hjk; have := HD2.out; simp [show j < d2.length by omega]
            · rw [if_neg hjk, ← List.getD_eq_getElem?_getD]; exact HJ.out i (by omega)
          case measure => simp [intOf]; omega
        · obtain rfl : j = k := by omega
          have HP : Hid (d2.Perm (upTo j)) := by
            have : d2 = upTo j := by
              apply List.ext_getElem (by rw [upTo_len]; exact HD2.out)
              intro i h1 h2
              have := HJ.out i (by rw [HD2.out] at h1; exact h1)
              rw [show d2.getD i 0 = d2[i] by simp [h1]] at this
              rw [this]; simp [upTo]
            rw [this]; exact List.Perm.refl _
          go_upto_region 24 with (fail)
          go_loopw [17, 18, 85] (fun _ _ i wr => ∃ (t : Nat) (d2 : List Int), t ≤ j ∧ i = .int .i64 t ∧ OwnI wr w.heap.size (.slice (some ⟨ab, 0, none⟩) j j) d2 ∧ Hid (d2.length = j) ∧ Hid (d2.Perm (upTo j)) ∧ Fr [ab] W wr) (fun _ _ i _ => j - (intOf i).toNat)
          case atStart => exact ⟨0, d2, by omega, rfl, ho, HD2, HP, hf⟩
          case round =>
            clear ho HD2 HP hf HJ
            obtain ⟨t, d2, ht, rfl, ho, HD2, HP, hf⟩ := hrel
            by_cases htj : t < j
            · by_cases hlt3 : t < bs.length
              · have hbr : Below w.heap.size w wr := Fr.below HBX.out hf (by intro x hx; simp at hx; subst hx; have := HIA.out; omega) HBX.out.size
                obtain ⟨b', off', rfl, k0⟩ := (Bytes.keep HB.out hbr).at t hlt3
                obtain ⟨x, hx⟩ : ∃ x, x = (bs[t].toNat : Int) := ⟨_, rfl⟩
                have hxb : 0 ≤ x ∧ x < 256 := by have := bs[t].toNat_lt; omega
                rw [← hx] at k0
                clear hx hbr
                obtain ⟨M, hM, hM2⟩ : ∃ M : Nat, x % ((j : Int) - (t : Int)) = (M : Int) ∧ t + M < j := by
                  have h1 : 0 ≤ x % ((j : Int) - (t : Int)) := Int.emod_nonneg _ (by omega)
                  have h2 : x % ((j : Int) - (t : Int)) < (j : Int) - t := Int.emod_lt_of_pos _ (by omega)
                  exact ⟨(x % ((j : Int) - (t : Int))).toNat, by omega, by omega⟩
                have z0 : ¬ ((j : Int) - (t : Int) = 0) := by omega
                have q1 : IntKind.i64.wrap x = x := IntWalk.i64_in _ (by omega)
                have q2 : IntKind.i64.wrap ((j : Int) - (t : Int)) = (j : Int) - t := IntWalk.i64_in _ (by omega)
                have q3 : IntKind.i64.wrap ((t : Int) + (M : Int)) = ((t + M : Nat) : Int) := by rw [IntWalk.i64_in _ (by omega)]; omega
                have HM2 := hid hM2
                have HO2 := hid ho
                clear hM2 ho
                go_upto_region 27 with (fail)
                go_cut [18] from 92 to 102 (fun c wx => ∃ J : Nat, c = .int .i64 (J : Int) ∧ t ≤ J ∧ J < j ∧ wx = wr)
                case first =>
                  go_wp2
                  go_meet
                  case rel => exact ⟨t + M, by simp, by omega, HM2.out, rfl⟩
                case rest =>
                  clear q1 q2 q3 hM k0 z0 HM2
                  obtain ⟨J, rfl, hJ1, hJ3, rfl⟩ := hcut
                  clear M
                  have ho : OwnI wc w.heap.size (.slice (some ⟨ab, 0, none⟩) j j) d2 := HO2.out
                  have hdl : d2.length = j := HD2.out
                  obtain ⟨a0, c0, e0, hI⟩ := ho.ints
                  obtain ⟨cur, hh, hcs, hkd⟩ := own_heap ho
                  have k1 := fun (i : Nat) (hi : i < d2.length) => Ints.cell (show Ints wc (some ⟨ab, 0, none⟩) d2.length c0 d2 by cases e0; exact hI) i hi
                  have k1t := k1 t (by omega)
                  have k1J := k1 J (by omega)
                  rw [Nat.zero_add] at k1t k1J
                  have bt : t < d2.length := by omega
                  have bJ : J < d2.length := by omega
                  obtain ⟨x1, hx1⟩ : ∃ x, d2[t]'bt = x := ⟨_, rfl⟩
                  obtain ⟨y1, hy1⟩ : ∃ y, d2[J]'bJ = y := ⟨_, rfl⟩
                  rw [hx1] at k1t
                  rw [hy1] at k1J
                  have g1 := free_at hh t
                  have g2 := free_at hh J
                  have n1 : (t : Int) < (j : Int) := by omega
                  have n2 : (J : Int) < (j : Int) := by omega
                  have HX := hid hx1
                  have HY := hid hy1
                  have HF := hid (fun (w' : World) (hw : w' = ((wc.setCell ⟨ab, t, none⟩ (.int .i64 y1)).setCell ⟨ab, J, none⟩ (.int .i64 x1)).drew) => own_swapped ho t J bt bJ hx1 hy1 hw)
                  have HSP : Hid ((swapL d2 t J).Perm (upTo j)) := (swap_perm (by omega) (by omega)).trans HP.out
                  have hlt4 : t + 1 ≤ j := by omega
                  clear hx1 hy1 hI e0 ho hdl hcs k1 hkd HP HO2
                  by_cases htJ : t = J
                  · subst htJ
                    obtain rfl : x1 = y1 := HX.out.symm.trans HY.out
                    have k3 : ((wc.setCell ⟨ab, t, none⟩ (.int .i64 x1)).drew).cell? ⟨ab, t, none⟩ = some (.int .i64 x1) := by
                      have := cell_at (heap_set (a := ⟨ab, t, none⟩) hh rfl (.int .i64 x1)) t
                      have h2 := cell_at hh t
                      rw [k1t] at h2
                      have h3 : t < cur.size := by
                        rcases Nat.lt_or_ge t cur.size with h | h
                        · exact h
                        · rw [Array.getElem?_eq_none h] at h2; cases h2
                      show (wc.setCell ⟨ab, t, none⟩ (.int .i64 x1)).cell? ⟨ab, t, none⟩ = _
                      rw [this]; simp [h3]
                    clear hh
                    go_wp2
                    go_region
                    all_goals
                      go_wp2
                      go_roundw
                      case rel => exact ⟨t + 1, swapL d2 t t, by omega, by go_num, (HF.out _ rfl).1, by show _ = _; rw [swap_len]; exact HD2.out, HSP, hf.trans (HF.out _ rfl).2 (Grows.refl _ _)⟩
                      case measure => simp [intOf]; omega
                  · have m1 : ¬ J = t := fun e => htJ e.symm
                    clear hh
                    go_wp2
                    go_region
                    all_goals
                      go_wp2
                      go_roundw
                      case rel => exact ⟨t + 1, swapL d2 t J, by omega, by go_num, (HF.out _ rfl).1, by show _ = _; rw [swap_len]; exact HD2.out, HSP, hf.trans (HF.out _ rfl).2 (Grows.refl _ _)⟩
                      case measure => simp [intOf]; omega
              · go_wp2
                go_roundw
                case rel => exact ⟨t + 1, d2, by omega, by go_num, ho, HD2, HP, hf⟩
                case measure => simp [intOf]; omega
            · obtain rfl : t = j := by omega
              have hHI := HI.out
              have hHG := HG.out
              have hia := HIA.out
              have hbr : Below w.heap.size w wr := Fr.below HBX.out hf (by intro x hx; simp at hx; subst hx; omega) HBX.out.size
              have hD := HDX.out.fr hf (by simp; omega) (fun p hp q hq hm => HVB.out p hp q hq (by simpa using hm)) rfl rfl
              have hO : OwnI wr w.heap.size (.slice (some ⟨ib, 0, none⟩) t t) d := own_fr HOX.out hf (fun x hx hm => by simp [Value.ownBlock] at hx; subst hx; simp at hm; omega)
              have HND : Hid (d2.Nodup) := HP.out.nodup_iff.2 (by unfold upTo; exact List.pairwise_map.2 (List.nodup_range.imp (fun h e => h (by omega))))
              have HMX : Hid (∀ i ∈ d2, 0 ≤ i ∧ i < t) := fun i hi => upTo_mem.1 (HP.out.mem_iff.1 hi)
              have HL0 := hid (left_start (s := s) HP.out)
              have HDL := hid (show d.length = t from HD.out)
              clear hf HVB HOX HDX HP HBX
              go_upto_region 31 with (fail)
              go_loopw [20, 21, 22, 23, 24, 120] (fun _ _ _ _ _ i wr => ∃ (u : Nat) (V : List (Int × Value)) (dd : Dev), u ≤ t ∧ i = .int .i64 u ∧ Dvx wr g mb bb v1 v2 V dd ∧ Hid (Left s t dd (d2.drop u) u) ∧ OwnI wr w.heap.size (.slice (some ⟨ib, 0, none⟩) t t) d ∧ OwnI wr w.heap.size (.slice (some ⟨ab, 0, none⟩) t t) d2 ∧ Below w.heap.size w wr) (fun _ _ _ _ _ i _ => t - (intOf i).toNat)
              case atStart => exact ⟨0, _, _, by omega, rfl, hD, by rw [List.drop_zero]; exact HL0, hO, ho, hbr⟩
              case round =>
                clear hD hO ho hbr HL0
                obtain ⟨u, V2, dd, hu, rfl, hD, HL, hO, hT, hb⟩ := hrel
                by_cases hut : u < t
                · have hul : u < d2.length := by have := HD2.out; omega
                  have hd := List.drop_eq_getElem_cons hul
                  obtain ⟨i0, hi0⟩ : ∃ i0, d2[u]'hul = i0 := ⟨_, rfl⟩
                  have hi0m : i0 ∈ d2 := by rw [← hi0]; exact List.getElem_mem _
                  obtain ⟨I, rfl⟩ : ∃ I : Nat, i0 = (I : Int) := ⟨i0.toNat, by have := HMX.out i0 hi0m; omega⟩
                  have hIt : I < t := by have := HMX.out _ hi0m; omega
                  rw [hi0] at hd
                  have HL2 : Hid (Left s t dd ((I : Int) :: d2.drop (u + 1)) u) := by show Left _ _ _ _ _; rw [← hd]; exact HL.out
                  have HNI : Hid ((I : Int) ∉ d2.drop (u + 1)) := by
                    have h1 : (d2.drop u).Nodup := HND.out.sublist (List.drop_sublist _ _)
                    rw [hd] at h1
                    exact (List.nodup_cons.1 h1).1
                  obtain ⟨aT, cT, eT, hTI⟩ := hT.ints
                  have k1 := Ints.cell (show Ints wr (some ⟨ab, 0, none⟩) d2.length cT d2 by cases eT; exact hTI) u hul
                  obtain ⟨aO, cO, eO, hOI⟩ := hO.ints
                  have hIl : I < d.length := by have := HDL.out; omega
                  have k2 := Ints.cell (show Ints wr (some ⟨ib, 0, none⟩) d.length cO d by cases eO; exact hOI) I hIl
                  have hdI : d[I]'hIl = (I : Int) + 1 := by have := HE.out I hIt; simpa [List.getD, hIl] using this
                  rw [Nat.zero_add, hi0] at k1
                  rw [Nat.zero_add, hdI] at k2
                  have nI : (I : Int) < (t : Int) := by omega
                  obtain ⟨B, hB⟩ : ∃ B, blk ((s + (I : Int)) % 256) 64 = B := ⟨_, rfl⟩
                  have hzL := left_in HL2.out
                  rw [hB] at hzL
                  have HBB := hid hB
                  have HZL := hid hzL
                  have HO := hid hO
                  have HT := hid hT
                  have hB64 : B.length = 64 := by rw [← hB]; exact blk_len _ _
                  have HB64 := hid hB64
                  clear hd hi0 hi0m eT hTI eO hOI hdI hB hzL HL hO hT hul hIl hB64
                  go_upto_region 35 with (first
                    | (go_at_call 10; refine (dtake_ok hD HZL.out (by omega) (by have := HL2.out.2.2.2.1; omega) (by rw [HL2.out.2.1]; simp) (by rw [HL2.out.2.2.1]; intro p hp; cases hp)).mono ?_; rintro e w5 ⟨v5, rfl, hv5, hD5, hf5⟩; have hO5 : OwnI w5 w.heap.size (.slice (some ⟨ib, 0, none⟩) t t) d := own_fr HO.out hf5 (fun x hx hm => by simp [Value.ownBlock] at hx; subst hx; simp at hm; omega); have hT5 : OwnI w5 w.heap.size (.slice (some ⟨ab, 0, none⟩) t t) d2 := own_fr HT.out hf5 (fun x hx hm => by simp [Value.ownBlock] at hx; subst hx; simp at hm; omega); have k5 := ids_cell hO5 I (by have := HDL.out; omega) (by have := HE.out I hIt; exact this); obtain ⟨a5, c5, rfl, hy5⟩ := hv5.bytes; rw [HB64.out] at hy5 ⊢; have HO5 := hid hO5; have HT5 := hid hT5; have HF5 := hid hf5; clear hO5 hT5 hf5 hv5)
                    | (go_at_call 10; refine (dtake_none hD5 (left_none (left_took HL2.out HNI.out) HNI.out) (by omega)).mono ?_; rintro e w5 ⟨rfl, rfl⟩))
                  have hs0 := run_str (P := Try.prog) hy5.drew 22 9 5 Try.underlying22 Try.underlying5 Try.underlying9
                  have qS := blk_arg s I
                  clear k5 k1 k2 nI
                  go_region_held (fun w' => (convert 22 9 (.slice a5 64 c5)).run Try.prog w' = .ok (.string (str B)) w') (first | exact hs0 | exact hs7)
                    (first
                    | (go_at_call 12; refine (block_calls _ _).mono ?_; rintro e w7 ⟨rfl, hB7, hb7⟩; rw [HBB.out] at hB7; have hs7 := run_str (P := Try.prog) (hy5.drew.keep hb7) 22 9 5 Try.underlying22 Try.underlying5 Try.underlying9; have hs8 : (convert 22 9 (.slice (some ⟨w5.heap.size, 0, none⟩) 64 64)).run Try.prog w7 = .ok (.string (str B)) w7 := run_str (P := Try.prog) hB7 22 9 5 Try.underlying22 Try.underlying5 Try.underlying9))
                  all_goals
                    clear hs0 hs7 hs8 hB7 hy5
                    go_wp2
                    go_roundw
                    case rel =>
                      have hb57 : Below w5.heap.size w5 w7 := (Below.refl _ _).drew.trans hb7
                      have hbw5 := Fr.below hb HF5.out (by intro x hx; simp at hx; rcases hx with rfl | rfl <;> omega) hb.size
                      exact ⟨u + 1, _, _, by omega, by go_num, hD5.keep hb57, left_took HL2.out HNI.out, OwnI.keep HO5.out hb57, OwnI.keep HT5.out hb57, hbw5.trans (hb57.mono hbw5.size)⟩
                    case measure => simp [intOf]; omega
                · obtain rfl : u = t := by omega
                  have hnil := left_nil (by have := HL.out; rwa [List.drop_eq_nil_of_le (by have := HD2.out; omega)] at this)
                  have hmost := HL.out.2.2.2.2.1
                  go_wp2_with (first
                    | (go_at_call 11; refine (used_none hD hnil).mono ?_; rintro e wr ⟨rfl, rfl⟩)
                    | (go_at_call 13; refine (most_at hD hmost).mono ?_; rintro e wr ⟨rfl, rfl⟩))
                  go_ret
                  exact ⟨rfl, hb⟩
end Go.Proofs.Ytbandclbnlbkjaa
