/-
  The walk of the law 'StepsRight'.
-/
import Derived.Test.YtekimoblmcbjlaaStEnd
import Derived.Deep.CutRange
import Derived.BigRegion
import Derived.Deep.QuietTactic
import Derived.BigQuiet
namespace Go.Proofs.Ytekimoblmcbjlaa
open Go.RowKit

def zerosI (n : Nat) : Array Value := (List.replicate n (i64 0)).toArray
theorem run_make_ints (w : World) (n : Nat) (hn : n ≤ 4096) :
    (Instr.makeSlice 22 (.int .i64 (n : Int)) (.int .i64 (n : Int))).run Try.prog w = .ok (.slice (some ⟨w.heap.size, 0, none⟩) n n) (w.alloc (.cells (zerosI n) 3)) := by
  obtain ⟨i, hi, hz0, hz1, hz2⟩ := info_parts Try.elI64.hi
  have h := run_make w 22 3 i _ Try.elI64.ht hi hz0 .i64 .i64 (n : Int) n (by omega) (by omega) (by rw [hz2]; omega) (by omega)
  rw [h, hz1, Int.toNat_natCast]
  have : madeCells (Value.int .i64 0).cells (n * 1) = zerosI n := by
    apply Array.toList_inj.1
    rw [Nat.mul_one]
    show (madeCells #[Value.int .i64 0] n).toList = _
    rw [toList_madeCells_one]
    simp [zerosI]
  rw [this]
theorem own_zeros (w : World) (n : Nat) (hn : n ≤ 4096) : OwnI (w.alloc (.cells (zerosI n) 3)) w.heap.size (.slice (some ⟨w.heap.size, 0, none⟩) n n) (List.replicate n 0) := by
  refine ⟨by simp, .inr ⟨w.heap.size, n, zerosI n, by simp, Nat.le_refl _, heap_new _ _, by simp, by unfold maxLen; omega, by simp [zerosI], by simp [zerosI]⟩⟩
/-- An exchange in a row of the call's own. -/
theorem own_swapped {w : World} {B b n c : Nat} {l : List Int} (h : OwnI w B (.slice (some ⟨b, 0, none⟩) n c) l) (i j : Nat) (hi : i < l.length) (hj : j < l.length) {x y : Int} (hx : l[i] = x) (hy : l[j] = y) {w' : World} (hw : w' = ((w.setCell ⟨b, i, none⟩ (.int .i64 y)).setCell ⟨b, j, none⟩ (.int .i64 x)).drew) :
    OwnI w' B (.slice (some ⟨b, 0, none⟩) n c) (swapL l i j) ∧ Fr [b] w w' := by
  subst hw
  have HL : swapL l i j = (l.set i y).set j x := by simp [swapL, hi, hj, hx, hy]
  refine ⟨?_, ?_⟩
  · rw [HL]
    exact (((h.store i y).store j x).keep (Below.refl _ _).drew)
  · have := Fr.set (Fr.set (Fr.refl [b] w) ⟨b, i, none⟩ (.inl (by simp)) (.int .i64 y)) ⟨b, j, none⟩ (.inl (by simp)) (.int .i64 x)
    exact ⟨this.os, this.tape, this.output, this.size, this.block⟩
theorem own_heap {w : World} {B b n c : Nat} {l : List Int} (h : OwnI w B (.slice (some ⟨b, 0, none⟩) n c) l) : ∃ cur, w.heap[b]? = some (.cells cur 3 (0, 0)) ∧ l.length ≤ cur.size ∧ n = l.length := by
  obtain ⟨h1, ⟨h2, _⟩ | ⟨g, cap, cur, h2, h3, h4, h5, h6, h7, _⟩⟩ := h
  · cases h2
  · have e1 : b = g := by have := congrArg Value.ownBlock h2; simpa [Value.ownBlock] using this
    subst e1
    exact ⟨cur, h4, by omega, by cases h2; rfl⟩

set_option maxRecDepth 100000 in
set_option maxHeartbeats 4000000 in
theorem right_walk (many : Int) (wm : (Lit.int .u8 many).wf = true) {a : Option Addr} {l cap : Nat} {bs : List UInt8} {w : World} (HB : Bytes w a l cap bs) :
    Calls Try.prog 5 #[.int .u8 many, .slice a l cap] w fun e w' => e = .returned (.bool true) ∧ Below w.heap.size w w' := by
  have hlen := HB.len
  subst hlen
  have hle := Sl.le HB
  have hbig := Sl.big HB
  have hm := bounds_u8 wm
  obtain ⟨n, hn, hn2⟩ : ∃ n : Nat, many % 30 = (n : Int) ∧ n < 30 := ⟨(many % 30).toNat, by omega, by omega⟩
  have q0 : IntKind.i64.wrap (n : Int) = n := IntWalk.i64_in _ (by omega)
  have HN := snew_calls (n : Int)
  rw [show (min (max (n : Int) 0) 64).toNat = n by omega] at HN
  have hmk := run_make_ints (n := n) (hn := by omega)
  go_enter Try.func5, Try.ntmps5
  go_wp2_with (go_at_call 7; refine (awake24 _).mono ?_; rintro e w1 ⟨rfl, hb1⟩)
  clear hm hn hmk
  go_loopw [7, 24] (fun _ i wr => ∃ (k : Nat) (d : List Int), k ≤ n ∧ i = .int .i64 k ∧ OwnI wr w.heap.size (.slice (some ⟨w1.heap.size, 0, none⟩) n n) d ∧ d.length = n ∧ Hid (∀ j, j < k → d.getD j 0 = j) ∧ Below w.heap.size w wr) (fun _ i _ => n - (intOf i).toNat)
  case atStart => exact ⟨0, _, by omega, rfl, own_base (own_zeros w1 n (by omega)) hb1.size, by simp, fun j hj => by omega, hb1.alloc hb1.size _⟩
  case round =>
    have HW1 : Hid (w.heap.size ≤ w1.heap.size) := hb1.size
    clear hb1
    obtain ⟨k, d, hk, rfl, ho, hdl, HD, hb⟩ := hrel
    by_cases hlt : k < n
    · obtain ⟨cur, hh, hcs, _⟩ := own_heap ho
      obtain ⟨u, c1⟩ : ∃ u, wr.cell? ⟨w1.heap.size, k, none⟩ = some u := ⟨cur[k], by rw [cell_at hh]; simp⟩
      have f1 := free_at hh k
      have hdl' : Hid (d.length = n) := hdl
      clear hh hcs hdl
      go_wp2
      go_roundw
      case rel =>
        refine ⟨k + 1, d.set k (k : Int), by omega, by go_num, ho.store k (k : Int), by rw [List.length_set]; exact hdl'.out, fun j hj => ?_, hb.setCell HW1.out _⟩
        rw [List.getD_eq_getElem?_getD, List.getElem?_set]
        by_cases hjk : k = j
        · subst hjk; have := hdl'.out; simp [show k < d.length by omega]
        · rw [if_neg hjk, ← List.getD_eq_getElem?_getD]; exact HD.out j (by omega)
      case measure => simp [intOf]; omega
    · obtain rfl : k = n := by omega
      have HP : Hid (d.Perm (upTo k)) := by
        have : d = upTo k := by
          apply List.ext_getElem (by rw [upTo_len]; exact hdl)
          intro j h1 h2
          have := HD.out j (by omega)
          rw [show d.getD j 0 = d[j] by simp [h1]] at this
          rw [this]; simp [upTo]
        rw [this]; exact List.Perm.refl _
      go_wp2
      go_loopw [8, 9, 34] (fun _ _ i wr => ∃ (t : Nat) (d : List Int), t ≤ k ∧ i = .int .i64 t ∧ OwnI wr w.heap.size (.slice (some ⟨w1.heap.size, 0, none⟩) k k) d ∧ d.length = k ∧ Hid (d.Perm (upTo k)) ∧ Below w.heap.size w wr) (fun _ _ i _ => k - (intOf i).toNat)
      case atStart => exact ⟨0, d, by omega, rfl, ho, hdl, HP, hb⟩
      case round =>
        clear ho hdl hb HP HD
        obtain ⟨t, d, ht, rfl, ho, hdl, HP, hb⟩ := hrel
        by_cases hlt2 : t < k
        · by_cases hlt3 : t < bs.length
          · obtain ⟨b', off', rfl, k0⟩ := (HB.keep hb).at t hlt3
            obtain ⟨x, hx⟩ : ∃ x, x = (bs[t].toNat : Int) := ⟨_, rfl⟩
            have hxb : 0 ≤ x ∧ x < 256 := by have := bs[t].toNat_lt; omega
            rw [← hx] at k0
            clear hx
            obtain ⟨M, hM, hM2⟩ : ∃ M : Nat, x % ((k : Int) - (t : Int)) = (M : Int) ∧ t + M < k := by
              have h1 : 0 ≤ x % ((k : Int) - (t : Int)) := Int.emod_nonneg _ (by omega)
              have h2 : x % ((k : Int) - (t : Int)) < (k : Int) - t := Int.emod_lt_of_pos _ (by omega)
              exact ⟨(x % ((k : Int) - (t : Int))).toNat, by omega, by omega⟩
            have z0 : ¬ ((k : Int) - (t : Int) = 0) := by omega
            have q1 : IntKind.i64.wrap x = x := IntWalk.i64_in _ (by omega)
            have q2 : IntKind.i64.wrap ((k : Int) - (t : Int)) = (k : Int) - t := IntWalk.i64_in _ (by omega)
            have q3 : IntKind.i64.wrap ((t : Int) + (M : Int)) = ((t + M : Nat) : Int) := by rw [IntWalk.i64_in _ (by omega)]; omega
            have HM2 : Hid (t + M < k) := hM2
            have HO : Hid _ := ho
            have HDL : Hid (d.length = k) := hdl
            clear hM2 ho hdl
            go_upto_region 14 with (fail)
            clear hlt HN hle hbig HB
            go_cut [9] from 41 to 51 (fun c wx => ∃ J : Nat, c = .int .i64 (J : Int) ∧ t ≤ J ∧ J < k ∧ wx = wr)
            case first =>
              go_wp2
              go_meet
              case rel => exact ⟨t + M, by simp, by omega, HM2.out, rfl⟩
            case rest =>
              clear q1 q2 q3 hM k0 z0 HM2
              obtain ⟨J, rfl, hJ1, hJ3, rfl⟩ := hcut
              clear M
              have ho : OwnI _ w.heap.size (.slice (some ⟨w1.heap.size, 0, none⟩) k k) d := HO.out
              have hdl : d.length = k := HDL.out
              obtain ⟨a0, c0, e0, hI⟩ := ho.ints
              obtain ⟨cur, hh, hcs, hkd⟩ := own_heap ho
              have k1 := fun (i : Nat) (hi : i < d.length) => Ints.cell (show Ints wc (some ⟨w1.heap.size, 0, none⟩) d.length c0 d by cases e0; exact hI) i hi
              have k1t := k1 t (by omega)
              have k1J := k1 J (by omega)
              rw [Nat.zero_add] at k1t k1J
              have bt : t < d.length := by omega
              have bJ : J < d.length := by omega
              obtain ⟨x1, hx1⟩ : ∃ x, d[t]'bt = x := ⟨_, rfl⟩
              obtain ⟨y1, hy1⟩ : ∃ y, d[J]'bJ = y := ⟨_, rfl⟩
              rw [hx1] at k1t
              rw [hy1] at k1J
              have g1 := free_at hh t
              have g2 := free_at hh J
              have n1 : (t : Int) < (k : Int) := by omega
              have n2 : (J : Int) < (k : Int) := by omega
              have HX : Hid _ := hx1
              have HY : Hid _ := hy1
              have hfin := fun (w' : World) (hw : w' = ((wc.setCell ⟨w1.heap.size, t, none⟩ (.int .i64 y1)).setCell ⟨w1.heap.size, J, none⟩ (.int .i64 x1)).drew) => own_swapped ho t J bt bJ hx1 hy1 hw
              have HF : Hid _ := hfin
              have HSP : Hid ((swapL d t J).Perm (upTo k)) := (swap_perm (by omega) (by omega)).trans HP.out
              have hlt4 : t + 1 ≤ k := by omega
              have HK2 : Hid _ := hk
              clear hx1 hy1 hI e0 ho hdl hcs k1 hfin hkd HP HO hk
              by_cases htJ : t = J
              · subst htJ
                obtain rfl : x1 = y1 := HX.out.symm.trans HY.out
                have k3 : ((wc.setCell ⟨w1.heap.size, t, none⟩ (.int .i64 x1)).drew).cell? ⟨w1.heap.size, t, none⟩ = some (.int .i64 x1) := by
                  have := cell_at (heap_set (a := ⟨w1.heap.size, t, none⟩) hh rfl (.int .i64 x1)) t
                  have h2 := cell_at hh t
                  rw [k1t] at h2
                  have h3 : t < cur.size := by
                    rcases Nat.lt_or_ge t cur.size with h | h
                    · exact h
                    · rw [Array.getElem?_eq_none h] at h2; cases h2
                  show (wc.setCell ⟨w1.heap.size, t, none⟩ (.int .i64 x1)).cell? ⟨w1.heap.size, t, none⟩ = _
                  rw [this]; simp [h3]
                clear hh
                go_wp2
                go_region
                all_goals
                  go_wp2
                  go_roundw
                  case rel => exact ⟨t + 1, swapL d t t, by omega, by go_num, (HF.out _ rfl).1, by rw [swap_len]; exact HDL.out, HSP, Fr.below hb (HF.out _ rfl).2 (by simpa using HW1.out) hb.size⟩
                  case measure => simp [intOf]; omega
              · have m1 : ¬ J = t := fun e => htJ e.symm
                clear hh
                go_wp2
                go_region
                all_goals
                  go_wp2
                  go_roundw
                  case rel => exact ⟨t + 1, swapL d t J, by omega, by go_num, (HF.out _ rfl).1, by rw [swap_len]; exact HDL.out, HSP, Fr.below hb (HF.out _ rfl).2 (by simpa using HW1.out) hb.size⟩
                  case measure => simp [intOf]; omega
          · go_wp2
            go_roundw
            case rel => exact ⟨t + 1, d, by omega, by go_num, ho, hdl, HP, hb⟩
            case measure => simp [intOf]; omega
        · obtain rfl : t = k := by omega
          go_wp2_with (go_at_call 8; refine (HN _).mono ?_; rintro e w2 ⟨g, S, rfl, h2, hS, hb2⟩; have hb3 := hb.trans (hb2.mono hb.size); have ho2 := ho.keep hb2)
          obtain ⟨C, hC⟩ : ∃ C, wr.heap.size = C := ⟨_, rfl⟩
          have HSF : Hid (∀ x ∈ S, C ≤ x) := by rw [← hC]; exact hS
          have HWB : Hid (w.heap.size ≤ C ∧ w1.heap.size < C) := by rw [← hC]; exact ⟨hb.size, (World.ownsRow.lt ho w1.heap.size rfl).2⟩
          have HND : Hid (d.Nodup) := HP.out.nodup_iff.2 h2.facts.1
          have HDL : Hid (d.length = t) := hdl
          clear hC
          go_loopw [12, 13, 14, 71] (fun _ _ _ i wr2 => ∃ (s : Nat) (U : List Int), s ≤ t ∧ i = .int .i64 s ∧ Mc wr2 g S (upTo t) U 0 ∧ OwnI wr2 w.heap.size (.slice (some ⟨w1.heap.size, 0, none⟩) t t) d ∧ Hid (∀ z, z ∈ U ↔ z ∈ d.drop s) ∧ Below w.heap.size w wr2) (fun _ _ _ i _ => t - (intOf i).toNat)
          case atStart => exact ⟨0, upTo t, by omega, rfl, h2, ho2, fun z => by rw [List.drop_zero, HP.out.mem_iff], hb3⟩
          case round =>
            clear h2 hS hb2 hb3 ho2 ho hb hdl
            obtain ⟨s, U, hs, rfl, hM, ho, HM, hb⟩ := hrel
            by_cases hst : s < t
            · obtain ⟨a0, c0, e0, hI⟩ := ho.ints
              have k1 := Ints.cell (show Ints wr (some ⟨w1.heap.size, 0, none⟩) d.length c0 d by cases e0; exact hI) s (by have := HDL.out; omega)
              rw [Nat.zero_add] at k1
              have hd := List.drop_eq_getElem_cons (show s < d.length by have := HDL.out; omega)
              obtain ⟨p, hp⟩ : ∃ p, d[s]'(by have := HDL.out; omega) = p := ⟨_, rfl⟩
              rw [hp] at k1 hd
              have hpU : p ∈ U := by rw [HM.out, hd]; simp
              have HD2 : Hid _ := hd
              clear hp hd hI e0
              go_wp2_with (go_at_call 9; refine (next_right hM p hpU).mono ?_; rintro e w4 ⟨rfl, hM4, hf4⟩)
              go_roundw
              case rel =>
                refine ⟨s + 1, _, by omega, by go_num, hM4, own_fr ho hf4 (fun x hx hm => ?_), fun z => ?_, Fr.below hb hf4 (fun x hx => by have := HSF.out x hx; have := HWB.out; omega) hb.size⟩
                · simp [Value.ownBlock] at hx; subst hx
                  have := HSF.out _ hm; have := HWB.out; omega
                · have hnot : p ∉ d.drop (s + 1) := by
                    have h1 : (d.drop s).Nodup := HND.out.sublist (List.drop_sublist _ _)
                    rw [HD2.out] at h1
                    exact (List.nodup_cons.1 h1).1
                  rw [less_mem, HM.out, HD2.out, List.mem_cons]
                  constructor
                  · rintro ⟨h1 | h1, h2⟩
                    · exact absurd h1 h2
                    · exact h1
                  · intro h1; exact ⟨.inr h1, fun e => hnot (e ▸ h1)⟩
              case measure => simp [intOf]; omega
            · obtain rfl : s = t := by omega
              obtain rfl : U = [] := List.eq_nil_iff_forall_not_mem.2 (fun z hz => by have := (HM.out z).1 hz; rw [List.drop_eq_nil_of_le (by have := HDL.out; omega)] at this; cases this)
              go_wp2_with (first
                | (go_at_call 10; refine (left_calls hM).mono ?_; rintro e w8 ⟨rfl, rfl⟩)
                | (go_at_call 11; refine (odd_calls hM).mono ?_; rintro e w8 ⟨rfl, rfl⟩))
              go_ret
              exact ⟨rfl, hb⟩
end Go.Proofs.Ytekimoblmcbjlaa
