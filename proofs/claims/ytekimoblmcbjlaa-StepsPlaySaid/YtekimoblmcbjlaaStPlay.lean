/-
  The walk of the law 'StepsPlay'.
-/
import Derived.Test.YtekimoblmcbjlaaStEnd
import Derived.Deep.CutRange
namespace Go.Proofs.Ytekimoblmcbjlaa
open Go.RowKit

theorem hid {P : Prop} (h : P) : Hid P := h
theorem Sl.fr2 {S : List Nat} {w w' : World} {a : Option Addr} {n cap size : Nat} {xs : List Value} (h : Sl w a n cap size xs) (hf : Fr S w w') (hn : xs ≠ [] → ∀ p, a = some p → p.block ∉ S) : Sl w' a n cap size xs :=
  ⟨h.len, h.le, h.max, h.nil, fun hx => by
    obtain ⟨b, off, h1, h2, h3⟩ := h.row hx
    refine ⟨b, off, h1, Nat.lt_of_lt_of_le h2 hf.size, fun i hi => ?_⟩
    have := h3 i hi
    unfold World.cell? at this ⊢
    rw [hf.block b h2 (hn hx _ h1)]; exact this⟩
theorem least_of : ∀ {U : List Int}, U ≠ [] → ∃ z, z ∈ U ∧ ∀ y ∈ U, z ≤ y
  | [x], _ => ⟨x, by simp, fun y hy => by simp at hy; omega⟩
  | x :: y :: U, _ => by
    obtain ⟨z, hz, hl⟩ := least_of (U := y :: U) (by simp)
    by_cases h : x ≤ z
    · refine ⟨x, by simp, fun t ht => ?_⟩
      rcases List.mem_cons.1 ht with rfl | ht
      · omega
      · have := hl t ht; omega
    · refine ⟨z, List.mem_cons_of_mem _ hz, fun t ht => ?_⟩
      rcases List.mem_cons.1 ht with rfl | ht
      · omega
      · exact hl t ht
theorem less_nil (z : Int) : less [] z = [] := rfl

theorem dict_len_set {w : World} {mb : Nat} {U : List Int} (h : DictAt w mb (setU U)) {u : Nat} (hu : U.length = u) : ∀ ty, (Builtin.len_ #[28] ty #[.map (some mb)]).run Try.prog w = .ok (.int .i64 (u : Int)) w := by
  intro ty
  have := h.len (P := Try.prog) Try.underlying28 ty
  rw [List.length_map, hu] at this
  exact this
theorem dict_drop_set {w : World} {mb : Nat} {U : List Int} (h : DictAt w mb (setU U)) (z : Int) (wz : -9223372036854775808 ≤ z ∧ z < 9223372036854775808) : ∃ w', (Builtin.delete_ #[28, 3] 0 #[.map (some mb), .int .i64 z]).run Try.prog w = .ok (.tuple #[]) w' ∧ DictAt w' mb (setU (less U z)) ∧ Fr [mb] w w' := by
  obtain ⟨w1, e1, h2, h3⟩ := h.drop (P := Try.prog) Try.underlying28 Try.underlying3 (z := z) (WalkArith.wf_i64 (by omega)) 0
  refine ⟨w1, e1, ?_, h3⟩
  rw [less_map] at h2
  exact h2
theorem next_gone {w : World} {g : Nat} {S : List Nat} {H : List Int} {odd : Nat} (h : Mc w g S H [] odd) (p : Int) :
    Calls Try.prog 9 #[.pointer (some ⟨g, 0, none⟩), .int .i64 p] w fun e w' => e = .returned (.tuple #[.int .i64 0, .bool false]) ∧ Mc w' g S H (less [] 0) odd ∧ Fr S w w' := by
  refine (next_none h p).mono ?_
  rintro e w' ⟨h1, rfl⟩
  exact ⟨h1, h, Fr.refl _ _⟩
theorem left_at {w : World} {g : Nat} {S : List Nat} {H U : List Int} {odd : Nat} (h : Mc w g S H U odd) {u : Int} (hu : (U.length : Int) = u) :
    Calls Try.prog 10 #[.pointer (some ⟨g, 0, none⟩)] w fun e w' => e = .returned (.int .i64 u) ∧ w' = w := by subst hu; exact left_calls h
theorem odd_at {w : World} {g : Nat} {S : List Nat} {H U : List Int} {odd : Nat} (h : Mc w g S H U odd) {o : Int} (ho : (odd : Int) = o) :
    Calls Try.prog 11 #[.pointer (some ⟨g, 0, none⟩)] w fun e w' => e = .returned (.int .i64 o) ∧ w' = w := by subst ho; exact odd_calls h
theorem dict_len_at {w : World} {mb : Nat} {U : List Int} (h : DictAt w mb (setU U)) {u : Int} (hu : (U.length : Int) = u) : ∀ ty, (Builtin.len_ #[28] ty #[.map (some mb)]).run Try.prog w = .ok (.int .i64 u) w := by
  subst hu; exact dict_len_set h rfl

set_option maxRecDepth 100000 in
set_option maxHeartbeats 4000000 in
theorem play_walk (many : Int) (wm : (Lit.int .u8 many).wf = true) {a : Option Addr} {l cap : Nat} {zs : List Int} {w : World} (HZ : Sl w a l cap 1 (zs.map (Value.int .i64))) (HZF : ∀ z ∈ zs, (Lit.int .i64 z).wf = true) {a2 : Option Addr} {l2 cap2 : Nat} {bs : List UInt8} (HB : Bytes w a2 l2 cap2 bs) :
    Calls Try.prog 3 #[.int .u8 many, .slice a l cap, .slice a2 l2 cap2] w fun e w' => e = .returned (.bool true) ∧ Below w.heap.size w w' := by
  have hlen := HB.len
  subst hlen
  have hlenz : zs.length = l := Ints.len HZ
  subst hlenz
  by_cases hz100 : zs.length > 100
  · have d1 : decide ((zs.length : Int) > 100) = true := by simp; omega
    clear hz100
    go_enter Try.func3, Try.ntmps3
    go_wp2_with (go_at_call 7; refine (awake24 _).mono ?_; rintro e w1 ⟨rfl, hb1⟩)
    go_ret
    exact ⟨rfl, hb1⟩
  have d1 : decide ((zs.length : Int) > 100) = false := by simp; omega
  by_cases hb100 : bs.length > 100
  · have d2 : decide ((bs.length : Int) > 100) = true := by simp; omega
    clear hb100 hz100
    go_enter Try.func3, Try.ntmps3
    go_wp2_with (go_at_call 7; refine (awake24 _).mono ?_; rintro e w1 ⟨rfl, hb1⟩)
    go_ret
    exact ⟨rfl, hb1⟩
  have d2 : decide ((bs.length : Int) > 100) = false := by simp; omega
  have hm := bounds_u8 wm
  obtain ⟨n, hn, hn2⟩ : ∃ n : Nat, many % 20 = (n : Int) ∧ n < 20 := ⟨(many % 20).toNat, by omega, by omega⟩
  have q0 : IntKind.i64.wrap (n : Int) = n := IntWalk.i64_in _ (by omega)
  have HN := snew_calls (n : Int)
  rw [show (min (max (n : Int) 0) 64).toNat = n by omega] at HN
  have hmm := @run_makeMap Try.prog
  have HZL : Hid (zs.length ≤ 100) := Nat.le_of_not_lt hz100
  have HBL : Hid (bs.length ≤ 100) := Nat.le_of_not_lt hb100
  have HB' : Hid _ := HB
  have HZ' : Hid _ := HZ
  clear hz100 hb100 HB HZ
  go_enter Try.func3, Try.ntmps3
  go_wp2_with (go_at_call 7; refine (awake24 _).mono ?_; rintro e w1 ⟨rfl, hb1⟩)
  obtain ⟨B1, hB1⟩ : ∃ B1, w1.heap.size = B1 := ⟨_, rfl⟩
  have HW1 : Hid (w.heap.size ≤ B1) := by rw [← hB1]; exact hb1.size
  have hh1 : (w1.alloc (.cells #[.bool false, .bool true] 4)).heap[B1]? = some (.cells #[.bool false, .bool true] 4 (0, 0)) := by rw [← hB1]; exact heap_new _ _
  have hb2 := hb1.alloc hb1.size (.cells #[.bool false, .bool true] 4)
  rw [hB1]
  clear hB1
  go_loopw [8, 9, 10, 11, 12, 13, 14, 16, 18, 19, 20, 21, 22, 35] (fun _ _ _ _ _ _ _ _ _ _ _ _ _ i wr => ∃ k : Nat, k ≤ 2 ∧ i = .int .i64 k ∧ wr.heap[B1]? = some (.cells #[.bool false, .bool true] 4 (0, 0)) ∧ Below w.heap.size w wr) (fun _ _ _ _ _ _ _ _ _ _ _ _ _ i _ => 2 - (intOf i).toNat)
  case atStart => exact ⟨0, by omega, rfl, hh1, hb2⟩
  case round =>
    clear hh1 hb1 hb2
    obtain ⟨k, hk, rfl, hh, hb⟩ := hrel
    by_cases hk2 : k < 2
    · obtain ⟨b, k0⟩ : ∃ b, wr.cell? ⟨B1, k, none⟩ = some (.bool b) := by
        rw [cell_at hh]
        match k, hk2 with
        | 0, _ => exact ⟨false, rfl⟩
        | 1, _ => exact ⟨true, rfl⟩
      obtain ⟨W, hW⟩ : ∃ W, W = wr := ⟨_, rfl⟩
      subst hW
      have HHB : Hid _ := hh
      clear hh
      go_wp2_with (go_at_call 8; refine (HN _).mono ?_; rintro e w2 ⟨g, S, rfl, h2, hS, hb3⟩)
      have hb4 := hb3.alloc hb3.size (.map #[] 0)
      have hD0 : DictAt (w2.alloc (.map #[] 0)) w2.heap.size [] := DictAt.made _
      have hM0 := h2.keep ((Below.refl _ _).alloc (Nat.le_refl _) (.map #[] 0))
      obtain ⟨mb, hmb⟩ : ∃ mb, w2.heap.size = mb := ⟨_, rfl⟩
      have HS : Hid (∀ x ∈ S, W.heap.size ≤ x ∧ x < mb) := fun x hx => ⟨hS x hx, by rw [← hmb]; exact h2.lt x hx⟩
      have HMB : Hid (W.heap.size ≤ mb) := by rw [← hmb]; exact hb3.size
      rw [hmb] at hD0
      rw [hmb]
      clear hmb h2 hS hb3
      go_loopw [12, 46] (fun _ i wr => ∃ j : Nat, j ≤ n ∧ i = .int .i64 j ∧ Mc wr g S (upTo n) (upTo n) 0 ∧ DictAt wr mb (setU (upTo j)) ∧ Below W.heap.size W wr) (fun _ i _ => n - (intOf i).toNat)
      case atStart => exact ⟨0, by omega, rfl, hM0, hD0, hb4⟩
      case round =>
        clear hD0 hM0 hb4
        obtain ⟨j, hj, rfl, hM, hD, hbW⟩ := hrel
        by_cases hjn : j < n
        · obtain ⟨w5, e5, hD5, hf5⟩ := hD.add (P := Try.prog) Try.underlying28 Try.underlying3 (z := (j : Int)) (WalkArith.wf_i64 (by omega)) (end_no (fun h => by have := (upTo_mem.1 h).2; omega)) (.bool true)
          have HF5 : Hid _ := hf5
          have HD5 : Hid _ := hD5
          clear hf5 hD5
          go_wp2
          go_roundw
          case rel => exact ⟨j + 1, by omega, by go_num, hM.fr HF5.out (fun x hx hm => by simp at hm; have := (HS.out x hx).2; omega), by rw [upTo_succ, setU, List.map_append]; exact HD5.out, Fr.below hbW HF5.out (by simpa using HMB.out) hbW.size⟩
          case measure => simp [intOf]; omega
        · obtain rfl : j = n := by omega
          go_upto_if 52 with (fail)
          obtain ⟨W2, hW2⟩ : ∃ W2, W2 = wr := ⟨_, rfl⟩
          subst hW2
          have HBW : Hid _ := hbW
          have HDW : Hid (DictAt W2 mb (setU (upTo j))) := hD
          go_cut [14] from 53 to 67 (fun v wx => ∃ (a3 : Option Addr) (n3 c3 : Nat) (ps : List Int), v = .slice a3 n3 c3 ∧ Sl wx a3 n3 c3 1 (ps.map (Value.int .i64)) ∧ Hid (∀ z ∈ ps, (Lit.int .i64 z).wf = true) ∧ n3 ≤ 100 ∧ Hid (ps.map (Value.int .i64) ≠ [] → ∀ p, a3 = some p → p.block ∉ S ∧ p.block ≠ mb) ∧ Below W2.heap.size W2 wx)
          case first =>
            cases b
            · go_wp2
              go_meet
              case rel =>
                refine ⟨a, zs.length, cap, zs, rfl, HZ'.out.keep (hb.trans (HBW.out.mono hb.size)), HZF, HZL.out, fun hne p hp => ?_, Below.refl _ _⟩
                obtain ⟨b', off', h1, h2, _⟩ := HZ'.out.row hne
                rw [hp] at h1
                obtain rfl : p = _ := Option.some.inj h1
                have h3 : b' < W.heap.size := Nat.lt_of_lt_of_le h2 hb.size
                exact ⟨fun hm => by have := (HS.out _ hm).1; simp at this; omega, by have := HMB.out; simp; omega⟩
            · have hBy : Bytes W2 a2 bs.length cap2 bs := HB'.out.keep (hb.trans (HBW.out.mono hb.size))
              clear hM hD hbW
              go_upto_region 20 with (fail)
              have HMB2 : Hid (mb < W2.heap.size) := HDW.out.lt
              go_loopw [14, 16, 55] (fun v _ i wr => ∃ (j : Nat) (l : List Int), j ≤ bs.length ∧ i = .int .i64 j ∧ OwnI wr W2.heap.size v l ∧ Hid (l.length = j) ∧ Hid (∀ z ∈ l, -2 ≤ z ∧ z < 22) ∧ Below W2.heap.size W2 wr) (fun _ _ i _ => bs.length - (intOf i).toNat)
              case atStart => exact ⟨0, [], by omega, rfl, OwnI.nil _ _, rfl, (fun z hz => by cases hz), Below.refl _ _⟩
              case round =>
                obtain ⟨j, l, hj, rfl, ho, HL, HR, hb5⟩ := hrel
                by_cases hjb : j < bs.length
                · obtain ⟨b', off', rfl, k1⟩ := (hBy.keep hb5).at j hjb
                  obtain ⟨x, hx⟩ : ∃ x, x = (bs[j].toNat : Int) := ⟨_, rfl⟩
                  have hxb : 0 ≤ x ∧ x ≤ 255 := by have := bs[j].toNat_lt; omega
                  rw [← hx] at k1
                  clear hx
                  obtain ⟨y, hy, hy2⟩ : ∃ y : Nat, x % 24 = (y : Int) ∧ y < 24 := ⟨(x % 24).toNat, by omega, by omega⟩
                  have q1 : IntKind.i64.wrap (y : Int) = y := IntWalk.i64_in _ (by omega)
                  have q2 : IntKind.i64.wrap ((y : Int) - 2) = (y : Int) - 2 := IntWalk.i64_in _ (by omega)
                  have hbl : bs.length ≤ 100 := HBL.out
                  have hll : l.length ≤ 1000000 := by have := HL.out; omega
                  go_wp2_with (at_builtin; refine app_int (z := (y : Int) - 2) rfl _ _ rfl rfl ho rfl rfl hb5.size hll ?_; intro v1 w7 ho1 hg1)
                  go_roundw
                  case rel =>
                    refine ⟨j + 1, l ++ [(y : Int) - 2], by omega, by go_num, ho1, ?_, fun z hz => ?_, OwnI.belowA ho hb5 _ hg1 (Nat.le_refl _) hb5.size⟩
                    · show (l ++ [(y : Int) - 2]).length = j + 1
                      rw [List.length_append, HL.out]; rfl
                    · rcases List.mem_append.1 hz with h | h
                      · exact HR.out z h
                      · simp at h; omega
                  case measure => simp [intOf]; omega
                · obtain rfl : j = bs.length := by omega
                  obtain ⟨a5, c5, rfl, hI⟩ := ho.ints
                  go_wp2
                  go_meet
                  case rel =>
                    refine ⟨a5, l.length, c5, l, rfl, hI, fun z hz => WalkArith.wf_i64 (by have := HR.out z hz; omega), by have := HL.out; have := HBL.out; omega, fun hne p hp => ?_, hb5⟩
                    have h1 := (World.ownsRow.lt ho p.block (by rw [hp]; rfl)).1
                    exact ⟨fun hm => by have := (HS.out _ hm).2; have := HMB2.out; omega, by have := HMB2.out; omega⟩
          case rest =>
            clear k0
            obtain ⟨a3, n3, c3, ps, rfl, hP, HPF, hn3, HPN, hbC⟩ := hcut
            have hpl : ps.length = n3 := Ints.len hP
            subst hpl
            have hM1 := hM.keep hbC
            have hD1 := hD.keep hbC
            have hb1 := hbW.trans (hbC.mono hbW.size)
            clear hM hD hbW hbC
            go_upto_region 26 with (fail)
            go_loopw [13, 18, 19, 20, 21, 22, 70] (fun v13 _ _ _ _ _ i wr => ∃ (i7 odd : Nat) (H U : List Int), i7 ≤ ps.length ∧ i = .int .i64 i7 ∧ v13 = .int .i64 odd ∧ Mc wr g S H U odd ∧ DictAt wr mb (setU U) ∧ Sl wr a3 ps.length c3 1 (ps.map (Value.int .i64)) ∧ Hid (odd ≤ i7) ∧ Below W.heap.size W wr) (fun _ _ _ _ _ _ i _ => ps.length - (intOf i).toNat)
            case atStart => exact ⟨0, 0, _, _, by omega, rfl, rfl, hM1, hD1, hP, (by show _ ≤ _; omega), hb1⟩
            case round =>
              clear hM1 hD1 hb1 hP
              obtain ⟨i7, odd, H, U, hi7, rfl, rfl, hM, hD, hP, HO, hb7⟩ := hrel
              by_cases hlt : i7 < ps.length
              · obtain ⟨b', off', rfl, k1⟩ := Ints.at hP i7 hlt
                obtain ⟨p, hp⟩ : ∃ p, ps[i7] = p := ⟨_, rfl⟩
                have hpw : -9223372036854775808 ≤ p ∧ p < 9223372036854775808 := by
                  have := HPF.out p (by rw [← hp]; exact List.getElem_mem _)
                  have := bounds_i64 this
                  omega
                rw [hp] at k1
                clear hp
                have hod : odd ≤ i7 := HO.out
                have HSm : Hid (mb ∉ S) := fun hm => by have := (HS.out _ hm).2; omega
                have HSn : Hid (∀ x ∈ S, x ∉ [mb]) := fun x hx hm => by simp at hm; have := (HS.out x hx).2; omega
                by_cases hU : U = []
                · subst hU
                  have hl0 := dict_len_at hD (u := 0) rfl
                  have HV : Hid (((less [] 0).length : Int) = 0) := rfl
                  go_wp2_with (first
                    | (go_at_call 9; with_reducible refine (next_gone hM p).mono ?_; rintro e w4 ⟨rfl, hM4, hf4⟩; have hD4 := hD.fr hf4 HSm.out; obtain ⟨w5, e5, hD5, hf5⟩ := dict_drop_set hD4 0 (by omega); have hM5 := hM4.fr hf5 HSn.out; have hl5 := dict_len_at hD5 HV.out; have HF4 := hid hf4; have HF5 := hid hf5; have HD5 := hid hD5; clear hf4 hf5 hM4 hD4 hD5)
                    | (go_at_call 10; with_reducible refine (left_at hM5 HV.out).mono ?_; rintro e w8 ⟨rfl, rfl⟩)
                    | (go_at_call 11; with_reducible refine (odd_at hM5 (o := (odd : Int)) (by push_cast; rfl)).mono ?_; rintro e w8 ⟨rfl, rfl⟩))
                  go_roundw
                  case rel => exact ⟨i7 + 1, _, _, _, by omega, by go_num, rfl, hM5, HD5.out, Sl.fr2 (Sl.fr2 hP HF4.out (fun hne p' hp' => (HPN.out hne p' hp').1)) HF5.out (fun hne p' hp' => by have := (HPN.out hne p' hp').2; simpa using this), (by have := HO.out; show _ ≤ _; omega), Fr.below (Fr.below hb7 HF4.out (fun x hx => (HS.out x hx).1) hb7.size) HF5.out (by simpa using HMB.out) (Fr.below hb7 HF4.out (fun x hx => (HS.out x hx).1) hb7.size).size⟩
                  case measure => simp [intOf]; omega
                · obtain ⟨u, hu⟩ : ∃ u : Int, (U.length : Int) = u := ⟨_, rfl⟩
                  have t1 : decide (u > 0) = true := by have := List.length_pos_iff.2 hU; simp; omega
                  have hl0 := dict_len_at hD hu
                  by_cases hpU : p ∈ U
                  · have hlk := set_look hD p hpw (u := true) (by simp [hpU])
                    obtain ⟨v, hv⟩ : ∃ v : Int, ((less U p).length : Int) = v := ⟨_, rfl⟩
                    have HV : Hid _ := hv
                    have HU : Hid (U ≠ []) := hU
                    have HPU : Hid (p ∈ U) := hpU
                    clear hv hu hU hpU
                    go_wp2_with (first
                      | (go_at_call 9; with_reducible refine (next_right hM p HPU.out).mono ?_; rintro e w4 ⟨rfl, hM4, hf4⟩; have hD4 := hD.fr hf4 HSm.out; obtain ⟨w5, e5, hD5, hf5⟩ := dict_drop_set hD4 p (by omega); have hM5 := hM4.fr hf5 HSn.out; have hl5 := dict_len_at hD5 HV.out; have HF4 := hid hf4; have HF5 := hid hf5; have HD5 := hid hD5; clear hf4 hf5 hM4 hD4 hD5)
                      | (go_at_call 10; with_reducible refine (left_at hM5 HV.out).mono ?_; rintro e w8 ⟨rfl, rfl⟩)
                      | (go_at_call 11; with_reducible refine (odd_at hM5 (o := (odd : Int)) (by push_cast; rfl)).mono ?_; rintro e w8 ⟨rfl, rfl⟩))
                    go_roundw
                    case rel => exact ⟨i7 + 1, _, _, _, by omega, by go_num, rfl, hM5, HD5.out, Sl.fr2 (Sl.fr2 hP HF4.out (fun hne p' hp' => (HPN.out hne p' hp').1)) HF5.out (fun hne p' hp' => by have := (HPN.out hne p' hp').2; simpa using this), (by have := HO.out; show _ ≤ _; omega), Fr.below (Fr.below hb7 HF4.out (fun x hx => (HS.out x hx).1) hb7.size) HF5.out (by simpa using HMB.out) (Fr.below hb7 HF4.out (fun x hx => (HS.out x hx).1) hb7.size).size⟩
                    case measure => simp [intOf]; omega
                  · have hlk := set_look hD p hpw (u := false) (by simp [hpU])
                    obtain ⟨z, hz, hzl⟩ := least_of hU
                    have hzr := hM.facts.2 z hz
                    obtain ⟨v, hv⟩ : ∃ v : Int, ((less U z).length : Int) = v := ⟨_, rfl⟩
                    have HV : Hid _ := hv
                    have HU : Hid (U ≠ []) := hU
                    have HPU : Hid (p ∉ U) := hpU
                    have HZU : Hid (z ∈ U) := hz
                    have HZL : Hid (∀ y ∈ U, z ≤ y) := hzl
                    clear hv hu hU hpU hz hzl
                    obtain ⟨W3, hW3⟩ : ∃ W3, W3 = wr := ⟨_, rfl⟩
                    subst hW3
                    go_wp2
                    go_loopw [19] (fun v19 wr => ∃ j : Int, v19 = .int .i64 j ∧ 0 ≤ j ∧ j ≤ z ∧ wr = W3) (fun v19 _ => (z - intOf v19).toNat)
                    case atStart => exact ⟨0, rfl, by omega, by omega, rfl⟩
                    case round =>
                      clear hlk k1
                      obtain ⟨jj, rfl, hj0, hjz, rfl⟩ := hrel
                      by_cases hjU : jj ∈ U
                      · have hj2 := HZL.out jj hjU
                        obtain rfl : jj = z := by omega
                        have hlk := set_look hD jj (by omega) (u := true) (by simp [hjU])
                        clear hj2 hjz
                        go_wp2_with (first
                          | (go_at_call 9; with_reducible refine (next_odd hM p hpw HPU.out HU.out (by omega)).mono ?_; rintro e w4 ⟨z4, H4, rfl, hz4, hl4, hM4, hf4⟩; obtain rfl : z4 = jj := (by have h1 := HZL.out z4 hz4; have h2 := hl4 jj HZU.out; omega); have hD4 := hD.fr hf4 HSm.out; obtain ⟨w5, e5, hD5, hf5⟩ := dict_drop_set hD4 z4 (by omega); have hM5 := hM4.fr hf5 HSn.out; have hl5 := dict_len_at hD5 HV.out; have HF4 := hid hf4; have HF5 := hid hf5; have HD5 := hid hD5; clear hf4 hf5 hM4 hD4 hD5)
                          | (go_at_call 10; with_reducible refine (left_at hM5 HV.out).mono ?_; rintro e w8 ⟨rfl, rfl⟩)
                          | (go_at_call 11; with_reducible refine (odd_at hM5 (o := ((odd : Int) + 1)) (by push_cast; rfl)).mono ?_; rintro e w8 ⟨rfl, rfl⟩))
                        go_roundw
                        case rel => exact ⟨i7 + 1, _, _, _, by omega, by go_num, (by go_num), hM5, HD5.out, Sl.fr2 (Sl.fr2 hP HF4.out (fun hne p' hp' => (HPN.out hne p' hp').1)) HF5.out (fun hne p' hp' => by have := (HPN.out hne p' hp').2; simpa using this), (by have := HO.out; show _ ≤ _; omega), Fr.below (Fr.below hb7 HF4.out (fun x hx => (HS.out x hx).1) hb7.size) HF5.out (by simpa using HMB.out) (Fr.below hb7 HF4.out (fun x hx => (HS.out x hx).1) hb7.size).size⟩
                        case measure => simp [intOf]; omega
                      · have hjne : jj ≠ z := fun e => hjU (e ▸ HZU.out)
                        have hlk := set_look hD jj (by omega) (u := false) (by simp [hjU])
                        clear hjU
                        go_wp2
                        go_roundw
                        case rel => exact ⟨jj + 1, by go_num, by omega, by omega, by trivial⟩
                        case measure => simp [intOf]; omega
              · obtain rfl : i7 = ps.length := by omega
                go_wp2
                go_roundw
                case rel => exact ⟨k + 1, by omega, by go_num, (Fr.ofBelow hb7).heap HHB.out (by simp), hb.trans (hb7.mono hb.size)⟩
                case measure => simp [intOf]; omega
    · obtain rfl : k = 2 := by omega
      go_wp2
      go_ret
      exact ⟨rfl, hb⟩
end Go.Proofs.Ytekimoblmcbjlaa
