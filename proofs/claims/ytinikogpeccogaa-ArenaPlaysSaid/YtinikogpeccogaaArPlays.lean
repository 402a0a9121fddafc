/-
  The walk of the law 'ArenaPlays'.
-/
import Derived.Test.YtinikogpeccogaaArPq
import Derived.Test.YtinikogpeccogaaDictIter
import Derived.OpenShut
import Derived.Deep.CutRange
import Derived.Deep.RegionHeld
namespace Go.Proofs.Ytinikogpeccogaa
open Go.RowKit

/-- An act's cells. -/
theorem act_cells {w : World} {a : Option Addr} {n cap : Nat} {l : List ActR} (h : Acts w a n cap l) {w' : World} (hb : Below w.heap.size w w') (j : Nat) (hj : j < l.length) :
    ∃ b off, a = some ⟨b, off, none⟩ ∧ w'.cell? ⟨b, off + j * 4, none⟩ = some (.int .u8 l[j].kind) ∧ w'.cell? ⟨b, off + j * 4 + 1, none⟩ = some (.int .u8 l[j].num) ∧ w'.cell? ⟨b, off + j * 4 + 2, none⟩ = some (.int .i8 l[j].place) ∧ w'.cell? ⟨b, off + j * 4 + 3, none⟩ = some (.slice l[j].a l[j].len l[j].cap) := by
  obtain ⟨h1, h2, _⟩ := h
  have hs := h2.keep hb
  have hfl : ∀ c ∈ l.map ActR.cells, c.length = 4 := fun c hc => by obtain ⟨x, _, rfl⟩ := List.mem_map.1 hc; rfl
  have hlen : (l.map ActR.cells).flatten.length = l.length * 4 := by rw [flat_len 4 _ hfl, List.length_map]
  have hget : ∀ r (hr : r < 4), (l.map ActR.cells).flatten[j * 4 + r]'(by omega) = l[j].cells[r]'(by show r < 4; exact hr) := by
    intro r hr
    have := flat_get 4 _ hfl j r hr
    rw [List.getElem?_eq_getElem (by omega)] at this
    simp only [List.getElem?_map, List.getElem?_eq_getElem hj, Option.map_some, Option.bind_some] at this
    rw [List.getElem?_eq_getElem (show r < (l[j].cells).length from hr)] at this
    exact Option.some.inj this
  obtain ⟨b, off, rfl, _⟩ := hs.at (j * 4) (by omega)
  refine ⟨b, off, rfl, ?_, ?_, ?_, ?_⟩
  · have := hs.cell (j * 4 + 0) (by omega); rw [hget 0 (by omega)] at this; exact this
  · have := hs.cell (j * 4 + 1) (by omega); rw [hget 1 (by omega)] at this; exact this
  · have := hs.cell (j * 4 + 2) (by omega); rw [hget 2 (by omega)] at this; exact this
  · have := hs.cell (j * 4 + 3) (by omega); rw [hget 3 (by omega)] at this; exact this

theorem make_64 (w : World) : (Instr.makeSlice 29 (.int .i64 64) (.int .i64 64)).run Try.prog w = .ok (.slice (some ⟨w.heap.size, 0, none⟩) 64 64) (w.alloc (.cells (bytesArr (List.replicate 64 0)) 5)) := by
  obtain ⟨i, hi, hz0, hz1, hz2⟩ := info_parts Try.elU8.hi
  exact run_make_bytes w 29 5 i Try.elU8.ht hi hz0 hz1 hz2 64 (by decide)

set_option maxRecDepth 100000 in
set_option maxHeartbeats 4000000 in
theorem plays_walk (room : Int) (wroom : (Lit.int .u8 room).wf = true) {a : Option Addr} {l cap : Nat} {acts : List ActR} {w : World} (HA0 : Acts w a l cap acts) :
    Calls Try.prog 4 #[.int .u8 room, .slice a l cap] w fun e w' => e = .returned (.bool true) ∧ Below w.heap.size w w' := by
  have hlen := HA0.1
  subst hlen
  have hle := Sl.le HA0.2.1
  have hbig := Sl.big HA0.2.1
  have hr := bounds_u8 wroom
  by_cases h80 : acts.length > 80
  · have d1 : decide ((acts.length : Int) > 80) = true := by simp; omega
    clear h80
    go_enter Try.func4, Try.ntmps4
    go_wp2_with (go_at_call 6; refine (awake15 _).mono ?_; rintro e w1 ⟨rfl, hb1⟩)
    go_ret
    exact ⟨rfl, hb1⟩
  have d1 : decide ((acts.length : Int) > 80) = false := by simp; omega
  obtain ⟨n, hn, hn2⟩ : ∃ n : Nat, room % 9 = (n : Int) ∧ n < 9 := ⟨(room % 9).toNat, by omega, by omega⟩
  have q0 : IntKind.i64.wrap (n : Int) = n := IntWalk.i64_in _ (by omega)
  have HN := new_calls (n : Int)
  rw [show (min (max (n : Int) 0) 4096).toNat = n by omega] at HN
  have hmm := @run_makeMap Try.prog
  have HA := hid HA0
  have H80 := hid (Nat.le_of_not_lt h80)
  clear HA0 h80 hle hbig
  go_enter Try.func4, Try.ntmps4
  go_wp2_with (first
    | (go_at_call 6; refine (awake15 _).mono ?_; rintro e w1 ⟨rfl, hb1⟩)
    | (go_at_call 7; refine (HN _).mono ?_; rintro e w2 ⟨g, S, rfl, h2, hS, hb2⟩))
  have hb3 := hb1.trans (hb2.mono hb1.size)
  have hb4 := hb3.alloc hb3.size (.map #[] 0)
  have hA4 := h2.keep ((Below.refl _ _).alloc (Nat.le_refl _) (.map #[] 0))
  obtain ⟨mB, hmB⟩ : ∃ mB, w2.heap.size = mB := ⟨_, rfl⟩
  have hM4 : Mm (w2.alloc (.map #[] 0)) mB (fun _ => 0) [] (fun _ => []) := ⟨by rw [← hmB]; exact DictAt.made _, (fun z hz => by cases hz), (fun z hz => by cases hz), (fun z hz => by cases hz)⟩
  have hP4 : Pq w (w2.alloc (.map #[] 0)) g mB n [] (fun _ => []) [] (fun _ => []) (fun _ => 0) ((0 : Nat) : Int) := ⟨S, _, hA4, hM4, (fun k hk => ⟨Nat.le_trans hb1.size (hS k hk).1, by have := (hS k hk).2; omega, fun z hz => by cases hz⟩), (by rw [← hmB]; exact hb3.size), (fun z hz => by cases hz), hb4⟩
  rw [hmB]
  clear hmm h2 hS hb2 hb1 hb3 hmB hA4 hM4 hb4
  go_loopw [8, 10, 11, 12, 13, 14, 15, 16, 17, 18, 19, 20, 21, 22, 40] (fun s8 _ _ _ _ _ _ _ _ _ _ _ _ _ i wr => ∃ (j : Nat) (U : List Int) (most : Nat) (mem : Nat → List UInt8) (f : Int → Nat), j ≤ acts.length ∧ i = .int .i64 j ∧ s8 = .int .i64 most ∧ Pq w wr g mB n U mem U mem f most ∧ Hid (U.length ≤ most)) (fun _ _ _ _ _ _ _ _ _ _ _ _ _ _ i _ => acts.length - (intOf i).toNat)
  case atStart => exact ⟨0, [], 0, _, _, by omega, rfl, rfl, hP4, Nat.le_refl _⟩
  case round =>
    clear hP4
    obtain ⟨j, U, most, mem, f, hj, rfl, rfl, hP, HU⟩ := hrel
    by_cases hlt : j < acts.length
    · obtain ⟨b, off, rfl, k0, k1, k2, k3⟩ := act_cells HA.out hP.below j hlt
      have hgood := HA.out.2.2 acts[j] (List.getElem_mem _)
      obtain ⟨x, hx⟩ : ∃ x, acts[j] = x := ⟨_, rfl⟩
      rw [hx] at k0 k1 k2 k3 hgood
      obtain ⟨kind, num, place, xa, xl, xc, xb⟩ := x
      obtain ⟨wk, wnum, wplace, hxB⟩ := hgood
      simp only at k0 k1 k2 k3 wk wnum wplace hxB
      have bk := bounds_u8 wk
      have bn := bounds_u8 wnum
      have bp := bounds_i8 wplace
      have hxle := Sl.le hxB
      have hxbig := Sl.big hxB
      clear hx wk wnum wplace
      by_cases h100 : xl > 100
      · have d2 : decide ((xl : Int) > 100) = true := by simp; omega
        clear h100
        go_wp2
        go_ret
        exact ⟨rfl, hP.below.alloc hP.below.size _⟩
      · have d2 : decide ((xl : Int) > 100) = false := by simp; omega
        have H100 := hid (Nat.le_of_not_lt h100)
        clear h100
        go_upto_region 14 with (fail)
        obtain ⟨W, hW⟩ : ∃ W, wr.alloc (.cells #[.int .u8 kind, .int .u8 num, .int .i8 place, .slice xa xl xc] 40) = W := ⟨_, rfl⟩
        obtain ⟨xb0, hxb0⟩ : ∃ xb0, wr.heap.size = xb0 := ⟨_, rfl⟩
        have hbx := heap_new wr (.cells #[.int .u8 kind, .int .u8 num, .int .i8 place, .slice xa xl xc] 40)
        have hQ := hP.keep ((Below.refl _ _).alloc (Nat.le_refl _) (.cells #[.int .u8 kind, .int .u8 num, .int .i8 place, .slice xa xl xc] 40))
        rw [hW] at hbx hQ
        rw [hxb0] at hbx
        rw [hW, hxb0]
        have c0 := cell_at hbx 0
        have c1 := cell_at hbx 1
        have c2 := cell_at hbx 2
        have c3 := cell_at hbx 3
        have HBX := hid hbx
        have HXB := hid (Sl.keep hxB hQ.below)
        have HXO := hid hxB
        have HPR := hid hP
        have HWB := hid ((Below.refl wr.heap.size wr).alloc (Nat.le_refl _) (.cells #[.int .u8 kind, .int .u8 num, .int .i8 place, .slice xa xl xc] 40))
        rw [hW] at HWB
        have HXZ := hid hxb0
        clear hW hxb0 hbx hP k0 k1 k2 k3 hxB d2
        obtain ⟨M, hM, hM2⟩ : ∃ M : Nat, num % 12 = (M : Int) ∧ M < 12 := ⟨(num % 12).toNat, by omega, by omega⟩
        have q1 : IntKind.i64.wrap (M : Int) = M := IntWalk.i64_in _ (by omega)
        obtain ⟨z, hz⟩ : ∃ z : Int, (M : Int) - 1 = z := ⟨_, rfl⟩
        have q2 : IntKind.i64.wrap z = z := IntWalk.i64_in _ (by omega)
        have hzb : -1 ≤ z ∧ z ≤ 10 := by omega
        have HPL := hid bp
        have hj80 : j < 80 := by have := H80.out; omega
        obtain ⟨κ, hκ, hκ5⟩ : ∃ κ : Nat, kind % 5 = (κ : Int) ∧ κ < 5 := ⟨(kind % 5).toNat, by omega, by omega⟩
        rcases (show κ = 0 ∨ κ = 1 ∨ κ = 2 ∨ κ = 3 ∨ κ = 4 by omega) with rfl | rfl | rfl | rfl | rfl
        · as_aux_lemma =>
            obtain ⟨bv, is, hlk⟩ : ∃ bv is, (Instr.lookup 37 (.map (some mB)) (.int .i64 z) true).run Try.prog W = .ok (.tuple #[bv, .bool is]) W := by
              by_cases hzU : z ∈ U
              · exact ⟨_, _, hQ.mm.there hzU (by omega)⟩
              · exact ⟨_, _, hQ.mm.away hzU (by omega)⟩
            by_cases hfull : U.length < n
            · obtain ⟨u, hu⟩ : ∃ u : Nat, U.length = u := ⟨_, rfl⟩
              have hun : u < n := by omega
              obtain ⟨m2, hm2, hm3⟩ : ∃ m2 : Nat, (if (most : Int) < (u : Int) + 1 then ((u : Int) + 1) else (most : Int)) = (m2 : Int) ∧ (m2 : Int) = max (most : Int) ((U.length : Int) + 1) := ⟨max most (u + 1), by split <;> omega, by rw [hu]; omega⟩
              have HM3 := hid hm3
              have HUu := hid (show (U.length : Int) = (u : Int) by rw [hu])
              have HU0 := hid hu
              have hmk := make_64
              obtain ⟨zs, hzs⟩ : ∃ zs, List.replicate 64 (0 : UInt8) = zs := ⟨_, rfl⟩
              rw [hzs] at hmk
              have HZS := hid hzs
              have hzl : zs.length = 64 := by rw [← hzs]; simp
              have HZL := hid hzl
              have HFL := hid hfull
              clear hm3 hu hzs hzl hfull
              go_wp2_with (first
                | (go_at_call 8; refine (pq_take hQ HFL.out).mono ?_; rintro e w5 ⟨id, rfl, hid5, hidU, hP5⟩; rw [HZS.out, ← HM3.out] at hP5; have hlk5 := hP5.mm.away hidU (by omega); have hl5 := hP5.mm.len HUu.out; obtain ⟨w7, e7, hP9⟩ := Pq.put hP5 hidU (by omega) HZL.out; have hu9 : ((U ++ [(id : Int)]).length : Int) = (u : Int) + 1 := (by rw [List.length_append, HU0.out]; rfl); have hl9 := hP9.mm.len hu9; have HU9 : Hid ((U ++ [(id : Int)]).length ≤ m2) := (by show _ ≤ _; have := HM3.out; rw [List.length_append]; simp only [List.length_singleton]; omega); clear hidU hP5)
                | (go_at_call 12; refine (pq_used hP9 hu9).mono ?_; rintro e w9 ⟨rfl, rfl⟩)
                | (go_at_call 13; refine (pq_most hP9).mono ?_; rintro e w9 ⟨rfl, rfl⟩)
                | (go_at_call 14; refine (pq_room hP9).mono ?_; rintro e w9 ⟨rfl, rfl⟩))
              go_roundw
              case rel => exact ⟨j + 1, _, m2, _, _, by omega, by go_num, rfl, hP9, HU9.out⟩
              case measure => simp [intOf]; omega
            · have hnn : U.length = n := by have := hQ.facts.1; omega
              obtain ⟨u, hu⟩ : ∃ u : Nat, U.length = u := ⟨_, rfl⟩
              obtain ⟨m2, hm2, hm3⟩ : ∃ m2 : Nat, (if most < u then (u : Int) else (most : Int)) = (m2 : Int) ∧ m2 = most := ⟨most, by rw [if_neg (by have := HU.out; omega)], rfl⟩
              have HM3 := hid hm3
              have hu9 : (U.length : Int) = (u : Int) := by rw [hu]
              have HU9 : Hid (U.length ≤ m2) := by show _ ≤ _; rw [hm3]; exact HU.out
              have hun : u = n := by omega
              subst hun
              have hl5 := hQ.mm.len hu9
              obtain ⟨bv5, is5, hlk5⟩ : ∃ bv is, (Instr.lookup 37 (.map (some mB)) (.int .i64 0) true).run Try.prog W = .ok (.tuple #[bv, .bool is]) W := by
                by_cases hzU : (0 : Int) ∈ U
                · exact ⟨_, _, hQ.mm.there hzU (by omega)⟩
                · exact ⟨_, _, hQ.mm.away hzU (by omega)⟩
              have HFL := hid hnn
              have hP9 := hQ
              rw [← hm3] at hP9
              clear hm3 hu hfull hnn
              go_wp2_with (first
                | (go_at_call 8; refine (pq_full hQ HFL.out).mono ?_; rintro e w5 ⟨rfl, rfl⟩)
                | (go_at_call 12; refine (pq_used hP9 hu9).mono ?_; rintro e w9 ⟨rfl, rfl⟩)
                | (go_at_call 13; refine (pq_most hP9).mono ?_; rintro e w9 ⟨rfl, rfl⟩)
                | (go_at_call 14; refine (pq_room hP9).mono ?_; rintro e w9 ⟨rfl, rfl⟩))
              go_roundw
              case rel => exact ⟨j + 1, _, m2, _, _, by omega, by go_num, rfl, hP9, HU9.out⟩
              case measure => simp [intOf]; omega
        · as_aux_lemma =>
            obtain ⟨bv, is, hlk⟩ : ∃ bv is, (Instr.lookup 37 (.map (some mB)) (.int .i64 z) true).run Try.prog W = .ok (.tuple #[bv, .bool is]) W := by
              by_cases hzU : z ∈ U
              · exact ⟨_, _, hQ.mm.there hzU (by omega)⟩
              · exact ⟨_, _, hQ.mm.away hzU (by omega)⟩
            by_cases hfull : U.length < n
            · obtain ⟨u, hu⟩ : ∃ u : Nat, U.length = u := ⟨_, rfl⟩
              have hun : u < n := by omega
              obtain ⟨m2, hm2, hm3⟩ : ∃ m2 : Nat, (if (most : Int) < (u : Int) + 1 then ((u : Int) + 1) else (most : Int)) = (m2 : Int) ∧ (m2 : Int) = max (most : Int) ((U.length : Int) + 1) := ⟨max most (u + 1), by split <;> omega, by rw [hu]; omega⟩
              have HM3 := hid hm3
              have HUu := hid (show (U.length : Int) = (u : Int) by rw [hu])
              have HU0 := hid hu
              have hmk := make_64
              obtain ⟨zs, hzs⟩ : ∃ zs, List.replicate 64 (0 : UInt8) = zs := ⟨_, rfl⟩
              rw [hzs] at hmk
              have HZS := hid hzs
              have hzl : zs.length = 64 := by rw [← hzs]; simp
              have HZL := hid hzl
              have HFL := hid hfull
              clear hm3 hu hzs hzl hfull
              go_wp2_with (first
                | (go_at_call 8; refine (pq_take hQ HFL.out).mono ?_; rintro e w5 ⟨id, rfl, hid5, hidU, hP5⟩; rw [HZS.out, ← HM3.out] at hP5; have hlk5 := hP5.mm.away hidU (by omega); have hl5 := hP5.mm.len HUu.out; obtain ⟨w7, e7, hP9⟩ := Pq.put hP5 hidU (by omega) HZL.out; have hu9 : ((U ++ [(id : Int)]).length : Int) = (u : Int) + 1 := (by rw [List.length_append, HU0.out]; rfl); have hl9 := hP9.mm.len hu9; have HU9 : Hid ((U ++ [(id : Int)]).length ≤ m2) := (by show _ ≤ _; have := HM3.out; rw [List.length_append]; simp only [List.length_singleton]; omega); clear hidU hP5)
                | (go_at_call 12; refine (pq_used hP9 hu9).mono ?_; rintro e w9 ⟨rfl, rfl⟩)
                | (go_at_call 13; refine (pq_most hP9).mono ?_; rintro e w9 ⟨rfl, rfl⟩)
                | (go_at_call 14; refine (pq_room hP9).mono ?_; rintro e w9 ⟨rfl, rfl⟩))
              go_roundw
              case rel => exact ⟨j + 1, _, m2, _, _, by omega, by go_num, rfl, hP9, HU9.out⟩
              case measure => simp [intOf]; omega
            · have hnn : U.length = n := by have := hQ.facts.1; omega
              obtain ⟨u, hu⟩ : ∃ u : Nat, U.length = u := ⟨_, rfl⟩
              obtain ⟨m2, hm2, hm3⟩ : ∃ m2 : Nat, (if most < u then (u : Int) else (most : Int)) = (m2 : Int) ∧ m2 = most := ⟨most, by rw [if_neg (by have := HU.out; omega)], rfl⟩
              have HM3 := hid hm3
              have hu9 : (U.length : Int) = (u : Int) := by rw [hu]
              have HU9 : Hid (U.length ≤ m2) := by show _ ≤ _; rw [hm3]; exact HU.out
              have hun : u = n := by omega
              subst hun
              have hl5 := hQ.mm.len hu9
              obtain ⟨bv5, is5, hlk5⟩ : ∃ bv is, (Instr.lookup 37 (.map (some mB)) (.int .i64 0) true).run Try.prog W = .ok (.tuple #[bv, .bool is]) W := by
                by_cases hzU : (0 : Int) ∈ U
                · exact ⟨_, _, hQ.mm.there hzU (by omega)⟩
                · exact ⟨_, _, hQ.mm.away hzU (by omega)⟩
              have HFL := hid hnn
              have hP9 := hQ
              rw [← hm3] at hP9
              clear hm3 hu hfull hnn
              go_wp2_with (first
                | (go_at_call 8; refine (pq_full hQ HFL.out).mono ?_; rintro e w5 ⟨rfl, rfl⟩)
                | (go_at_call 12; refine (pq_used hP9 hu9).mono ?_; rintro e w9 ⟨rfl, rfl⟩)
                | (go_at_call 13; refine (pq_most hP9).mono ?_; rintro e w9 ⟨rfl, rfl⟩)
                | (go_at_call 14; refine (pq_room hP9).mono ?_; rintro e w9 ⟨rfl, rfl⟩))
              go_roundw
              case rel => exact ⟨j + 1, _, m2, _, _, by omega, by go_num, rfl, hP9, HU9.out⟩
              case measure => simp [intOf]; omega
        · as_aux_lemma =>
            by_cases hzU : z ∈ U
            · obtain ⟨zn, rfl⟩ : ∃ zn : Nat, z = (zn : Int) := ⟨z.toNat, by have := hQ.facts.2.1 z hzU; omega⟩
              have hlk := hQ.mm.there hzU (by omega)
              obtain ⟨u, hu⟩ : ∃ u : Nat, (less U (zn : Int)).length = u := ⟨_, rfl⟩
              have hlu : u + 1 = U.length := by rw [← hu]; exact less_len (by have := hQ; obtain ⟨_, _, h1, _⟩ := this; exact h1.nodup.1) hzU
              obtain ⟨m2, hm2, hm3⟩ : ∃ m2 : Nat, (if most < u then (u : Int) else (most : Int)) = (m2 : Int) ∧ m2 = most := ⟨most, by rw [if_neg (by have := HU.out; omega)], rfl⟩
              have HM3 := hid hm3
              have hu9 : ((less U (zn : Int)).length : Int) = (u : Int) := by rw [hu]
              have HU9 : Hid ((less U (zn : Int)).length ≤ m2) := by show _ ≤ _; rw [hm3, hu]; have := HU.out; omega
              have HZU := hid hzU
              have hQ2 := hQ
              rw [← hm3] at hQ2
              clear hm3 hu hlu hzU
              go_wp2_with (first
                | (go_at_call 11; refine (pq_give hQ2 zn HZU.out).mono ?_; rintro e w5 ⟨rfl, hP5⟩; obtain ⟨w7, e7, hP9⟩ := Pq.drop (z := (zn : Int)) (by omega) hP5; have hl9 := hP9.mm.len hu9; clear hP5)
                | (go_at_call 12; refine (pq_used hP9 hu9).mono ?_; rintro e w9 ⟨rfl, rfl⟩)
                | (go_at_call 13; refine (pq_most hP9).mono ?_; rintro e w9 ⟨rfl, rfl⟩)
                | (go_at_call 14; refine (pq_room hP9).mono ?_; rintro e w9 ⟨rfl, rfl⟩))
              go_roundw
              case rel => exact ⟨j + 1, _, m2, _, _, by omega, by go_num, rfl, hP9, HU9.out⟩
              case measure => simp [intOf]; omega
            · have hlk := hQ.mm.away hzU (by omega)
              obtain ⟨u, hu⟩ : ∃ u : Nat, U.length = u := ⟨_, rfl⟩
              obtain ⟨m2, hm2, hm3⟩ : ∃ m2 : Nat, (if most < u then (u : Int) else (most : Int)) = (m2 : Int) ∧ m2 = most := ⟨most, by rw [if_neg (by have := HU.out; omega)], rfl⟩
              have HM3 := hid hm3
              have hu9 : (U.length : Int) = (u : Int) := by rw [hu]
              have HU9 : Hid (U.length ≤ m2) := by show _ ≤ _; rw [hm3]; exact HU.out
              have HZU := hid hzU
              obtain ⟨w7, e7, hP9⟩ := Pq.drop (z := z) (by omega) hQ
              rw [less_gone hzU, ← hm3] at hP9
              have hl9 := hP9.mm.len hu9
              clear hm3 hu hzU
              go_wp2_with (first
                | (go_at_call 11; refine (pq_give_none hQ z (by omega) HZU.out).mono ?_; rintro e W ⟨rfl, rfl⟩)
                | (go_at_call 12; refine (pq_used hP9 hu9).mono ?_; rintro e w9 ⟨rfl, rfl⟩)
                | (go_at_call 13; refine (pq_most hP9).mono ?_; rintro e w9 ⟨rfl, rfl⟩)
                | (go_at_call 14; refine (pq_room hP9).mono ?_; rintro e w9 ⟨rfl, rfl⟩))
              go_roundw
              case rel => exact ⟨j + 1, _, m2, _, _, by omega, by go_num, rfl, hP9, HU9.out⟩
              case measure => simp [intOf]; omega
        · as_aux_lemma =>
            have q3 : IntKind.i64.wrap place = place := IntWalk.i64_in _ (by omega)
            by_cases hzU : z ∈ U
            · obtain ⟨zn, rfl⟩ : ∃ zn : Nat, z = (zn : Int) := ⟨z.toNat, by have := hQ.facts.2.1 z hzU; omega⟩
              have hlk := hQ.mm.there hzU (by omega)
              obtain ⟨u, hu⟩ : ∃ u : Nat, U.length = u := ⟨_, rfl⟩
              obtain ⟨m2, hm2, hm3⟩ : ∃ m2 : Nat, (if most < u then (u : Int) else (most : Int)) = (m2 : Int) ∧ m2 = most := ⟨most, by rw [if_neg (by have := HU.out; omega)], rfl⟩
              have HM3 := hid hm3
              have hu9 : (U.length : Int) = (u : Int) := by rw [hu]
              have HU9 : Hid (U.length ≤ m2) := by show _ ≤ _; rw [hm3]; exact HU.out
              have HZU := hid hzU
              have hQ2 := hQ
              rw [← hm3] at hQ2
              obtain ⟨fz, hfz⟩ : ∃ fz, f (zn : Int) = fz := ⟨_, rfl⟩
              have HFZ := hid hfz
              rw [hfz] at hlk
              clear hm3 hu hzU hfz
              by_cases hrg : place < 0 ∨ 64 < place + (xl : Int)
              · obtain ⟨b1, b2, e1, e2, hor⟩ : ∃ b1 b2, decide (place < 0) = b1 ∧ decide (place + (xl : Int) > 64) = b2 ∧ (b1 = true ∨ b1 = false ∧ b2 = true) := ⟨_, _, rfl, rfl, by simp; omega⟩
                have q4 : IntKind.i64.wrap (place + (xl : Int)) = place + (xl : Int) := IntWalk.i64_in _ (by have := H100.out; omega)
                have HRG := hid hrg
                have hP9 := hQ2
                have hl9 := hP9.mm.len hu9
                clear hrg
                rcases hor with rfl | ⟨rfl, rfl⟩
                all_goals
                  go_wp2_with (first
                    | (go_at_call 10; refine (pq_write_range hQ2 zn HZU.out place HPL.out HRG.out).mono ?_; rintro e W ⟨rfl, rfl⟩)
                    | (go_at_call 12; refine (pq_used hP9 hu9).mono ?_; rintro e w9 ⟨rfl, rfl⟩)
                    | (go_at_call 13; refine (pq_most hP9).mono ?_; rintro e w9 ⟨rfl, rfl⟩)
                    | (go_at_call 14; refine (pq_room hP9).mono ?_; rintro e w9 ⟨rfl, rfl⟩))
                  go_roundw
                  case rel => exact ⟨j + 1, _, m2, _, _, by omega, by go_num, rfl, hP9, HU9.out⟩
                  case measure => simp [intOf]; omega
              · obtain ⟨I, rfl⟩ : ∃ I : Nat, place = (I : Int) := ⟨place.toNat, by omega⟩
                have hI : I + xl ≤ 64 := by omega
                have q4 : IntKind.i64.wrap ((I : Int) + (xl : Int)) = (I : Int) + (xl : Int) := IntWalk.i64_in _ (by omega)
                have n1 : ¬ ((I : Int) + (xl : Int) > 64) := by omega
                have n2 : ¬ (64 < I + xl) := by omega
                have n3 : I ≤ 64 := by omega
                have HII := hid hI
                clear hrg
                go_upto_region 43 with (first
                  | (go_at_call 10; refine (pq_write_box HPR.out HWB.out zn HZU.out I HXB.out HII.out).mono ?_; rintro e w5 ⟨rfl, hP5, S5, hf5, hS5⟩; have hbx5 := hf5.heap HBX.out (fun hm => (hS5 _ hm).2 HXZ.out.symm); have hB5 := hid (Sl.fr2 HXB.out hf5 (fun hne p hp hm => by obtain ⟨b', o', e', h'⟩ := Sl.row HXO.out hne; rw [hp] at e'; cases e'; have := (hS5 _ hm).1; have := h'.1; simp at *; omega)); clear hf5 hS5))
                rw [← HM3.out] at hP5
                obtain ⟨L, hL⟩ : ∃ L, mem zn = L := ⟨_, rfl⟩
                rw [hL] at hP5
                have hg0 := hP5.mm.mems _ HZU.out
                rw [Int.toNat_natCast, hL, HFZ.out] at hg0
                have hg5 : w5.drew.heap[fz]? = some (.cells (bytesArr L) 5 (0, 0)) := hg0.1
                have hLl : L.length = 64 := hg0.2.1
                have hb5 : Bytes w5.drew xa xl xc xb := Sl.drew hB5.out
                have c3' := cell_at hbx5 3
                have hxl : xb.length = xl := Bytes.len hb5
                have HXL := hid hxl
                have HP5 := hid (hP5.keep (Below.refl _ _).drew)
                have HLL := hid hLl
                have n4 : (I : Int) ≤ 64 := by omega
                obtain ⟨dpv, hdp, hdp2⟩ : ∃ dpv : Option Addr, (if 64 = I then (some ⟨fz, 0, none⟩ : Option Addr) else some ⟨fz, I, none⟩) = dpv ∧ (0 < xl → dpv = some ⟨fz, I, none⟩) := ⟨_, rfl, fun h => by rw [if_neg (by omega)]⟩
                have HD2 := hid hdp2
                clear hg0 hbx5 hL c0 c1 c2 c3 hlk hxl hdp2
                go_region_law (refine step_copy_bytes (off := I) rfl _ _ rfl rfl rfl hg5 hb5 (by omega) (by omega) HD2.out ?_; intro w7 z7 hg7 hf7)
                all_goals
                  clear hg5 hb5 c3' hP5
                  have hP9 := Pq.copy HZU.out HP5.out (by rw [over_len _ _ _ (by have := HXL.out; omega)]; exact HLL.out) (by rw [HFZ.out]; exact hf7.out) (by rw [HFZ.out]; exact hg7.out)
                  have hl9 := hP9.mm.len hu9
                  go_wp2_with (first
                    | (go_at_call 12; refine (pq_used hP9 hu9).mono ?_; rintro e w9 ⟨rfl, rfl⟩)
                    | (go_at_call 13; refine (pq_most hP9).mono ?_; rintro e w9 ⟨rfl, rfl⟩)
                    | (go_at_call 14; refine (pq_room hP9).mono ?_; rintro e w9 ⟨rfl, rfl⟩))
                  go_roundw
                  case rel => exact ⟨j + 1, _, m2, _, _, by omega, by go_num, rfl, hP9, HU9.out⟩
                  case measure => simp [intOf]; omega
            · have hlk := hQ.mm.away hzU (by omega)
              obtain ⟨u, hu⟩ : ∃ u : Nat, U.length = u := ⟨_, rfl⟩
              obtain ⟨m2, hm2, hm3⟩ : ∃ m2 : Nat, (if most < u then (u : Int) else (most : Int)) = (m2 : Int) ∧ m2 = most := ⟨most, by rw [if_neg (by have := HU.out; omega)], rfl⟩
              have HM3 := hid hm3
              have hu9 : (U.length : Int) = (u : Int) := by rw [hu]
              have HU9 : Hid (U.length ≤ m2) := by show _ ≤ _; rw [hm3]; exact HU.out
              have HZU := hid hzU
              have hP9 := hQ
              rw [← hm3] at hP9
              have hl9 := hP9.mm.len hu9
              clear hm3 hu hzU
              go_wp2_with (first
                | (go_at_call 10; refine (pq_write_none hQ z (by omega) HZU.out _ _ _ _).mono ?_; rintro e W ⟨rfl, rfl⟩)
                | (go_at_call 12; refine (pq_used hP9 hu9).mono ?_; rintro e w9 ⟨rfl, rfl⟩)
                | (go_at_call 13; refine (pq_most hP9).mono ?_; rintro e w9 ⟨rfl, rfl⟩)
                | (go_at_call 14; refine (pq_room hP9).mono ?_; rintro e w9 ⟨rfl, rfl⟩))
              go_roundw
              case rel => exact ⟨j + 1, _, m2, _, _, by omega, by go_num, rfl, hP9, HU9.out⟩
              case measure => simp [intOf]; omega
        · as_aux_lemma =>
            by_cases hzU : z ∈ U
            · obtain ⟨zn, rfl⟩ : ∃ zn : Nat, z = (zn : Int) := ⟨z.toNat, by have := hQ.facts.2.1 z hzU; omega⟩
              have hlk := hQ.mm.there hzU (by omega)
              obtain ⟨u, hu⟩ : ∃ u : Nat, U.length = u := ⟨_, rfl⟩
              obtain ⟨m2, hm2, hm3⟩ : ∃ m2 : Nat, (if most < u then (u : Int) else (most : Int)) = (m2 : Int) ∧ m2 = most := ⟨most, by rw [if_neg (by have := HU.out; omega)], rfl⟩
              have HM3 := hid hm3
              have hu9 : (U.length : Int) = (u : Int) := by rw [hu]
              have HU9 : Hid (U.length ≤ m2) := by show _ ≤ _; rw [hm3]; exact HU.out
              have HZU := hid hzU
              have hQ2 := hQ
              rw [← hm3] at hQ2
              obtain ⟨fz, hfz⟩ : ∃ fz, f (zn : Int) = fz := ⟨_, rfl⟩
              have HFZ := hid hfz
              rw [hfz] at hlk
              clear hm3 hu hzU hfz
              go_wp2_with (first
                | (go_at_call 9; refine (pq_bytes hQ2 zn HZU.out).mono ?_; rintro e w5 ⟨a5, c5, rfl, hy5, hb5⟩; have hP9 := hQ2.keep hb5; have hs1 := run_str (P := Try.prog) hy5 29 9 5 Try.underlying29 Try.underlying5 Try.underlying9; have hs2 := run_str (P := Try.prog) (hP9.mm.bytes HZU.out) 29 9 5 Try.underlying29 Try.underlying5 Try.underlying9; rw [HFZ.out] at hs2; have hl9 := hP9.mm.len hu9; clear hy5)
                | (go_at_call 12; refine (pq_used hP9 hu9).mono ?_; rintro e w9 ⟨rfl, rfl⟩)
                | (go_at_call 13; refine (pq_most hP9).mono ?_; rintro e w9 ⟨rfl, rfl⟩)
                | (go_at_call 14; refine (pq_room hP9).mono ?_; rintro e w9 ⟨rfl, rfl⟩))
              go_roundw
              case rel => exact ⟨j + 1, _, m2, _, _, by omega, by go_num, rfl, hP9, HU9.out⟩
              case measure => simp [intOf]; omega
            · have hlk := hQ.mm.away hzU (by omega)
              obtain ⟨u, hu⟩ : ∃ u : Nat, U.length = u := ⟨_, rfl⟩
              obtain ⟨m2, hm2, hm3⟩ : ∃ m2 : Nat, (if most < u then (u : Int) else (most : Int)) = (m2 : Int) ∧ m2 = most := ⟨most, by rw [if_neg (by have := HU.out; omega)], rfl⟩
              have HM3 := hid hm3
              have hu9 : (U.length : Int) = (u : Int) := by rw [hu]
              have HU9 : Hid (U.length ≤ m2) := by show _ ≤ _; rw [hm3]; exact HU.out
              have HZU := hid hzU
              have hP9 := hQ
              rw [← hm3] at hP9
              have hl9 := hP9.mm.len hu9
              have hs1 := run_str (P := Try.prog) (show Bytes W none 0 0 [] from Sl.nil_any W 1) 29 9 5 Try.underlying29 Try.underlying5 Try.underlying9
              clear hm3 hu hzU
              go_wp2_with (first
                | (go_at_call 9; refine (pq_bytes_none hQ z (by omega) HZU.out).mono ?_; rintro e W ⟨rfl, rfl⟩)
                | (go_at_call 12; refine (pq_used hP9 hu9).mono ?_; rintro e w9 ⟨rfl, rfl⟩)
                | (go_at_call 13; refine (pq_most hP9).mono ?_; rintro e w9 ⟨rfl, rfl⟩)
                | (go_at_call 14; refine (pq_room hP9).mono ?_; rintro e w9 ⟨rfl, rfl⟩))
              go_roundw
              case rel => exact ⟨j + 1, _, m2, _, _, by omega, by go_num, rfl, hP9, HU9.out⟩
              case measure => simp [intOf]; omega
    · obtain rfl : j = acts.length := by omega
      obtain ⟨W0, hW0⟩ : ∃ W0, W0 = wr := ⟨_, rfl⟩
      subst hW0
      obtain ⟨oi, hrg, hD0⟩ := hP.mm.map.range (P := Try.prog) (t := 37) Try.underlying37
      have hb0 := (Below.refl W0.heap.size W0).alloc (Nat.le_refl _) oi
      have hmne : W0.heap.size ≠ mB := by have := hP.mm.lt.1; omega
      go_wp2
      go_loopw [23, 24, 25, 26] (fun _ _ _ _ wr => ∃ rest cnt, DIter wr mB W0.heap.size (U.map (fun z => (z, blkV (f z)))) rest cnt ∧ Below W0.heap.size W0 wr) (fun _ _ _ _ wr => wr.rangeLeft mB W0.heap.size)
      case atStart => exact ⟨_, _, hD0, hb0⟩
      case round =>
        clear hrg hD0 hb0
        obtain ⟨rest, cnt, hD, hbW⟩ := hrel
        rcases hD.next (P := Try.prog) hmne with ⟨_, hnx⟩ | ⟨p, cnt', w6, hp, hlt', hnx, hD6, hf6, hen⟩
        · go_wp2
          go_ret
          exact ⟨rfl, (hP.keep hbW).below⟩
        · obtain ⟨z, hz, rfl⟩ := List.mem_map.1 (hD.sub p hp)
          obtain ⟨zn, rfl⟩ : ∃ zn : Nat, z = (zn : Int) := ⟨z.toNat, by have := hP.mm.pos z hz; omega⟩
          obtain ⟨fz, hfz⟩ : ∃ fz, f (zn : Int) = fz := ⟨_, rfl⟩
          simp only [blkV, hfz] at hnx hen
          have HFZ := hid hfz
          have HZU := hid hz
          have hb6 := Fr.below hbW hf6 (by intro k hk; simp at hk; omega) hbW.size
          have HD6 := hid hD6
          have HB6 := hid hb6
          have HLT := hid hlt'
          have HLE := hid hD.left_eq
          have hQ6 := hP.keep hb6
          clear hp hlt' hD6 hf6 hfz hz hb6 hD hbW
          go_wp2_with (go_at_call 9; refine (pq_bytes hQ6 zn HZU.out).mono ?_; rintro e w7 ⟨a5, c5, rfl, hy5, hb7⟩; have hs1 := run_str (P := Try.prog) hy5 29 9 5 Try.underlying29 Try.underlying5 Try.underlying9; have hs2 := run_str (P := Try.prog) ((hQ6.keep hb7).mm.bytes HZU.out) 29 9 5 Try.underlying29 Try.underlying5 Try.underlying9; rw [HFZ.out] at hs2; clear hy5)
          go_roundw
          case rel => exact ⟨_, _, DIter.keep HD6.out hb7, HB6.out.trans (hb7.mono HB6.out.size)⟩
          case measure => rw [(DIter.keep HD6.out hb7).left_eq, HLE.out]; exact HLT.out
end Go.Proofs.Ytinikogpeccogaa
