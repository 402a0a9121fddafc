/-
  The machine: Next, Left, Odd.
-/
import Derived.Test.YtekimoblmcbjlaaStMach
namespace Go.Proofs.Ytekimoblmcbjlaa
open Go.RowKit

theorem Mc.fr {w w' : World} {g : Nat} {S S' : List Nat} {H U : List Int} {odd : Nat} (h : Mc w g S H U odd) (hf : Fr S' w w') (hn : ∀ k ∈ S, k ∉ S') : Mc w' g S H U odd := by
  obtain ⟨v, mb, h1, h2, h3, rfl, h4⟩ := h
  exact ⟨v, mb, h1.fr hf (hn _ (by simp)) (fun k hk => hn _ (by simp [hk])), h2, h3.fr hf (hn _ (by simp)), rfl, h4⟩
theorem Mc.keep {w w' : World} {g : Nat} {S : List Nat} {H U : List Int} {odd : Nat} (h : Mc w g S H U odd) (hb : Below w.heap.size w w') : Mc w' g S H U odd := h.fr (Fr.ofBelow hb) (fun _ _ hm => by cases hm)
theorem Mc.facts {w : World} {g : Nat} {S : List Nat} {H U : List Int} {odd : Nat} (h : Mc w g S H U odd) : U.Nodup ∧ (∀ z ∈ U, 0 ≤ z ∧ z < 64) := by
  obtain ⟨v, mb, h1, h2, h3, rfl, h4, h5, _⟩ := h
  exact ⟨set_nodup h3, fun z hz => h5 z (h4 z hz)⟩
def less (U : List Int) (n : Int) : List Int := U.filter (fun z => !(z == n))
theorem less_map (U : List Int) (n : Int) : (setU U).filter (fun p => !(p.1 == n)) = setU (less U n) := by
  unfold less setU
  rw [List.filter_map]
  rfl
theorem less_len {U : List Int} (hU : U.Nodup) {n : Int} (hn : n ∈ U) : (less U n).length + 1 = U.length := by
  have h1 : less U n = U.erase n := by
    rw [hU.erase_eq_filter]; rfl
  rw [h1, List.length_erase_of_mem hn]
  have := List.length_pos_of_mem hn
  omega
theorem less_mem {U : List Int} {n z : Int} : z ∈ less U n ↔ z ∈ U ∧ z ≠ n := by simp [less, List.mem_filter]

set_option maxRecDepth 10000 in
theorem left_calls {w : World} {g : Nat} {S : List Nat} {H U : List Int} {odd : Nat} (h : Mc w g S H U odd) :
    Calls Try.prog 10 #[.pointer (some ⟨g, 0, none⟩)] w fun e w' => e = .returned (.int .i64 U.length) ∧ w' = w := by
  obtain ⟨v, mb, h1, h2, h3, rfl, h4⟩ := h
  have c1 := cell_at h1.top 1
  have hl := fun ty => h3.len (P := Try.prog) Try.underlying28 ty
  simp only [List.length_map] at hl
  go_enter Try.func10, Try.ntmps10
  go_wp2
  go_ret
  exact ⟨rfl, rfl⟩
set_option maxRecDepth 10000 in
theorem odd_calls {w : World} {g : Nat} {S : List Nat} {H U : List Int} {odd : Nat} (h : Mc w g S H U odd) :
    Calls Try.prog 11 #[.pointer (some ⟨g, 0, none⟩)] w fun e w' => e = .returned (.int .i64 odd) ∧ w' = w := by
  obtain ⟨v, mb, h1, h2, h3, rfl, h4⟩ := h
  have c2 := cell_at h1.top 2
  go_enter Try.func11, Try.ntmps11
  go_wp2
  go_ret
  exact ⟨rfl, rfl⟩
set_option maxRecDepth 10000 in
theorem next_nil (p : Int) (w : World) : Calls Try.prog 9 #[.pointer none, .int .i64 p] w fun e w' => e = .returned (.tuple #[.int .i64 0, .bool false]) ∧ w' = w := by
  go_enter Try.func9, Try.ntmps9
  go_wp2
  go_ret2
  exact ⟨rfl, rfl⟩
theorem left_nil (w : World) : Calls Try.prog 10 #[.pointer none] w fun e w' => e = .returned (.int .i64 0) ∧ w' = w := by
  go_enter Try.func10, Try.ntmps10
  go_wp2
  go_ret
  exact ⟨rfl, rfl⟩
theorem odd_nil (w : World) : Calls Try.prog 11 #[.pointer none] w fun e w' => e = .returned (.int .i64 0) ∧ w' = w := by
  go_enter Try.func11, Try.ntmps11
  go_wp2
  go_ret
  exact ⟨rfl, rfl⟩
set_option maxRecDepth 10000 in
theorem next_none {w : World} {g : Nat} {S : List Nat} {H : List Int} {odd : Nat} (h : Mc w g S H [] odd) (p : Int) :
    Calls Try.prog 9 #[.pointer (some ⟨g, 0, none⟩), .int .i64 p] w fun e w' => e = .returned (.tuple #[.int .i64 0, .bool false]) ∧ w' = w := by
  obtain ⟨v, mb, h1, h2, h3, rfl, h4⟩ := h
  have c1 := cell_at h1.top 1
  have hl := fun ty => h3.len (P := Try.prog) Try.underlying28 ty
  simp only [List.length_map, List.length_nil] at hl
  go_enter Try.func9, Try.ntmps9
  go_wp2
  go_ret2
  exact ⟨rfl, rfl⟩
set_option maxRecDepth 10000 in
theorem next_right {w : World} {g : Nat} {S : List Nat} {H U : List Int} {odd : Nat} (h : Mc w g S H U odd) (p : Int) (hp : p ∈ U) :
    Calls Try.prog 9 #[.pointer (some ⟨g, 0, none⟩), .int .i64 p] w fun e w' => e = .returned (.tuple #[.int .i64 p, .bool true]) ∧ Mc w' g S H (less U p) odd ∧ Fr S w w' := by
  have hpr := h.facts.2 p hp
  obtain ⟨v, mb, h1, h2, h3, rfl, h4, h5, h6⟩ := h
  have c1 := cell_at h1.top 1
  obtain ⟨u, hu⟩ : ∃ u : Nat, U.length = u + 1 := ⟨U.length - 1, by have := List.length_pos_of_mem hp; omega⟩
  have hl := fun ty => h3.len (P := Try.prog) Try.underlying28 ty
  simp only [List.length_map, hu] at hl
  have t0 : (((u + 1 : Nat) : Int) == 0) = false := by rw [beq_eq_false_iff_ne]; omega
  have hlk := set_look h3 p (by omega) (u := true) (by simp [hp])
  obtain ⟨w1, e1, hm1, f1⟩ := h3.drop (P := Try.prog) Try.underlying28 Try.underlying3 (z := p) (WalkArith.wf_i64 (by omega)) 0
  rw [less_map] at hm1
  obtain ⟨a1, a2⟩ := set_apart h1 h3
  clear hu
  go_enter Try.func9, Try.ntmps9
  go_wp2
  go_ret2
  refine ⟨rfl, ⟨v, mb, h1.fr f1 (by simpa using a1.symm) (fun k hk => by simpa using a2 k hk), h2, hm1, rfl, fun z hz => h4 z (less_mem.1 hz).1, h5, h6⟩, f1.mono ?_⟩
  intro k hk
  simp at hk; subst hk
  exact .inl (by simp)

/-- How many the heap's slice has. -/
def hLen (w : World) (g : Nat) : Nat := match w.cell? ⟨g, 0, none⟩ with
  | some (.slice _ n _) => n
  | _ => 0
theorem Hq.len {w : World} {g : Nat} {v x y : Value} {T : TypeId} {l : List Int} (h : Hq w g v x y T l) : hLen w g = l.length := by
  have c0 := cell_at h.top 0
  obtain ⟨a, c, e, _⟩ := h.own.ints
  subst e
  unfold hLen
  rw [c0]; rfl

set_option maxRecDepth 10000 in
set_option maxHeartbeats 2000000 in
theorem next_odd {w : World} {g : Nat} {S : List Nat} {H U : List Int} {odd : Nat} (h : Mc w g S H U odd) (p : Int) (wp : -9223372036854775808 ≤ p ∧ p < 9223372036854775808) (hp : p ∉ U) (hU : U ≠ []) (ho : odd < 1000000) :
    Calls Try.prog 9 #[.pointer (some ⟨g, 0, none⟩), .int .i64 p] w fun e w' => ∃ z H', e = .returned (.tuple #[.int .i64 z, .bool true]) ∧ z ∈ U ∧ (∀ y ∈ U, z ≤ y) ∧ Mc w' g S H' (less U z) (odd + 1) ∧ Fr S w w' := by
  obtain ⟨v, mb, h1, h2, h3, rfl, h4, h5, h6⟩ := h
  have c1 := cell_at h1.top 1
  have c2 := cell_at h1.top 2
  have f2 := free_at h1.top 2
  obtain ⟨u, hu⟩ : ∃ u : Nat, U.length = u + 1 := ⟨U.length - 1, by have := List.length_pos_iff.2 hU; omega⟩
  have hl := fun ty => h3.len (P := Try.prog) Try.underlying28 ty
  simp only [List.length_map, hu] at hl
  have hlk := set_look h3 p wp (u := false) (by simp [hp])
  have q0 : IntKind.i64.wrap ((odd : Int) + 1) = (odd : Int) + 1 := IntWalk.i64_in _ (by omega)
  have t0 : ((u : Int) + 1 == 0) = false := by rw [beq_eq_false_iff_ne]; omega
  obtain ⟨a1, a2⟩ := set_apart h1 h3
  clear hu
  go_enter Try.func9, Try.ntmps9
  go_wp2
  go_loopw [1] (fun z wr => ∃ (zi : Int) (v' : Value) (H' : List Int), z = .int .i64 zi ∧ Hq wr g v' (.map (some mb)) (.int .i64 ((odd + 1 : Nat) : Int)) 39 H' ∧ HeapN H' H'.length ∧ DictAt wr mb (setU U) ∧ v'.ownBlock = v.ownBlock ∧ Hid ((zi ∉ U ∧ ∀ y ∈ U, y ∈ H') ∨ (zi ∈ U ∧ (∀ y ∈ U, zi ≤ y) ∧ ∀ y ∈ U, y = zi ∨ y ∈ H')) ∧ Hid (-9223372036854775808 ≤ zi ∧ zi < 9223372036854775808) ∧ Hid (∀ y ∈ H', 0 ≤ y ∧ y < 64) ∧ Hid (H'.length ≤ 64) ∧ Hid (Fr (g :: mb :: v.ownBlock.toList) w wr)) (fun _ wr => hLen wr g)
  case atStart =>
    have fs : Fr [g] w (w.setCell ⟨g, 2, none⟩ (.int .i64 ((odd : Int) + 1))) := Fr.set (Fr.refl _ _) _ (.inl (by simp)) _
    refine ⟨p, v, H, rfl, ⟨?_, ?_, h1.apart⟩, h2, h3.fr fs (by simpa using a1), rfl, .inl ⟨hp, h4⟩, wp, h5, h6, fs.mono ?_⟩
    · exact heap_set (a := ⟨g, 2, none⟩) h1.top rfl _
    · refine own_fr h1.own fs (fun k hk hm => ?_)
      simp at hm; subst hm; exact h1.apart hk
    · intro k hk
      simp at hk; subst hk
      exact .inl (by simp)
  case round =>
    clear h1 h2 h3 h4 h5 h6 hlk c1 c2 f2 hl a1 a2 q0
    obtain ⟨zi, v', H', rfl, hQ, hh, hD, hvb, HV, HW, HR, HL, HF⟩ := hrel
    have c1 := cell_at hQ.top 1
    obtain ⟨a1, a2⟩ := set_apart hQ hD
    by_cases hz : zi ∈ U
    · have hlk := set_look hD zi HW.out (u := true) (by simp [hz])
      obtain ⟨w1, e1, hm1, f1⟩ := hD.drop (P := Try.prog) Try.underlying28 Try.underlying3 (z := zi) (WalkArith.wf_i64 (by have := HW.out; omega)) 0
      rw [less_map] at hm1
      have HV2 : Hid ((∀ y ∈ U, zi ≤ y) ∧ ∀ y ∈ U, y = zi ∨ y ∈ H') := by
        rcases HV.out with h | h
        · exact absurd hz h.1
        · exact h.2
      have HZ : Hid (zi ∈ U) := hz
      clear hz
      go_wp2
      go_ret2
      refine ⟨zi, H', rfl, HZ.out, HV2.out.1, ⟨v', mb, hQ.fr f1 (by simpa using a1.symm) (fun k hk => by simpa using a2 k hk), hh, hm1, by rw [hvb], fun y hy => ?_, HR.out, HL.out⟩, HF.out.trans f1 ?_⟩
      · obtain ⟨h7, h8⟩ := less_mem.1 hy
        rcases HV2.out.2 y h7 with h9 | h9
        · exact absurd h9 h8
        · exact h9
      · intro k hk; simp at hk; subst hk; exact .inl (by simp)
    · have hlk := set_look hD zi HW.out (u := false) (by simp [hz])
      have HV2 : Hid (∀ y ∈ U, y ∈ H') := by
        rcases HV.out with h | h
        · exact h.2
        · exact absurd h.1 hz
      have hne : H' ≠ [] := by
        obtain ⟨y, hy⟩ := List.exists_mem_of_ne_nil U hU
        intro e
        have := HV2.out y hy
        rw [e] at this; cases this
      have HP := hpop_calls hQ hne hh (by have := HL.out; omega)
      have hta := fun n => assert_int n
      have hlen := hQ.len
      have HLN : Hid _ := hlen
      have HU2 : Hid (U ≠ []) := hU
      clear hz hne hh hQ hlen hU hp
      go_wp2_with (go_at_call 13; refine HP.mono ?_; rintro e w2 ⟨z2, rfl, hz2, hmin, v2, H2, hQ2, hh2, hperm, hvb2, hf2⟩)
      have hmem : ∀ y, y ∈ H' ↔ y = z2 ∨ y ∈ H2 := fun y => by rw [hperm.mem_iff, List.mem_cons]
      have hll := hperm.length_eq
      simp only [List.length_cons] at hll
      have hz2r := HR.out z2 hz2
      go_roundw
      case rel =>
        refine ⟨z2, v2, H2, rfl, hQ2, hh2, hD.fr hf2 ?_, hvb2.trans hvb, ?_, ?_, ?_, ?_, HF.out.trans hf2 ?_⟩
        · simp only [List.mem_cons, Option.mem_toList]
          rintro (h | h)
          · exact a1 h
          · exact a2 _ h rfl
        · by_cases hzU : z2 ∈ U
          · exact .inr ⟨hzU, fun y hy => hmin y (HV2.out y hy), fun y hy => (hmem y).1 (HV2.out y hy)⟩
          · refine .inl ⟨hzU, fun y hy => ?_⟩
            rcases (hmem y).1 (HV2.out y hy) with h | h
            · exact absurd (h ▸ hy) hzU
            · exact h
        · show _ ∧ _; omega
        · exact fun y hy => HR.out y ((hmem y).2 (.inr hy))
        · show _ ≤ _; have := HL.out; omega
        · intro k hk
          simp only [List.mem_cons, Option.mem_toList] at hk ⊢
          rcases hk with h | h
          · exact .inl (.inl h)
          · exact .inl (.inr (.inr (by rw [← hvb]; exact h)))
      case measure => rw [hQ2.len, HLN.out]; omega
end Go.Proofs.Ytekimoblmcbjlaa
