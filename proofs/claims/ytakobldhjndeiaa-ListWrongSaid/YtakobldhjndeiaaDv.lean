/-
  The device with the list of its blocks, as the arena has one.
-/
import Derived.Test.YtakobldhjndeiaaDevPlan
namespace Go.Proofs.Ytakobldhjndeiaa
open Go.RowKit
set_option linter.unusedVariables false
set_option linter.unusedSimpArgs false

/-- A slice whose block is none of S. -/
def Off (S : List Nat) (v : Value) (zs : List Int) : Prop := ∀ a n c, v = .slice a n c → zs ≠ [] → ∀ p, a = some p → p.block ∉ S
theorem Dvx.frQ {w w' : World} {g mb bb : Nat} {v1 v2 : Value} {V : List (Int × Value)} {d : Dev} {S : List Nat} (h : Dvx w g mb bb v1 v2 V d) (hf : Fr S w w') (hS : g ∉ S ∧ mb ∉ S ∧ bb ∉ S) (hV : ∀ p ∈ V, ∀ k, p.2.ownBlock = some k → k ∉ S) (h1 : Off S v1 d.fu) (h2 : Off S v2 d.fa) : Dvx w' g mb bb v1 v2 V d := by
  obtain ⟨a1, n1, c1, rfl, s1, o1⟩ := h.full
  obtain ⟨a2, n2, c2, rfl, s2, o2⟩ := h.fail
  exact ⟨hf.heap h.top hS.1, h.map.fr hf hS.2.1, rows_fr hf h.rows hV, ⟨_, _, _, rfl, Sl.fr2 s1 hf (fun hne p hp => h1 _ _ _ rfl (by intro e; rw [e] at hne; simp at hne) p hp), o1⟩, ⟨_, _, _, rfl, Sl.fr2 s2 hf (fun hne p hp => h2 _ _ _ rfl (by intro e; rw [e] at hne; simp at hne) p hp), o2⟩, h.bends.fr hf hS.2.2, h.apart, h.nums, h.room4⟩
/-- The block of a slice that is not empty. -/
def blockOf (v : Value) (zs : List Int) : List Nat := match v, zs with
  | .slice (some p) _ _, _ :: _ => [p.block]
  | _, _ => []
theorem blockOf_off {v : Value} {zs : List Int} {S : List Nat} (h : ∀ k ∈ blockOf v zs, k ∉ S) : Off S v zs := by
  rintro a n c rfl hne p rfl
  cases zs with
  | nil => exact absurd rfl hne
  | cons z zs => exact h p.block (by simp [blockOf])
def rowBlocks (V : List (Int × Value)) : List Nat := V.filterMap (fun p => p.2.ownBlock)
theorem rowBlocks_mem {V : List (Int × Value)} {k : Nat} : k ∈ rowBlocks V ↔ ∃ p ∈ V, p.2.ownBlock = some k := by
  unfold rowBlocks
  rw [List.mem_filterMap]
def dvBlocks (g mb bb : Nat) (v1 v2 : Value) (V : List (Int × Value)) (d : Dev) : List Nat := g :: mb :: bb :: (blockOf v1 d.fu ++ blockOf v2 d.fa ++ rowBlocks V)
/-- The device at g; SD: its blocks. -/
def Dv (w : World) (g : Nat) (SD : List Nat) (d : Dev) : Prop := ∃ mb bb v1 v2 V, Dvx w g mb bb v1 v2 V d ∧ SD = dvBlocks g mb bb v1 v2 V d
theorem Dv.fr {w w' : World} {g : Nat} {SD S : List Nat} {d : Dev} (h : Dv w g SD d) (hf : Fr S w w') (hn : ∀ k ∈ SD, k ∉ S) : Dv w' g SD d := by
  obtain ⟨mb, bb, v1, v2, V, h, rfl⟩ := h
  unfold dvBlocks at hn
  refine ⟨mb, bb, v1, v2, V, h.frQ hf ⟨hn g (by simp), hn mb (by simp), hn bb (by simp)⟩ (fun p hp k hk => hn k ?_) (blockOf_off (fun k hk => hn k (by simp [hk]))) (blockOf_off (fun k hk => hn k (by simp [hk]))), rfl⟩
  have : k ∈ rowBlocks V := rowBlocks_mem.2 ⟨p, hp, hk⟩
  simp [this]
theorem Dv.keep {w w' : World} {g : Nat} {SD : List Nat} {d : Dev} (h : Dv w g SD d) (hb : Below w.heap.size w w') : Dv w' g SD d := h.fr (Fr.ofBelow hb) (fun k _ hm => by cases hm)
theorem Dv.mem {w : World} {g : Nat} {SD : List Nat} {d : Dev} (h : Dv w g SD d) : g ∈ SD := by
  obtain ⟨mb, bb, v1, v2, V, h, rfl⟩ := h
  simp [dvBlocks]
theorem dv_fr {w w' : World} {g mb bb : Nat} {v1 v2 : Value} {V : List (Int × Value)} {d : Dev} (h : Fr [g, mb] w w') : Fr (dvBlocks g mb bb v1 v2 V d) w w' :=
  h.mono (fun k hk => .inl (by simp at hk; unfold dvBlocks; simp; omega))
theorem dv_used {w : World} {g : Nat} {SD : List Nat} {d : Dev} (h : Dv w g SD d) :
    Calls Try.prog 19 #[.pointer (some ⟨g, 0, none⟩)] w fun e w' => e = .returned (.int .i64 d.L.length) ∧ w' = w := by
  obtain ⟨mb, bb, v1, v2, V, h, rfl⟩ := h
  exact dused_calls h
theorem dv_put {w : World} {g : Nat} {SD : List Nat} {d : Dev} (h : Dv w g SD d) {a : Option Addr} {c : Nat} {bs : List UInt8} (HB : Bytes w a 64 c bs) (ha : ∀ p, a = some p → p.block ∉ SD) (hp : d.puts < 1000000) (hnx : d.next < 1000000) (hroom : d.L.length < d.room) (hfu : (d.puts : Int) ∉ d.fu) :
    Calls Try.prog 28 #[.pointer (some ⟨g, 0, none⟩), .slice a 64 c] w fun e w' => e = .returned (.tuple #[.int .i64 ((d.next : Int) + 1), .int .i64 0]) ∧ (∃ SD', Dv w' g SD' (d.put bs) ∧ Grows SD w SD') ∧ Fr SD w w' := by
  obtain ⟨mb, bb, v1, v2, V, h, rfl⟩ := h
  refine (dput_ok h HB (fun p hp hm => ha p hp (by unfold dvBlocks; simp at hm ⊢; omega)) hp hnx hroom hfu).mono ?_
  rintro e w' ⟨rfl, ⟨q, c', hd, hq⟩, hf⟩
  refine ⟨rfl, ⟨_, ⟨mb, bb, v1, v2, _, hd, rfl⟩, fun k hk => ?_⟩, dv_fr hf⟩
  unfold dvBlocks at hk ⊢
  have hk2 : k ∈ rowBlocks (V ++ [((d.next : Int) + 1, Value.slice (some ⟨q, 0, none⟩) 68 c')]) → k ∈ rowBlocks V ∨ k = q := by
    intro hm
    obtain ⟨p, hp, e⟩ := rowBlocks_mem.1 hm
    rcases List.mem_append.1 hp with h1 | h1
    · exact .inl (rowBlocks_mem.2 ⟨p, h1, e⟩)
    · rw [List.mem_singleton.1 h1] at e
      cases e
      exact .inr rfl
  simp only [List.mem_cons, List.mem_append, Dev.put] at hk ⊢
  rcases hk with h1 | h1 | h1 | ((h1 | h1) | h1)
  · exact .inl (.inl h1)
  · exact .inl (.inr (.inl h1))
  · exact .inl (.inr (.inr (.inl h1)))
  · exact .inl (.inr (.inr (.inr (.inl (.inl h1)))))
  · exact .inl (.inr (.inr (.inr (.inl (.inr h1)))))
  · rcases hk2 h1 with h2 | rfl
    · exact .inl (.inr (.inr (.inr (.inr h2))))
    · exact .inr hq
set_option maxRecDepth 10000 in
theorem ddrop_exact {w : World} {g mb bb : Nat} {v1 v2 : Value} {V : List (Int × Value)} {d : Dev} (h : Dvx w g mb bb v1 v2 V d) {z : Int} {bs : List UInt8} (hz : (z, bs) ∈ d.L) (wz : -9223372036854775808 ≤ z ∧ z < 9223372036854775808) :
    Calls Try.prog 30 #[.pointer (some ⟨g, 0, none⟩), .int .i64 z] w fun e w' => e = .returned (.int .i64 0) ∧ Dvx w' g mb bb v1 v2 (V.filter (fun p => !(p.1 == z))) (d.less z) ∧ Fr [g, mb] w w' := by
  have c0 := cell_at h.top 0
  obtain ⟨b, c, hl, hX, h64, hB⟩ := dlook_some h hz wz
  obtain ⟨w1, e1, hm1, f1⟩ := h.map.drop (P := Try.prog) Try.underlying66 Try.underlying3 (z := z) (WalkArith.wf_i64 (by omega)) 0
  have ff : Fr [g, mb] w w1 := f1.mono (fun k hk => .inl (by simp at hk; simp [hk]))
  go_enter Try.func30, Try.ntmps30
  go_wp2
  go_ret
  refine ⟨rfl, h.turn (d' := d.less z) ff (f1.heap h.top (by have := h.apart; simp; omega)) hm1 (rows_filter z (Rows.frX ff h.rows)) rfl rfl rfl rfl (fun p hp => h.nums p (List.mem_filter.1 hp).1), ff⟩
theorem rowBlocks_less {V : List (Int × Value)} {z : Int} {k : Nat} (h : k ∈ rowBlocks (V.filter (fun p => !(p.1 == z)))) : k ∈ rowBlocks V := by
  obtain ⟨p, hp, e⟩ := rowBlocks_mem.1 h
  exact rowBlocks_mem.2 ⟨p, (List.mem_filter.1 hp).1, e⟩
theorem dv_less {w' : World} {g mb bb : Nat} {v1 v2 : Value} {V : List (Int × Value)} {d d' : Dev} {z : Int} (hd : Dvx w' g mb bb v1 v2 (V.filter (fun p => !(p.1 == z))) d') (h1 : d'.fu = d.fu) (h2 : d'.fa = d.fa) : ∃ SD', Dv w' g SD' d' ∧ ∀ k ∈ SD', k ∈ dvBlocks g mb bb v1 v2 V d := by
  refine ⟨_, ⟨mb, bb, v1, v2, _, hd, rfl⟩, fun k hk => ?_⟩
  unfold dvBlocks at hk ⊢
  rw [h1, h2] at hk
  simp only [List.mem_cons, List.mem_append] at hk ⊢
  rcases hk with h1 | h1 | h1 | (h1 | h1)
  · exact .inl h1
  · exact .inr (.inl h1)
  · exact .inr (.inr (.inl h1))
  · exact .inr (.inr (.inr (.inl h1)))
  · exact .inr (.inr (.inr (.inr (rowBlocks_less h1))))
theorem dv_drop {w : World} {g : Nat} {SD : List Nat} {d : Dev} (h : Dv w g SD d) {z : Int} {bs : List UInt8} (hz : (z, bs) ∈ d.L) (wz : -9223372036854775808 ≤ z ∧ z < 9223372036854775808) :
    Calls Try.prog 30 #[.pointer (some ⟨g, 0, none⟩), .int .i64 z] w fun e w' => e = .returned (.int .i64 0) ∧ (∃ SD', Dv w' g SD' (d.less z) ∧ ∀ k ∈ SD', k ∈ SD) ∧ Fr SD w w' := by
  obtain ⟨mb, bb, v1, v2, V, h, rfl⟩ := h
  refine (ddrop_exact h hz wz).mono ?_
  rintro e w' ⟨rfl, hd, hf⟩
  exact ⟨rfl, dv_less hd rfl rfl, dv_fr hf⟩
theorem dv_put_full {w : World} {g : Nat} {SD : List Nat} {d : Dev} (h : Dv w g SD d) {a : Option Addr} {c : Nat} (hp : d.puts < 1000000) (hfull : d.room ≤ d.L.length ∨ (d.puts : Int) ∈ d.fu) :
    Calls Try.prog 28 #[.pointer (some ⟨g, 0, none⟩), .slice a 64 c] w fun e w' => e = .returned (.tuple #[.int .i64 0, .int .i64 8]) ∧ Dv w' g SD d.tried ∧ Fr SD w w' := by
  obtain ⟨mb, bb, v1, v2, V, h, rfl⟩ := h
  refine (dput_full h hp hfull).mono ?_
  rintro e w' ⟨rfl, hd, hf⟩
  exact ⟨rfl, ⟨mb, bb, v1, v2, V, hd, rfl⟩, dv_fr hf⟩
theorem dv_take_ok {w : World} {g : Nat} {SD : List Nat} {d : Dev} (h : Dv w g SD d) {z : Int} {bs : List UInt8} (hz : (z, bs) ∈ d.L) (wz : -9223372036854775808 ≤ z ∧ z < 9223372036854775808) (htk : d.takes < 1000000) (hfa : (d.takes : Int) ∉ d.fa) (hbe : ∀ p ∈ d.be, p.1 ≠ (d.takes : Int)) :
    Calls Try.prog 31 #[.pointer (some ⟨g, 0, none⟩), .int .i64 z] w fun e w' => ∃ v, e = .returned (.tuple #[v, .int .i64 0]) ∧ OwnB w' w.heap.size v bs ∧ (∃ SD', Dv w' g SD' (d.took z) ∧ ∀ k ∈ SD', k ∈ SD) ∧ Fr SD w w' := by
  obtain ⟨mb, bb, v1, v2, V, h, rfl⟩ := h
  refine (dtake_ok h hz wz htk hfa hbe).mono ?_
  rintro e w' ⟨v, rfl, hv, hd, hf⟩
  exact ⟨v, rfl, hv, dv_less hd rfl rfl, dv_fr hf⟩
/-- A take, whatever is planned: what was put, or an error. -/
theorem dv_take {w : World} {g : Nat} {SD : List Nat} {d : Dev} (h : Dv w g SD d) {z : Int} {bs : List UInt8} (hz : (z, bs) ∈ d.L) (wz : -9223372036854775808 ≤ z ∧ z < 9223372036854775808) (htk : d.takes < 1000000)
    (hbe : ∀ p ∈ d.be, ∃ (f : Int) (m : Crc.B32), (-9223372036854775808 ≤ f ∧ f < 9223372036854775808) ∧ p.2 = .agg #[.int .i64 f, .int .u32 (m.toNat : Int)]) :
    Calls Try.prog 31 #[.pointer (some ⟨g, 0, none⟩), .int .i64 z] w fun e w' => ∃ v ez, e = .returned (.tuple #[v, .int .i64 ez]) ∧ ((ez = 10 ∧ v = .slice none 0 0) ∨ (ez = 0 ∧ OwnB w' w.heap.size v bs)) ∧ (∃ SD', Dv w' g SD' (d.took z) ∧ ∀ k ∈ SD', k ∈ SD) ∧ Fr SD w w' := by
  obtain ⟨mb, bb, v1, v2, V, h, rfl⟩ := h
  by_cases hfa : (d.takes : Int) ∈ d.fa
  · refine (dtake_fail h hz wz htk hfa).mono ?_
    rintro e w' ⟨rfl, hd, hf⟩
    exact ⟨_, _, rfl, .inl ⟨rfl, rfl⟩, dv_less hd rfl rfl, dv_fr hf⟩
  · by_cases hb : ∃ p ∈ d.be, p.1 = (d.takes : Int)
    · obtain ⟨⟨q, v⟩, hp, rfl⟩ := hb
      obtain ⟨f, m, wf, rfl⟩ := hbe _ hp
      refine (dtake_bent h hz wz htk hfa wf hp).mono ?_
      rintro e w' ⟨he, hd, hf⟩
      rcases he with rfl | ⟨v, rfl, hv⟩
      · exact ⟨_, _, rfl, .inl ⟨rfl, rfl⟩, dv_less hd rfl rfl, dv_fr hf⟩
      · exact ⟨_, _, rfl, .inr ⟨rfl, hv⟩, dv_less hd rfl rfl, dv_fr hf⟩
    · refine (dtake_ok h hz wz htk hfa (fun p hp e => hb ⟨p, hp, e⟩)).mono ?_
      rintro e w' ⟨v, rfl, hv, hd, hf⟩
      exact ⟨v, _, rfl, .inr ⟨rfl, hv⟩, dv_less hd rfl rfl, dv_fr hf⟩
end Go.Proofs.Ytakobldhjndeiaa
