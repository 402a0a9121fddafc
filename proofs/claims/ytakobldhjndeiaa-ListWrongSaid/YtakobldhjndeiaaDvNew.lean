/-
  Making a device without a plan, with a plan: with the list of its blocks.
-/
import Derived.Test.YtakobldhjndeiaaDv
import Derived.Deep.RegionHeld
import Derived.BigRegion
import Derived.Deep.QuietTactic
import Derived.BigQuiet
import Derived.Deep.CutRange
import Derived.Laws.IdiomRangeMap
import Derived.LoopN
namespace Go.Proofs.Ytakobldhjndeiaa
open Go.RowKit

set_option maxRecDepth 10000 in
set_option maxHeartbeats 1000000 in
theorem dnew_all (many : Int) (w : World) :
    Calls Try.prog 11 #[.int .i64 many, .agg #[.slice none 0 0, .slice none 0 0, .map none]] w fun e w' => ∃ g mb bb v1 v2, e = .returned (.pointer (some ⟨g, 0, none⟩)) ∧ Dvx w' g mb bb v1 v2 [] ⟨[], (min (max many 0) 4096).toNat, 0, 0, 0, 0, [], [], []⟩ ∧ (w.heap.size ≤ g ∧ w.heap.size ≤ mb ∧ w.heap.size ≤ bb) ∧ Below w.heap.size w w' := by
  obtain ⟨m, hm, hm2⟩ : ∃ m : Int, (if (0 : Int) > many then (0 : Int) else many) = m ∧ m = max many 0 := ⟨_, rfl, by split <;> omega⟩
  obtain ⟨r, hr, hr2⟩ : ∃ r : Nat, (if (4096 : Int) < m then (4096 : Int) else m) = (r : Int) ∧ r = (min (max many 0) 4096).toNat := ⟨(min (max many 0) 4096).toNat, by split <;> omega, rfl⟩
  rw [← hr2]
  have hr3 : r ≤ 4096 := by omega
  have hmm := @run_makeMap Try.prog
  clear hm2 hr2
  go_enter Try.func11, Try.ntmps11
  go_wp2
  go_cut [] from 14 to 26 (fun wx => ∃ s1 s2 bb, wx.heap[w.heap.size]? = some (.cells #[.slice none 0 0, .slice none 0 0, .map none] 34 (0, 0)) ∧ wx.heap[w.heap.size + 1]? = some (.map #[] 0) ∧ wx.heap[w.heap.size + 1 + 1]? = some (.cells #[.map (some (w.heap.size + 1)), .int .i64 (r : Int), .int .i64 0, .int .i64 0, .int .i64 0, .int .i64 0, .slice (some ⟨s1, 0, none⟩) 0 0, .slice (some ⟨s2, 0, none⟩) 0 0, .map (some bb)] 68 (0, 0)) ∧ wx.heap[bb]? = some (.map #[] 0) ∧ w.heap.size + 1 + 1 < bb ∧ Below w.heap.size w wx)
  case first =>
    go_region
    all_goals
      go_wp2
      go_meet
      case rel =>
        obtain ⟨e0, e1, e2, e3, e4, e5, hb⟩ := six_heap w _ _ _ _ _ _ _ rfl
        first
          | exact ⟨_, _, _, e0, e1, e2, e3, by omega, hb⟩
          | exact ⟨_, _, _, e0, e1, e2, e4, by omega, hb⟩
          | exact ⟨_, _, _, e0, e1, e2, e5, by omega, hb⟩
  case rest =>
    obtain ⟨s1, s2, bb, h0, h1, h2, h3, hbb, hb⟩ := hcut
    have c2 := cell_at h0 2
    clear hmm hm hr
    have hrg := run_range_nilMap (P := Try.prog) wc 32 3 49 Try.underlying32
    have hnx : ∀ ty, (Instr.next (.pointer (some ⟨wc.heap.size, 0, none⟩)) false ty).run Try.prog (wc.alloc (.mapIter none 0 #[] 0)) = _ := fun ty => run_next_nilMap wc ty 0 0 #[]
    go_wp2
    refine wp_loop_rounds 1 ?_
    rw [rounds_succ]
    go_wp2
    go_ret
    have hw := (Below.refl wc.heap.size wc).alloc (Nat.le_refl _) (.mapIter none 0 #[] 0)
    have D1 : DictAt (wc.alloc (.mapIter none 0 #[] 0)) (w.heap.size + 1) [] := ⟨#[], 0, heap_keep h1 _, rfl, MapKept.stamped_empty 0, fun _ h => by cases h⟩
    have D2 : DictAt (wc.alloc (.mapIter none 0 #[] 0)) bb [] := ⟨#[], 0, heap_keep h3 _, rfl, MapKept.stamped_empty 0, fun _ h => by cases h⟩
    refine ⟨w.heap.size + 1 + 1, w.heap.size + 1, bb, _, _, rfl, ⟨heap_keep h2 _, D1, trivial, ⟨_, _, _, rfl, sl_zero _ _, fun h => absurd rfl h⟩, ⟨_, _, _, rfl, sl_zero _ _, fun h => absurd rfl h⟩, D2, ⟨by omega, by omega, by omega⟩, (fun p h => by cases h), hr3⟩, ⟨by omega, by omega, by omega⟩, hb.alloc hb.size _⟩

theorem dv_new (many : Int) (w : World) :
    Calls Try.prog 11 #[.int .i64 many, .agg #[.slice none 0 0, .slice none 0 0, .map none]] w fun e w' => ∃ g SD, e = .returned (.pointer (some ⟨g, 0, none⟩)) ∧ Dv w' g SD ⟨[], (min (max many 0) 4096).toNat, 0, 0, 0, 0, [], [], []⟩ ∧ (∀ k ∈ SD, w.heap.size ≤ k) ∧ Below w.heap.size w w' := by
  refine (dnew_all many w).mono ?_
  rintro e w' ⟨g, mb, bb, v1, v2, rfl, hd, hl, hb⟩
  refine ⟨g, _, rfl, ⟨mb, bb, v1, v2, [], hd, rfl⟩, fun k hk => ?_, hb⟩
  have h0 : ∀ v : Value, blockOf v [] = [] := fun v => by
    unfold blockOf
    split
    · rename_i h; cases h
    · rfl
  unfold dvBlocks at hk
  simp only [h0] at hk
  simp [rowBlocks] at hk
  omega
theorem blockOf_fresh {B : Nat} {v : Value} {zs : List Int} (h : FreshP B v zs) : ∀ k ∈ blockOf v zs, B ≤ k := by
  obtain ⟨a, n, c, rfl, h1⟩ := h
  intro k hk
  cases zs with
  | nil => cases a <;> simp [blockOf] at hk
  | cons z zs =>
    cases a with
    | none => simp [blockOf] at hk
    | some p =>
      simp only [blockOf, List.mem_singleton] at hk
      rw [hk]
      exact h1 (by simp) p rfl
theorem dv_new_plan {a1 a2 : Option Addr} {n1 c1 n2 c2 pm : Nat} {zs1 zs2 : List Int} {L : List (Int × Value)} {w : World} (HI1 : Ints w a1 n1 c1 zs1) (HI2 : Ints w a2 n2 c2 zs2) (hn1 : n1 ≤ 1000) (hn2 : n2 ≤ 1000) (HD : DictAt w pm L) (HL0 : ∀ p ∈ L, ∃ f m, p.2 = bv f m) (many : Int) :
    Calls Try.prog 11 #[.int .i64 many, .agg #[.slice a1 n1 c1, .slice a2 n2 c2, .map (some pm)]] w fun e w' => ∃ g SD be, e = .returned (.pointer (some ⟨g, 0, none⟩)) ∧ Dv w' g SD ⟨[], (min (max many 0) 4096).toNat, 0, 0, 0, 0, zs1, zs2, be⟩ ∧ (∀ p, p ∈ be ↔ p ∈ L) ∧ (∀ k ∈ SD, w.heap.size ≤ k) ∧ Below w.heap.size w w' := by
  refine (dnew_plan HI1 HI2 hn1 hn2 HD HL0 many).mono ?_
  rintro e w' ⟨g, mb, bb, v1, v2, be, rfl, hd, hbe, hl, hf1, hf2, hb⟩
  refine ⟨g, _, be, rfl, ⟨mb, bb, v1, v2, [], hd, rfl⟩, hbe, fun k hk => ?_, hb⟩
  unfold dvBlocks at hk
  simp only [List.mem_cons, List.mem_append] at hk
  rcases hk with h1 | h1 | h1 | ((h1 | h1) | h1)
  · omega
  · omega
  · omega
  · exact blockOf_fresh hf1 k h1
  · exact blockOf_fresh hf2 k h1
  · simp [rowBlocks] at h1
end Go.Proofs.Ytakobldhjndeiaa
