/-
  The device of blocks: its memory; making one.
-/
import Derived.Test.YtakobldhjndeiaaDict
import Derived.Test.YtakobldhjndeiaaInts
import Derived.Test.YtakobldhjndeiaaCrcLaw
import Derived.Deep.RegionHeld
import Derived.BigRegion
import Derived.Deep.QuietTactic
import Derived.BigQuiet
import Derived.Deep.CutRange
import Derived.Laws.IdiomRangeMap
import Derived.LoopN
namespace Go.Proofs.Ytakobldhjndeiaa
open Go.RowKit

theorem hid {P : Prop} (h : P) : Hid P := h
theorem Sl.fr2 {S : List Nat} {w w' : World} {a : Option Addr} {n cap size : Nat} {xs : List Value} (h : Sl w a n cap size xs) (hf : Fr S w w') (hn : xs ≠ [] → ∀ p, a = some p → p.block ∉ S) : Sl w' a n cap size xs :=
  ⟨h.len, h.le, h.max, h.nil, fun hx => by
    obtain ⟨b, off, h1, h2, h3⟩ := h.row hx
    refine ⟨b, off, h1, Nat.lt_of_lt_of_le h2 hf.size, fun i hi => ?_⟩
    have := h3 i hi
    unfold World.cell? at this ⊢
    rw [hf.block b h2 (hn hx _ h1)]; exact this⟩

/-- A device: its blocks by their numbers, its room, the last number, the most, how many puts, takes; the plan. -/
structure Dev where
  L : List (Int × List UInt8)
  room : Nat
  next : Nat
  most : Nat
  puts : Nat
  takes : Nat
  fu : List Int
  fa : List Int
  be : List (Int × Value)

/-- A block with its sum, as it lies. -/
def BlockAt (w : World) (X : List Nat) (v : Value) (bs : List UInt8) : Prop :=
  ∃ h c, v = .slice (some ⟨h, 0, none⟩) 68 c ∧ h ∉ X ∧ bs.length = 64 ∧ Bytes w (some ⟨h, 0, none⟩) 68 c (bs ++ Crc.be (Crc.sum bs))
def Rows (w : World) (X : List Nat) : List (Int × Value) → List (Int × List UInt8) → Prop
  | [], [] => True
  | p :: V, q :: L => p.1 = q.1 ∧ BlockAt w X p.2 q.2 ∧ Rows w X V L
  | _, _ => False

structure Dvx (w : World) (g mb bb : Nat) (v1 v2 : Value) (V : List (Int × Value)) (d : Dev) : Prop where
  top : w.heap[g]? = some (.cells #[.map (some mb), .int .i64 d.room, .int .i64 d.next, .int .i64 d.most, .int .i64 d.puts, .int .i64 d.takes, v1, v2, .map (some bb)] 68 (0, 0))
  map : DictAt w mb V
  rows : Rows w [g, mb] V d.L
  full : ∃ a n c, v1 = .slice a n c ∧ Sl w a n c 1 (d.fu.map i64) ∧ (d.fu.map i64 ≠ [] → ∀ p, a = some p → p.block ∉ [g, mb])
  fail : ∃ a n c, v2 = .slice a n c ∧ Sl w a n c 1 (d.fa.map i64) ∧ (d.fa.map i64 ≠ [] → ∀ p, a = some p → p.block ∉ [g, mb])
  bends : DictAt w bb d.be
  apart : g ≠ mb ∧ bb ≠ g ∧ bb ≠ mb
  nums : ∀ p ∈ d.L, 1 ≤ p.1 ∧ p.1 ≤ d.next
  room4 : d.room ≤ 4096

theorem sl_zero (w : World) (a : Addr) : Sl w (some a) 0 0 1 [] := ⟨rfl, Nat.le_refl _, by unfold maxLen; omega, fun e => by simp at e, fun h => absurd rfl h⟩
theorem six_heap (w : World) (o0 o1 o2 o3 o4 o5 : Obj) : ∀ wx, wx = ((((((w.alloc o0).alloc o1).alloc o2).alloc o3).alloc o4).alloc o5).drew →
    wx.heap[w.heap.size]? = some o0 ∧ wx.heap[w.heap.size + 1]? = some o1 ∧ wx.heap[w.heap.size + 1 + 1]? = some o2 ∧ wx.heap[w.heap.size + 1 + 1 + 1]? = some o3 ∧ wx.heap[w.heap.size + 1 + 1 + 1 + 1]? = some o4 ∧ wx.heap[w.heap.size + 1 + 1 + 1 + 1 + 1]? = some o5 ∧ Below w.heap.size w wx := by
  rintro _ rfl
  have e0 := heap_new w o0
  have e1 := heap_new (w.alloc o0) o1
  have e2 := heap_new ((w.alloc o0).alloc o1) o2
  have e3 := heap_new (((w.alloc o0).alloc o1).alloc o2) o3
  have e4 := heap_new ((((w.alloc o0).alloc o1).alloc o2).alloc o3) o4
  have e5 := heap_new (((((w.alloc o0).alloc o1).alloc o2).alloc o3).alloc o4) o5
  have z1 : (w.alloc o0).heap.size = w.heap.size + 1 := by simp
  have z2 : ((w.alloc o0).alloc o1).heap.size = w.heap.size + 1 + 1 := by simp
  have z3 : (((w.alloc o0).alloc o1).alloc o2).heap.size = w.heap.size + 1 + 1 + 1 := by simp
  have z4 : ((((w.alloc o0).alloc o1).alloc o2).alloc o3).heap.size = w.heap.size + 1 + 1 + 1 + 1 := by simp
  have z5 : (((((w.alloc o0).alloc o1).alloc o2).alloc o3).alloc o4).heap.size = w.heap.size + 1 + 1 + 1 + 1 + 1 := by simp
  rw [z1] at e1; rw [z2] at e2; rw [z3] at e3; rw [z4] at e4; rw [z5] at e5
  refine ⟨heap_keep (heap_keep (heap_keep (heap_keep (heap_keep e0 _) _) _) _) _, heap_keep (heap_keep (heap_keep (heap_keep e1 _) _) _) _, heap_keep (heap_keep (heap_keep e2 _) _) _, heap_keep (heap_keep e3 _) _, heap_keep e4 _, e5, ?_⟩
  have b0 := Below.refl w.heap.size w
  have b1 := b0.alloc b0.size o0
  have b2 := b1.alloc b1.size o1
  have b3 := b2.alloc b2.size o2
  have b4 := b3.alloc b3.size o3
  have b5 := b4.alloc b4.size o4
  exact (b5.alloc b5.size o5).drew

set_option maxRecDepth 10000 in
set_option maxHeartbeats 1000000 in
theorem dnew_nil (many : Int) (w : World) :
    Calls Try.prog 11 #[.int .i64 many, .agg #[.slice none 0 0, .slice none 0 0, .map none]] w fun e w' => ∃ g mb bb v1 v2, e = .returned (.pointer (some ⟨g, 0, none⟩)) ∧ Dvx w' g mb bb v1 v2 [] ⟨[], (min (max many 0) 4096).toNat, 0, 0, 0, 0, [], [], []⟩ ∧ (w.heap.size ≤ g ∧ w.heap.size ≤ mb) ∧ Below w.heap.size w w' := by
  obtain ⟨m, hm, hm2⟩ : ∃ m : Int, (if (0 : Int) > many then (0 : Int) else many) = m ∧ m = max many 0 := ⟨_, rfl, by split <;> omega⟩
  obtain ⟨r, hr, hr2⟩ : ∃ r : Nat, (if (4096 : Int) < m then (4096 : Int) else m) = (r : Int) ∧ r = (min (max many 0) 4096).toNat := ⟨(min (max many 0) 4096).toNat, by split <;> omega, rfl⟩
  rw [← hr2]
  have hr3 : r ≤ 4096 := by omega
  have hmm := @run_makeMap Try.prog
  clear hm2 hr2
  go_enter Try.func11, Try.ntmps11
  go_wp2
  go_cut [] from 14 to 26 (fun wx => ∃ s1 s2 bb, wx.heap[w.heap.size]? = some (.cells #[.slice none 0 0, .slice none 0 0, .map none] 34 (0, 0)) ∧ wx.heap[w.heap.size + 1]? = some (.map #[] 0) ∧ wx.heap[w.heap.size + 1 + 1]? = some (.cells #[.map (some (w.heap.size + 1)), .int .i64 (r : Int), .int .i64 0, .int .i64 0, .int .i64 0, .int .i64 0, .slice (some ⟨s1, 0, none⟩) 0 0, .slice (some ⟨s2, 0, none⟩) 0 0, .map (some bb)] 68 (0, 0)) ∧ wx.heap[bb]? = some (.map #[] 0) ∧ w.heap.size + 1 + 1 < bb ∧ Below w.heap.size w wx)
  case first =>
    go_region
    all_goals
      go_wp2
      go_meet
      case rel =>
        obtain ⟨e0, e1, e2, e3, e4, e5, hb⟩ := six_heap w _ _ _ _ _ _ _ rfl
        first
          | exact ⟨_, _, _, e0, e1, e2, e3, by omega, hb⟩
          | exact ⟨_, _, _, e0, e1, e2, e4, by omega, hb⟩
          | exact ⟨_, _, _, e0, e1, e2, e5, by omega, hb⟩
  case rest =>
    obtain ⟨s1, s2, bb, h0, h1, h2, h3, hbb, hb⟩ := hcut
    have c2 := cell_at h0 2
    clear hmm hm hr
    have hrg := run_range_nilMap (P := Try.prog) wc 32 3 49 Try.underlying32
    have hnx : ∀ ty, (Instr.next (.pointer (some ⟨wc.heap.size, 0, none⟩)) false ty).run Try.prog (wc.alloc (.mapIter none 0 #[] 0)) = _ := fun ty => run_next_nilMap wc ty 0 0 #[]
    go_wp2
    refine wp_loop_rounds 1 ?_
    rw [rounds_succ]
    go_wp2
    go_ret
    have hw := (Below.refl wc.heap.size wc).alloc (Nat.le_refl _) (.mapIter none 0 #[] 0)
    have D1 : DictAt (wc.alloc (.mapIter none 0 #[] 0)) (w.heap.size + 1) [] := ⟨#[], 0, heap_keep h1 _, rfl, MapKept.stamped_empty 0, fun _ h => by cases h⟩
    have D2 : DictAt (wc.alloc (.mapIter none 0 #[] 0)) bb [] := ⟨#[], 0, heap_keep h3 _, rfl, MapKept.stamped_empty 0, fun _ h => by cases h⟩
    refine ⟨w.heap.size + 1 + 1, w.heap.size + 1, bb, _, _, rfl, ⟨heap_keep h2 _, D1, trivial, ⟨_, _, _, rfl, sl_zero _ _, fun h => absurd rfl h⟩, ⟨_, _, _, rfl, sl_zero _ _, fun h => absurd rfl h⟩, D2, ⟨by omega, by omega, by omega⟩, (fun p h => by cases h), hr3⟩, ⟨by omega, by omega⟩, hb.alloc hb.size _⟩
end Go.Proofs.Ytakobldhjndeiaa
