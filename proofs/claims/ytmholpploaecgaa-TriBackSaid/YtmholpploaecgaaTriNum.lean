/-
  A triangle's numbers.
-/
import Derived.Test.YtmholpploaecgaaRecChk
import Derived.Deep.CutRange
import Derived.StillTailTactics
namespace Go.Proofs.Ytmholpploaecgaa
open Go.RowKit
set_option linter.unusedVariables false

/-- The k-th number of corner i. -/
def num (x : Nat → Int) (i k : Nat) : Int := if k = 0 then x (2 * i) else if k = 1 then x (2 * i + 1) else if k = 2 then x (6 + i) else if k = 3 then x (9 + i) else x (8 + 4 * i + k)
/-- The block of numbers behind j corners. -/
def numArr (x : Nat → Int) (j : Nat) : Array Value := #[.int .i64 (if 0 < j then num x 0 0 else 0), .int .i64 (if 0 < j then num x 0 1 else 0), .int .i64 (if 0 < j then num x 0 2 else 0), .int .i64 (if 0 < j then num x 0 3 else 0), .int .i64 (if 0 < j then num x 0 4 else 0), .int .i64 (if 0 < j then num x 0 5 else 0), .int .i64 (if 0 < j then num x 0 6 else 0), .int .i64 (if 0 < j then num x 0 7 else 0), .int .i64 (if 1 < j then num x 1 0 else 0), .int .i64 (if 1 < j then num x 1 1 else 0), .int .i64 (if 1 < j then num x 1 2 else 0), .int .i64 (if 1 < j then num x 1 3 else 0), .int .i64 (if 1 < j then num x 1 4 else 0), .int .i64 (if 1 < j then num x 1 5 else 0), .int .i64 (if 1 < j then num x 1 6 else 0), .int .i64 (if 1 < j then num x 1 7 else 0), .int .i64 (if 2 < j then num x 2 0 else 0), .int .i64 (if 2 < j then num x 2 1 else 0), .int .i64 (if 2 < j then num x 2 2 else 0), .int .i64 (if 2 < j then num x 2 3 else 0), .int .i64 (if 2 < j then num x 2 4 else 0), .int .i64 (if 2 < j then num x 2 5 else 0), .int .i64 (if 2 < j then num x 2 6 else 0), .int .i64 (if 2 < j then num x 2 7 else 0)]
theorem put8 {w : World} {g : Nat} {c : Array Value} {T : TypeId} {fz : Nat × Nat} (h : w.heap[g]? = some (.cells c T fz)) (o0 o1 o2 o3 o4 o5 o6 o7 : Nat) (a0 a1 a2 a3 a4 a5 a6 a7 : Value) :
    ((((((((w.setCell ⟨g, o0, none⟩ a0).setCell ⟨g, o1, none⟩ a1).setCell ⟨g, o2, none⟩ a2).setCell ⟨g, o3, none⟩ a3).setCell ⟨g, o4, none⟩ a4).setCell ⟨g, o5, none⟩ a5).setCell ⟨g, o6, none⟩ a6).setCell ⟨g, o7, none⟩ a7).heap[g]? =
      some (.cells ((((((((c.setIfInBounds o0 a0).setIfInBounds o1 a1).setIfInBounds o2 a2).setIfInBounds o3 a3).setIfInBounds o4 a4).setIfInBounds o5 a5).setIfInBounds o6 a6).setIfInBounds o7 a7) T fz) := by
  have h0 := heap_set (a := ⟨g, o0, none⟩) h rfl a0
  have h1 := heap_set (a := ⟨g, o1, none⟩) h0 rfl a1
  have h2 := heap_set (a := ⟨g, o2, none⟩) h1 rfl a2
  have h3 := heap_set (a := ⟨g, o3, none⟩) h2 rfl a3
  have h4 := heap_set (a := ⟨g, o4, none⟩) h3 rfl a4
  have h5 := heap_set (a := ⟨g, o5, none⟩) h4 rfl a5
  have h6 := heap_set (a := ⟨g, o6, none⟩) h5 rfl a6
  exact heap_set (a := ⟨g, o7, none⟩) h6 rfl a7
theorem fr8 {S : List Nat} {w0 w : World} (h : Fr S w0 w) {g : Nat} (hg : g ∈ S) (o0 o1 o2 o3 o4 o5 o6 o7 : Nat) (a0 a1 a2 a3 a4 a5 a6 a7 : Value) :
    Fr S w0 ((((((((w.setCell ⟨g, o0, none⟩ a0).setCell ⟨g, o1, none⟩ a1).setCell ⟨g, o2, none⟩ a2).setCell ⟨g, o3, none⟩ a3).setCell ⟨g, o4, none⟩ a4).setCell ⟨g, o5, none⟩ a5).setCell ⟨g, o6, none⟩ a6).setCell ⟨g, o7, none⟩ a7) :=
  (((((((h.set _ (.inl hg) _).set _ (.inl hg) _).set _ (.inl hg) _).set _ (.inl hg) _).set _ (.inl hg) _).set _ (.inl hg) _).set _ (.inl hg) _).set _ (.inl hg) _
theorem Try.infoN38 : (Try.prog.info? 72).map (·.size) = some 24 := by kernel_rfl
set_option maxRecDepth 10000 in
set_option maxHeartbeats 16000000 in
theorem numbers_calls (x : Nat → Int) (w : World) :
    Calls Try.prog 23 #[.agg #[.int .i64 (x 0), .int .i64 (x 1), .int .i64 (x 2), .int .i64 (x 3), .int .i64 (x 4), .int .i64 (x 5), .int .i64 (x 6), .int .i64 (x 7), .int .i64 (x 8), .int .i64 (x 9), .int .i64 (x 10), .int .i64 (x 11), .int .i64 (x 12), .int .i64 (x 13), .int .i64 (x 14), .int .i64 (x 15), .int .i64 (x 16), .int .i64 (x 17), .int .i64 (x 18), .int .i64 (x 19), .int .i64 (x 20), .int .i64 (x 21), .int .i64 (x 22), .int .i64 (x 23)]] w fun e w' => e = .returned (.agg #[.int .i64 (num x 0 0), .int .i64 (num x 0 1), .int .i64 (num x 0 2), .int .i64 (num x 0 3), .int .i64 (num x 0 4), .int .i64 (num x 0 5), .int .i64 (num x 0 6), .int .i64 (num x 0 7), .int .i64 (num x 1 0), .int .i64 (num x 1 1), .int .i64 (num x 1 2), .int .i64 (num x 1 3), .int .i64 (num x 1 4), .int .i64 (num x 1 5), .int .i64 (num x 1 6), .int .i64 (num x 1 7), .int .i64 (num x 2 0), .int .i64 (num x 2 1), .int .i64 (num x 2 2), .int .i64 (num x 2 3), .int .i64 (num x 2 4), .int .i64 (num x 2 5), .int .i64 (num x 2 6), .int .i64 (num x 2 7)]) ∧ Below w.heap.size w w' := by
  obtain ⟨B, hB⟩ : ∃ B, w.heap.size = B := ⟨_, rfl⟩
  have hbox := heap_keep (heap_keep (heap_new w (.cells #[.int .i64 (x 0), .int .i64 (x 1), .int .i64 (x 2), .int .i64 (x 3), .int .i64 (x 4), .int .i64 (x 5), .int .i64 (x 6), .int .i64 (x 7), .int .i64 (x 8), .int .i64 (x 9), .int .i64 (x 10), .int .i64 (x 11), .int .i64 (x 12), .int .i64 (x 13), .int .i64 (x 14), .int .i64 (x 15), .int .i64 (x 16), .int .i64 (x 17), .int .i64 (x 18), .int .i64 (x 19), .int .i64 (x 20), .int .i64 (x 21), .int .i64 (x 22), .int .i64 (x 23)] 41)) (.cells #[.int .i64 0, .int .i64 0, .int .i64 0, .int .i64 0, .int .i64 0, .int .i64 0, .int .i64 0, .int .i64 0, .int .i64 0, .int .i64 0, .int .i64 0, .int .i64 0, .int .i64 0, .int .i64 0, .int .i64 0, .int .i64 0, .int .i64 0, .int .i64 0, .int .i64 0, .int .i64 0, .int .i64 0, .int .i64 0, .int .i64 0, .int .i64 0] 72)) (.cells #[.int .i64 0, .int .i64 0, .int .i64 0, .int .i64 0, .int .i64 0, .int .i64 0, .int .i64 0, .int .i64 0, .int .i64 0, .int .i64 0, .int .i64 0, .int .i64 0, .int .i64 0, .int .i64 0, .int .i64 0, .int .i64 0, .int .i64 0, .int .i64 0, .int .i64 0, .int .i64 0, .int .i64 0, .int .i64 0, .int .i64 0, .int .i64 0] 72)
  go_enter Try.func23, Try.ntmps23
  go_wp2
  obtain ⟨v0, hv0⟩ : ∃ v0 : Value, Value.agg #[.int .i64 (x 0), .int .i64 (x 1), .int .i64 (x 2), .int .i64 (x 3), .int .i64 (x 4), .int .i64 (x 5), .int .i64 (x 6), .int .i64 (x 7), .int .i64 (x 8), .int .i64 (x 9), .int .i64 (x 10), .int .i64 (x 11), .int .i64 (x 12), .int .i64 (x 13), .int .i64 (x 14), .int .i64 (x 15), .int .i64 (x 16), .int .i64 (x 17), .int .i64 (x 18), .int .i64 (x 19), .int .i64 (x 20), .int .i64 (x 21), .int .i64 (x 22), .int .i64 (x 23)] = v0 := ⟨_, rfl⟩
  rw [hv0]
  have h0 := heap_keep (heap_keep (heap_new w (.cells #[.int .i64 (x 0), .int .i64 (x 1), .int .i64 (x 2), .int .i64 (x 3), .int .i64 (x 4), .int .i64 (x 5), .int .i64 (x 6), .int .i64 (x 7), .int .i64 (x 8), .int .i64 (x 9), .int .i64 (x 10), .int .i64 (x 11), .int .i64 (x 12), .int .i64 (x 13), .int .i64 (x 14), .int .i64 (x 15), .int .i64 (x 16), .int .i64 (x 17), .int .i64 (x 18), .int .i64 (x 19), .int .i64 (x 20), .int .i64 (x 21), .int .i64 (x 22), .int .i64 (x 23)] 41)) (.cells #[.int .i64 0, .int .i64 0, .int .i64 0, .int .i64 0, .int .i64 0, .int .i64 0, .int .i64 0, .int .i64 0, .int .i64 0, .int .i64 0, .int .i64 0, .int .i64 0, .int .i64 0, .int .i64 0, .int .i64 0, .int .i64 0, .int .i64 0, .int .i64 0, .int .i64 0, .int .i64 0, .int .i64 0, .int .i64 0, .int .i64 0, .int .i64 0] 72)) (.cells #[.int .i64 0, .int .i64 0, .int .i64 0, .int .i64 0, .int .i64 0, .int .i64 0, .int .i64 0, .int .i64 0, .int .i64 0, .int .i64 0, .int .i64 0, .int .i64 0, .int .i64 0, .int .i64 0, .int .i64 0, .int .i64 0, .int .i64 0, .int .i64 0, .int .i64 0, .int .i64 0, .int .i64 0, .int .i64 0, .int .i64 0, .int .i64 0] 72)
  have h1 := heap_keep (heap_new (w.alloc (.cells #[.int .i64 (x 0), .int .i64 (x 1), .int .i64 (x 2), .int .i64 (x 3), .int .i64 (x 4), .int .i64 (x 5), .int .i64 (x 6), .int .i64 (x 7), .int .i64 (x 8), .int .i64 (x 9), .int .i64 (x 10), .int .i64 (x 11), .int .i64 (x 12), .int .i64 (x 13), .int .i64 (x 14), .int .i64 (x 15), .int .i64 (x 16), .int .i64 (x 17), .int .i64 (x 18), .int .i64 (x 19), .int .i64 (x 20), .int .i64 (x 21), .int .i64 (x 22), .int .i64 (x 23)] 41)) (.cells #[.int .i64 0, .int .i64 0, .int .i64 0, .int .i64 0, .int .i64 0, .int .i64 0, .int .i64 0, .int .i64 0, .int .i64 0, .int .i64 0, .int .i64 0, .int .i64 0, .int .i64 0, .int .i64 0, .int .i64 0, .int .i64 0, .int .i64 0, .int .i64 0, .int .i64 0, .int .i64 0, .int .i64 0, .int .i64 0, .int .i64 0, .int .i64 0] 72)) (.cells #[.int .i64 0, .int .i64 0, .int .i64 0, .int .i64 0, .int .i64 0, .int .i64 0, .int .i64 0, .int .i64 0, .int .i64 0, .int .i64 0, .int .i64 0, .int .i64 0, .int .i64 0, .int .i64 0, .int .i64 0, .int .i64 0, .int .i64 0, .int .i64 0, .int .i64 0, .int .i64 0, .int .i64 0, .int .i64 0, .int .i64 0, .int .i64 0] 72)
  have h2 := heap_new ((w.alloc (.cells #[.int .i64 (x 0), .int .i64 (x 1), .int .i64 (x 2), .int .i64 (x 3), .int .i64 (x 4), .int .i64 (x 5), .int .i64 (x 6), .int .i64 (x 7), .int .i64 (x 8), .int .i64 (x 9), .int .i64 (x 10), .int .i64 (x 11), .int .i64 (x 12), .int .i64 (x 13), .int .i64 (x 14), .int .i64 (x 15), .int .i64 (x 16), .int .i64 (x 17), .int .i64 (x 18), .int .i64 (x 19), .int .i64 (x 20), .int .i64 (x 21), .int .i64 (x 22), .int .i64 (x 23)] 41)).alloc (.cells #[.int .i64 0, .int .i64 0, .int .i64 0, .int .i64 0, .int .i64 0, .int .i64 0, .int .i64 0, .int .i64 0, .int .i64 0, .int .i64 0, .int .i64 0, .int .i64 0, .int .i64 0, .int .i64 0, .int .i64 0, .int .i64 0, .int .i64 0, .int .i64 0, .int .i64 0, .int .i64 0, .int .i64 0, .int .i64 0, .int .i64 0, .int .i64 0] 72)) (.cells #[.int .i64 0, .int .i64 0, .int .i64 0, .int .i64 0, .int .i64 0, .int .i64 0, .int .i64 0, .int .i64 0, .int .i64 0, .int .i64 0, .int .i64 0, .int .i64 0, .int .i64 0, .int .i64 0, .int .i64 0, .int .i64 0, .int .i64 0, .int .i64 0, .int .i64 0, .int .i64 0, .int .i64 0, .int .i64 0, .int .i64 0, .int .i64 0] 72)
  have hb := (((Below.refl w.heap.size w).alloc (Nat.le_refl _) (.cells #[.int .i64 (x 0), .int .i64 (x 1), .int .i64 (x 2), .int .i64 (x 3), .int .i64 (x 4), .int .i64 (x 5), .int .i64 (x 6), .int .i64 (x 7), .int .i64 (x 8), .int .i64 (x 9), .int .i64 (x 10), .int .i64 (x 11), .int .i64 (x 12), .int .i64 (x 13), .int .i64 (x 14), .int .i64 (x 15), .int .i64 (x 16), .int .i64 (x 17), .int .i64 (x 18), .int .i64 (x 19), .int .i64 (x 20), .int .i64 (x 21), .int .i64 (x 22), .int .i64 (x 23)] 41)).alloc (by simp) (.cells #[.int .i64 0, .int .i64 0, .int .i64 0, .int .i64 0, .int .i64 0, .int .i64 0, .int .i64 0, .int .i64 0, .int .i64 0, .int .i64 0, .int .i64 0, .int .i64 0, .int .i64 0, .int .i64 0, .int .i64 0, .int .i64 0, .int .i64 0, .int .i64 0, .int .i64 0, .int .i64 0, .int .i64 0, .int .i64 0, .int .i64 0, .int .i64 0] 72)).alloc (by simp; omega) (.cells #[.int .i64 0, .int .i64 0, .int .i64 0, .int .i64 0, .int .i64 0, .int .i64 0, .int .i64 0, .int .i64 0, .int .i64 0, .int .i64 0, .int .i64 0, .int .i64 0, .int .i64 0, .int .i64 0, .int .i64 0, .int .i64 0, .int .i64 0, .int .i64 0, .int .i64 0, .int .i64 0, .int .i64 0, .int .i64 0, .int .i64 0, .int .i64 0] 72)
  simp only [World.size_alloc, hB] at h0 h1 h2
  rw [hB] at hb
  obtain ⟨W0, hW0⟩ : ∃ W0, ((w.alloc (.cells #[.int .i64 (x 0), .int .i64 (x 1), .int .i64 (x 2), .int .i64 (x 3), .int .i64 (x 4), .int .i64 (x 5), .int .i64 (x 6), .int .i64 (x 7), .int .i64 (x 8), .int .i64 (x 9), .int .i64 (x 10), .int .i64 (x 11), .int .i64 (x 12), .int .i64 (x 13), .int .i64 (x 14), .int .i64 (x 15), .int .i64 (x 16), .int .i64 (x 17), .int .i64 (x 18), .int .i64 (x 19), .int .i64 (x 20), .int .i64 (x 21), .int .i64 (x 22), .int .i64 (x 23)] 41)).alloc (.cells #[.int .i64 0, .int .i64 0, .int .i64 0, .int .i64 0, .int .i64 0, .int .i64 0, .int .i64 0, .int .i64 0, .int .i64 0, .int .i64 0, .int .i64 0, .int .i64 0, .int .i64 0, .int .i64 0, .int .i64 0, .int .i64 0, .int .i64 0, .int .i64 0, .int .i64 0, .int .i64 0, .int .i64 0, .int .i64 0, .int .i64 0, .int .i64 0] 72)).alloc (.cells #[.int .i64 0, .int .i64 0, .int .i64 0, .int .i64 0, .int .i64 0, .int .i64 0, .int .i64 0, .int .i64 0, .int .i64 0, .int .i64 0, .int .i64 0, .int .i64 0, .int .i64 0, .int .i64 0, .int .i64 0, .int .i64 0, .int .i64 0, .int .i64 0, .int .i64 0, .int .i64 0, .int .i64 0, .int .i64 0, .int .i64 0, .int .i64 0] 72) = W0 := ⟨_, rfl⟩
  rw [hW0] at h0 h1 h2 hb ⊢
  have HBE := hid1 hB
  have HH0 := hid1 h0
  have HH1 := hid1 h1
  have HH2 := hid1 h2
  have HHB := hid1 hb
  clear hv0 hW0 h0 h1 h2 hb hB hbox
  go_loopw [6] (fun k wr => ∃ j : Nat, j ≤ 3 ∧ k = .int .i64 j ∧ Hid (wr.heap[B]? = some (.cells #[.int .i64 (x 0), .int .i64 (x 1), .int .i64 (x 2), .int .i64 (x 3), .int .i64 (x 4), .int .i64 (x 5), .int .i64 (x 6), .int .i64 (x 7), .int .i64 (x 8), .int .i64 (x 9), .int .i64 (x 10), .int .i64 (x 11), .int .i64 (x 12), .int .i64 (x 13), .int .i64 (x 14), .int .i64 (x 15), .int .i64 (x 16), .int .i64 (x 17), .int .i64 (x 18), .int .i64 (x 19), .int .i64 (x 20), .int .i64 (x 21), .int .i64 (x 22), .int .i64 (x 23)] 41 (0, 0))) ∧ Hid (wr.heap[B + 1]? = some (.cells #[.int .i64 0, .int .i64 0, .int .i64 0, .int .i64 0, .int .i64 0, .int .i64 0, .int .i64 0, .int .i64 0, .int .i64 0, .int .i64 0, .int .i64 0, .int .i64 0, .int .i64 0, .int .i64 0, .int .i64 0, .int .i64 0, .int .i64 0, .int .i64 0, .int .i64 0, .int .i64 0, .int .i64 0, .int .i64 0, .int .i64 0, .int .i64 0] 72 (0, 0))) ∧ Hid (wr.heap[B + 1 + 1]? = some (.cells (numArr x j) 72 (0, 0))) ∧ Hid (Below B w wr)) (fun k _ => 3 - (intOf k).toNat)
  case atStart => exact ⟨0, by omega, rfl, HH0.out, HH1.out, HH2.out, HHB.out⟩
  case round =>
    clear HH0 HH1 HH2 HHB
    obtain ⟨j, hj, rfl, HX, HZ, HN, HB⟩ := hrel
    by_cases hlt : j < 3
    · rcases (show j = 0 ∨ j = 1 ∨ j = 2 by omega) with rfl | rfl | rfl
      · have ha : numArr x 0 = #[.int .i64 0, .int .i64 0, .int .i64 0, .int .i64 0, .int .i64 0, .int .i64 0, .int .i64 0, .int .i64 0, .int .i64 0, .int .i64 0, .int .i64 0, .int .i64 0, .int .i64 0, .int .i64 0, .int .i64 0, .int .i64 0, .int .i64 0, .int .i64 0, .int .i64 0, .int .i64 0, .int .i64 0, .int .i64 0, .int .i64 0, .int .i64 0] := rfl
        have ha2 : numArr x 1 = #[.int .i64 (num x 0 0), .int .i64 (num x 0 1), .int .i64 (num x 0 2), .int .i64 (num x 0 3), .int .i64 (num x 0 4), .int .i64 (num x 0 5), .int .i64 (num x 0 6), .int .i64 (num x 0 7), .int .i64 0, .int .i64 0, .int .i64 0, .int .i64 0, .int .i64 0, .int .i64 0, .int .i64 0, .int .i64 0, .int .i64 0, .int .i64 0, .int .i64 0, .int .i64 0, .int .i64 0, .int .i64 0, .int .i64 0, .int .i64 0] := rfl
        have h3 := HN.out
        rw [ha] at h3
        have e0 := cell_at HX.out 12
        have e1 := cell_at HX.out 13
        have e2 := cell_at HX.out 14
        have e3 := cell_at HX.out 15
        go_upto_region 6 with (fail)
        have hv := heap_new wr (.cells #[.int .i64 (x 12), .int .i64 (x 13), .int .i64 (x 14), .int .i64 (x 15)] 38)
        have hx := heap_keep HX.out (.cells #[.int .i64 (x 12), .int .i64 (x 13), .int .i64 (x 14), .int .i64 (x 15)] 38)
        have hz := heap_keep HZ.out (.cells #[.int .i64 (x 12), .int .i64 (x 13), .int .i64 (x 14), .int .i64 (x 15)] 38)
        have hn := heap_keep h3 (.cells #[.int .i64 (x 12), .int .i64 (x 13), .int .i64 (x 14), .int .i64 (x 15)] 38)
        have hbw := HB.out.alloc (Nat.le_of_lt (heap_lt HX.out)) (.cells #[.int .i64 (x 12), .int .i64 (x 13), .int .i64 (x 14), .int .i64 (x 15)] 38)
        obtain ⟨W, hW⟩ : ∃ W, wr.alloc (.cells #[.int .i64 (x 12), .int .i64 (x 13), .int .i64 (x 14), .int .i64 (x 15)] 38) = W := ⟨_, rfl⟩
        obtain ⟨C, hC⟩ : ∃ C, wr.heap.size = C := ⟨_, rfl⟩
        rw [hW] at hv hx hz hn hbw ⊢
        rw [hC] at hv ⊢
        have k0 := cell_at hx 0
        have k1 := cell_at hx 1
        have k6 := cell_at hx 6
        have k9 := cell_at hx 9
        have v0 := cell_at hv 0
        have v1 := cell_at hv 1
        have v2 := cell_at hv 2
        have v3 := cell_at hv 3
        have n0 := cell_at hn 0
        have f0 := free_at hn 0
        have n1 := cell_at hn 1
        have f1 := free_at hn 1
        have n2 := cell_at hn 2
        have f2 := free_at hn 2
        have n3 := cell_at hn 3
        have f3 := free_at hn 3
        have n4 := cell_at hn 4
        have f4 := free_at hn 4
        have n5 := cell_at hn 5
        have f5 := free_at hn 5
        have n6 := cell_at hn 6
        have f6 := free_at hn 6
        have n7 := cell_at hn 7
        have f7 := free_at hn 7
        have HX2 := hid1 hx
        have HZ2 := hid1 hz
        have HN2 := hid1 hn
        have HBW := hid1 hbw
        have HA2 := hid1 ha2
        clear hW hC hv hx hz hn hbw h3 e0 e1 e2 e3 ha ha2
        go_still_tail 29, (by kernel_rfl)
        change wpList _ _ _ _ _ W.drew
        go_wp2
        go_roundw
        case rel =>
          have hfr := Fr.drew1 (fr8 (g := B + 1 + 1) (S := [B + 1 + 1]) (Fr.refl [B + 1 + 1] W) (by simp) 0 1 2 3 4 5 6 7 (.int .i64 (x 0)) (.int .i64 (x 1)) (.int .i64 (x 6)) (.int .i64 (x 9)) (.int .i64 (x 12)) (.int .i64 (x 13)) (.int .i64 (x 14)) (.int .i64 (x 15)))
          refine ⟨1, by omega, by go_num, hfr.heap HX2.out (by simp; omega), hfr.heap HZ2.out (by simp), ?_, ?_⟩
          · have h8 := put8 HN2.out 0 1 2 3 4 5 6 7 (.int .i64 (x 0)) (.int .i64 (x 1)) (.int .i64 (x 6)) (.int .i64 (x 9)) (.int .i64 (x 12)) (.int .i64 (x 13)) (.int .i64 (x 14)) (.int .i64 (x 15))
            simp only [List.setIfInBounds_toArray, List.set_cons_succ, List.set_cons_zero] at h8
            have h9 := (Fr.drew1 (Fr.refl [] _)).heap h8 (by simp)
            rw [HA2.out]
            exact h9
          · exact Fr.below HBW.out hfr (by simp; omega) (Nat.le_of_lt (heap_lt HX2.out))
        case measure => simp [intOf]
      · have ha : numArr x 1 = #[.int .i64 (num x 0 0), .int .i64 (num x 0 1), .int .i64 (num x 0 2), .int .i64 (num x 0 3), .int .i64 (num x 0 4), .int .i64 (num x 0 5), .int .i64 (num x 0 6), .int .i64 (num x 0 7), .int .i64 0, .int .i64 0, .int .i64 0, .int .i64 0, .int .i64 0, .int .i64 0, .int .i64 0, .int .i64 0, .int .i64 0, .int .i64 0, .int .i64 0, .int .i64 0, .int .i64 0, .int .i64 0, .int .i64 0, .int .i64 0] := rfl
        have ha2 : numArr x 2 = #[.int .i64 (num x 0 0), .int .i64 (num x 0 1), .int .i64 (num x 0 2), .int .i64 (num x 0 3), .int .i64 (num x 0 4), .int .i64 (num x 0 5), .int .i64 (num x 0 6), .int .i64 (num x 0 7), .int .i64 (num x 1 0), .int .i64 (num x 1 1), .int .i64 (num x 1 2), .int .i64 (num x 1 3), .int .i64 (num x 1 4), .int .i64 (num x 1 5), .int .i64 (num x 1 6), .int .i64 (num x 1 7), .int .i64 0, .int .i64 0, .int .i64 0, .int .i64 0, .int .i64 0, .int .i64 0, .int .i64 0, .int .i64 0] := rfl
        have h3 := HN.out
        rw [ha] at h3
        have e0 := cell_at HX.out 16
        have e1 := cell_at HX.out 17
        have e2 := cell_at HX.out 18
        have e3 := cell_at HX.out 19
        go_upto_region 6 with (fail)
        have hv := heap_new wr (.cells #[.int .i64 (x 16), .int .i64 (x 17), .int .i64 (x 18), .int .i64 (x 19)] 38)
        have hx := heap_keep HX.out (.cells #[.int .i64 (x 16), .int .i64 (x 17), .int .i64 (x 18), .int .i64 (x 19)] 38)
        have hz := heap_keep HZ.out (.cells #[.int .i64 (x 16), .int .i64 (x 17), .int .i64 (x 18), .int .i64 (x 19)] 38)
        have hn := heap_keep h3 (.cells #[.int .i64 (x 16), .int .i64 (x 17), .int .i64 (x 18), .int .i64 (x 19)] 38)
        have hbw := HB.out.alloc (Nat.le_of_lt (heap_lt HX.out)) (.cells #[.int .i64 (x 16), .int .i64 (x 17), .int .i64 (x 18), .int .i64 (x 19)] 38)
        obtain ⟨W, hW⟩ : ∃ W, wr.alloc (.cells #[.int .i64 (x 16), .int .i64 (x 17), .int .i64 (x 18), .int .i64 (x 19)] 38) = W := ⟨_, rfl⟩
        obtain ⟨C, hC⟩ : ∃ C, wr.heap.size = C := ⟨_, rfl⟩
        rw [hW] at hv hx hz hn hbw ⊢
        rw [hC] at hv ⊢
        have k2 := cell_at hx 2
        have k3 := cell_at hx 3
        have k7 := cell_at hx 7
        have k10 := cell_at hx 10
        have v0 := cell_at hv 0
        have v1 := cell_at hv 1
        have v2 := cell_at hv 2
        have v3 := cell_at hv 3
        have n0 := cell_at hn 8
        have f0 := free_at hn 8
        have n1 := cell_at hn 9
        have f1 := free_at hn 9
        have n2 := cell_at hn 10
        have f2 := free_at hn 10
        have n3 := cell_at hn 11
        have f3 := free_at hn 11
        have n4 := cell_at hn 12
        have f4 := free_at hn 12
        have n5 := cell_at hn 13
        have f5 := free_at hn 13
        have n6 := cell_at hn 14
        have f6 := free_at hn 14
        have n7 := cell_at hn 15
        have f7 := free_at hn 15
        have HX2 := hid1 hx
        have HZ2 := hid1 hz
        have HN2 := hid1 hn
        have HBW := hid1 hbw
        have HA2 := hid1 ha2
        clear hW hC hv hx hz hn hbw h3 e0 e1 e2 e3 ha ha2
        go_still_tail 29, (by kernel_rfl)
        change wpList _ _ _ _ _ W.drew
        go_wp2
        go_roundw
        case rel =>
          have hfr := Fr.drew1 (fr8 (g := B + 1 + 1) (S := [B + 1 + 1]) (Fr.refl [B + 1 + 1] W) (by simp) 8 9 10 11 12 13 14 15 (.int .i64 (x 2)) (.int .i64 (x 3)) (.int .i64 (x 7)) (.int .i64 (x 10)) (.int .i64 (x 16)) (.int .i64 (x 17)) (.int .i64 (x 18)) (.int .i64 (x 19)))
          refine ⟨2, by omega, by go_num, hfr.heap HX2.out (by simp; omega), hfr.heap HZ2.out (by simp), ?_, ?_⟩
          · have h8 := put8 HN2.out 8 9 10 11 12 13 14 15 (.int .i64 (x 2)) (.int .i64 (x 3)) (.int .i64 (x 7)) (.int .i64 (x 10)) (.int .i64 (x 16)) (.int .i64 (x 17)) (.int .i64 (x 18)) (.int .i64 (x 19))
            simp only [List.setIfInBounds_toArray, List.set_cons_succ, List.set_cons_zero] at h8
            have h9 := (Fr.drew1 (Fr.refl [] _)).heap h8 (by simp)
            rw [HA2.out]
            exact h9
          · exact Fr.below HBW.out hfr (by simp; omega) (Nat.le_of_lt (heap_lt HX2.out))
        case measure => simp [intOf]
      · have ha : numArr x 2 = #[.int .i64 (num x 0 0), .int .i64 (num x 0 1), .int .i64 (num x 0 2), .int .i64 (num x 0 3), .int .i64 (num x 0 4), .int .i64 (num x 0 5), .int .i64 (num x 0 6), .int .i64 (num x 0 7), .int .i64 (num x 1 0), .int .i64 (num x 1 1), .int .i64 (num x 1 2), .int .i64 (num x 1 3), .int .i64 (num x 1 4), .int .i64 (num x 1 5), .int .i64 (num x 1 6), .int .i64 (num x 1 7), .int .i64 0, .int .i64 0, .int .i64 0, .int .i64 0, .int .i64 0, .int .i64 0, .int .i64 0, .int .i64 0] := rfl
        have ha2 : numArr x 3 = #[.int .i64 (num x 0 0), .int .i64 (num x 0 1), .int .i64 (num x 0 2), .int .i64 (num x 0 3), .int .i64 (num x 0 4), .int .i64 (num x 0 5), .int .i64 (num x 0 6), .int .i64 (num x 0 7), .int .i64 (num x 1 0), .int .i64 (num x 1 1), .int .i64 (num x 1 2), .int .i64 (num x 1 3), .int .i64 (num x 1 4), .int .i64 (num x 1 5), .int .i64 (num x 1 6), .int .i64 (num x 1 7), .int .i64 (num x 2 0), .int .i64 (num x 2 1), .int .i64 (num x 2 2), .int .i64 (num x 2 3), .int .i64 (num x 2 4), .int .i64 (num x 2 5), .int .i64 (num x 2 6), .int .i64 (num x 2 7)] := rfl
        have h3 := HN.out
        rw [ha] at h3
        have e0 := cell_at HX.out 20
        have e1 := cell_at HX.out 21
        have e2 := cell_at HX.out 22
        have e3 := cell_at HX.out 23
        go_upto_region 6 with (fail)
        have hv := heap_new wr (.cells #[.int .i64 (x 20), .int .i64 (x 21), .int .i64 (x 22), .int .i64 (x 23)] 38)
        have hx := heap_keep HX.out (.cells #[.int .i64 (x 20), .int .i64 (x 21), .int .i64 (x 22), .int .i64 (x 23)] 38)
        have hz := heap_keep HZ.out (.cells #[.int .i64 (x 20), .int .i64 (x 21), .int .i64 (x 22), .int .i64 (x 23)] 38)
        have hn := heap_keep h3 (.cells #[.int .i64 (x 20), .int .i64 (x 21), .int .i64 (x 22), .int .i64 (x 23)] 38)
        have hbw := HB.out.alloc (Nat.le_of_lt (heap_lt HX.out)) (.cells #[.int .i64 (x 20), .int .i64 (x 21), .int .i64 (x 22), .int .i64 (x 23)] 38)
        obtain ⟨W, hW⟩ : ∃ W, wr.alloc (.cells #[.int .i64 (x 20), .int .i64 (x 21), .int .i64 (x 22), .int .i64 (x 23)] 38) = W := ⟨_, rfl⟩
        obtain ⟨C, hC⟩ : ∃ C, wr.heap.size = C := ⟨_, rfl⟩
        rw [hW] at hv hx hz hn hbw ⊢
        rw [hC] at hv ⊢
        have k4 := cell_at hx 4
        have k5 := cell_at hx 5
        have k8 := cell_at hx 8
        have k11 := cell_at hx 11
        have v0 := cell_at hv 0
        have v1 := cell_at hv 1
        have v2 := cell_at hv 2
        have v3 := cell_at hv 3
        have n0 := cell_at hn 16
        have f0 := free_at hn 16
        have n1 := cell_at hn 17
        have f1 := free_at hn 17
        have n2 := cell_at hn 18
        have f2 := free_at hn 18
        have n3 := cell_at hn 19
        have f3 := free_at hn 19
        have n4 := cell_at hn 20
        have f4 := free_at hn 20
        have n5 := cell_at hn 21
        have f5 := free_at hn 21
        have n6 := cell_at hn 22
        have f6 := free_at hn 22
        have n7 := cell_at hn 23
        have f7 := free_at hn 23
        have HX2 := hid1 hx
        have HZ2 := hid1 hz
        have HN2 := hid1 hn
        have HBW := hid1 hbw
        have HA2 := hid1 ha2
        clear hW hC hv hx hz hn hbw h3 e0 e1 e2 e3 ha ha2
        go_still_tail 29, (by kernel_rfl)
        change wpList _ _ _ _ _ W.drew
        go_wp2
        go_roundw
        case rel =>
          have hfr := Fr.drew1 (fr8 (g := B + 1 + 1) (S := [B + 1 + 1]) (Fr.refl [B + 1 + 1] W) (by simp) 16 17 18 19 20 21 22 23 (.int .i64 (x 4)) (.int .i64 (x 5)) (.int .i64 (x 8)) (.int .i64 (x 11)) (.int .i64 (x 20)) (.int .i64 (x 21)) (.int .i64 (x 22)) (.int .i64 (x 23)))
          refine ⟨3, by omega, by go_num, hfr.heap HX2.out (by simp; omega), hfr.heap HZ2.out (by simp), ?_, ?_⟩
          · have h8 := put8 HN2.out 16 17 18 19 20 21 22 23 (.int .i64 (x 4)) (.int .i64 (x 5)) (.int .i64 (x 8)) (.int .i64 (x 11)) (.int .i64 (x 20)) (.int .i64 (x 21)) (.int .i64 (x 22)) (.int .i64 (x 23))
            simp only [List.setIfInBounds_toArray, List.set_cons_succ, List.set_cons_zero] at h8
            have h9 := (Fr.drew1 (Fr.refl [] _)).heap h8 (by simp)
            rw [HA2.out]
            exact h9
          · exact Fr.below HBW.out hfr (by simp; omega) (Nat.le_of_lt (heap_lt HX2.out))
        case measure => simp [intOf]
    · obtain rfl : j = 3 := by omega
      have hlt2 : ¬ ((3 : Nat) : Int) < 3 := by omega
      obtain ⟨cs, hcs⟩ : ∃ cs, numArr x 3 = cs := ⟨_, rfl⟩
      obtain ⟨zs, hzs⟩ : ∃ zs : Array Value, #[.int .i64 0, .int .i64 0, .int .i64 0, .int .i64 0, .int .i64 0, .int .i64 0, .int .i64 0, .int .i64 0, .int .i64 0, .int .i64 0, .int .i64 0, .int .i64 0, .int .i64 0, .int .i64 0, .int .i64 0, .int .i64 0, .int .i64 0, .int .i64 0, .int .i64 0, .int .i64 0, .int .i64 0, .int .i64 0, .int .i64 0, .int .i64 0] = zs := ⟨_, rfl⟩
      have h3 := HN.out
      have hz := HZ.out
      rw [hcs] at h3
      rw [hzs] at hz
      have hsz : cs.size = 24 := by rw [← hcs]; rfl
      have hsz2 : zs.size = cs.size := by rw [hsz, ← hzs]; rfl
      have h1 : cs.all (·.oneCell') = true := by rw [← hcs]; simp [numArr, Value.oneCell']
      have hi : (Try.prog.info? 72).map (·.size) = some cs.size := by rw [hsz]; exact Try.infoN38
      have HCS := hid1 (show cs = #[.int .i64 (num x 0 0), .int .i64 (num x 0 1), .int .i64 (num x 0 2), .int .i64 (num x 0 3), .int .i64 (num x 0 4), .int .i64 (num x 0 5), .int .i64 (num x 0 6), .int .i64 (num x 0 7), .int .i64 (num x 1 0), .int .i64 (num x 1 1), .int .i64 (num x 1 2), .int .i64 (num x 1 3), .int .i64 (num x 1 4), .int .i64 (num x 1 5), .int .i64 (num x 1 6), .int .i64 (num x 1 7), .int .i64 (num x 2 0), .int .i64 (num x 2 1), .int .i64 (num x 2 2), .int .i64 (num x 2 3), .int .i64 (num x 2 4), .int .i64 (num x 2 5), .int .i64 (num x 2 6), .int .i64 (num x 2 7)] by rw [← hcs]; rfl)
      have H3 := hid1 h3
      have HZ1 := hid1 hz
      have HSZ := hid1 hsz2
      have HI := hid1 hi
      have H1 := hid1 h1
      clear HN HZ h3 hz hcs hzs hsz hsz2 hi h1 HX
      go_wp2_with (first
        | (with_reducible refine wpList_load_row rfl 72 (.tmp 3) rfl (B + 1 + 1) rfl _ cs _ _ H3.out Try.underlying72 rfl HI.out ?_)
        | (with_reducible refine wpList_store_row rfl 72 (.tmp 2) (.tmp 43) rfl (B + 1) cs rfl rfl _ zs HZ1.out HI.out HSZ.out H1.out ?_))
      refine bodyPost_ret (v := .agg cs) (results_cell_row (p := 2) (ty := 72) rfl _ _ (B + 1) _ cs _ _ rfl (setRow_heap _ _ _ _ _ _ HZ1.out) Try.underlying72 rfl HI.out) rfl ⟨by rw [HCS.out], ?_⟩
      have := Fr.below HB.out (fr_row wr (B + 1) cs) (by simp) (by rw [← HBE.out]; exact HB.out.size)
      rw [← HBE.out] at this ⊢
      exact this
end Go.Proofs.Ytmholpploaecgaa
