/-
  The machine that tells which tile is next: its memory; making one.
-/
import Derived.Test.YtekimoblmcbjlaaStPop
namespace Go.Proofs.Ytekimoblmcbjlaa
open Go.RowKit

abbrev setU (U : List Int) : List (Int × Value) := U.map (fun z => (z, Value.bool true))
/-- The machine at g over the blocks S: its heap, the tiles left, the odd picks. -/
def Mc (w : World) (g : Nat) (S : List Nat) (H U : List Int) (odd : Nat) : Prop :=
  ∃ v mb, Hq w g v (.map (some mb)) (.int .i64 odd) 39 H ∧ HeapN H H.length ∧ DictAt w mb (setU U) ∧ S = g :: mb :: v.ownBlock.toList ∧ (∀ z ∈ U, z ∈ H) ∧ (∀ z ∈ H, 0 ≤ z ∧ z < 64) ∧ H.length ≤ 64

theorem set_look {w : World} {mb : Nat} {U : List Int} (h : DictAt w mb (setU U)) (z : Int) (wz : -9223372036854775808 ≤ z ∧ z < 9223372036854775808) {u : Bool} (hu : decide (z ∈ U) = u) :
    (Instr.lookup 28 (.map (some mb)) (.int .i64 z) false).run Try.prog w = .ok (.bool u) w := by
  have hz0 : (zeroValue 4).run Try.prog w = .ok (.bool false) w := by kernel_rfl
  have := h.look (P := Try.prog) Try.underlying28 Try.underlying3 hz0 false (z := z) (WalkArith.wf_i64 (by omega))
  rw [this, ← hu]
  simp only [Bool.false_eq_true, if_false]
  have hn := h.nodup
  by_cases hz : z ∈ U
  · have := (dget_some hn (List.mem_map.2 ⟨z, hz, rfl⟩) (.bool false)).1
    rw [this]; simp [hz]
  · have := (dget_none (L := setU U) (z := z) (by
      intro p hp
      obtain ⟨y, hy, rfl⟩ := List.mem_map.1 hp
      rintro rfl; exact hz hy) (.bool false)).1
    rw [this]; simp [hz]
theorem set_nodup {w : World} {mb : Nat} {U : List Int} (h : DictAt w mb (setU U)) : U.Nodup := by
  have := h.nodup
  simpa [setU, List.map_map, Function.comp_def] using this

/-- 0 .. k - 1. -/
def upTo (k : Nat) : List Int := (List.range k).map (fun j : Nat => (j : Int))
theorem upTo_succ (k : Nat) : upTo (k + 1) = upTo k ++ [(k : Int)] := by simp [upTo, List.range_succ]
theorem upTo_mem {k : Nat} {z : Int} : z ∈ upTo k ↔ 0 ≤ z ∧ z < k := by
  unfold upTo
  rw [List.mem_map]
  constructor
  · rintro ⟨j, hj, rfl⟩; rw [List.mem_range] at hj; omega
  · intro h; exact ⟨z.toNat, by rw [List.mem_range]; omega, by omega⟩
theorem upTo_len (k : Nat) : (upTo k).length = k := by simp [upTo]
theorem upTo_heap (k : Nat) : HeapN (upTo k) (upTo k).length := by
  intro i h0 hi
  rw [upTo_len] at hi
  have e : ∀ j, j < k → (upTo k).getD j 0 = j := by intro j hj; simp [upTo, hj]
  rw [e _ (by omega), e _ hi]; omega

/-- The set apart from a heap's block. -/
theorem set_apart {w : World} {g mb : Nat} {v x y : Value} {T : TypeId} {l : List Int} {L : List (Int × Value)} (h : Hq w g v x y T l) (hm : DictAt w mb L) : mb ≠ g ∧ ∀ k, v.ownBlock = some k → k ≠ mb := by
  obtain ⟨es, c, hb, _⟩ := hm
  refine ⟨?_, ?_⟩
  · rintro rfl
    have := h.top
    rw [hb] at this; cases this
  · rintro k hk rfl
    obtain ⟨_, ⟨rfl, _⟩ | ⟨b, cap, cur, rfl, _, h4, _⟩⟩ := h.own
    · cases hk
    · simp [Value.ownBlock] at hk; subst hk
      rw [hb] at h4; cases h4
theorem Hq.fr {w w' : World} {g : Nat} {v x y : Value} {T : TypeId} {l : List Int} {S : List Nat} (h : Hq w g v x y T l) (hf : Fr S w w') (h1 : g ∉ S) (h2 : ∀ k, v.ownBlock = some k → k ∉ S) : Hq w' g v x y T l :=
  ⟨hf.heap h.top h1, own_fr h.own hf h2, h.apart⟩

set_option maxRecDepth 10000 in
set_option maxHeartbeats 1000000 in
theorem snew_calls (many : Int) (w : World) :
    Calls Try.prog 8 #[.int .i64 many] w fun e w' => ∃ g S, e = .returned (.pointer (some ⟨g, 0, none⟩)) ∧ Mc w' g S (upTo (min (max many 0) 64).toNat) (upTo (min (max many 0) 64).toNat) 0 ∧ (∀ k ∈ S, w.heap.size ≤ k) ∧ Below w.heap.size w w' := by
  obtain ⟨m, hm, hm2⟩ : ∃ m : Int, (if (0 : Int) > many then (0 : Int) else many) = m ∧ m = max many 0 := ⟨_, rfl, by split <;> omega⟩
  obtain ⟨r, hr, hr2⟩ : ∃ r : Nat, (if (64 : Int) < m then (64 : Int) else m) = (r : Int) ∧ r = (min (max many 0) 64).toNat := ⟨(min (max many 0) 64).toNat, by split <;> omega, rfl⟩
  rw [← hr2]
  have hr3 : r ≤ 64 := by omega
  have hmm := @run_makeMap Try.prog
  clear hm2 hr2
  go_enter Try.func8, Try.ntmps8
  go_wp2
  go_loopw [4, 11] (fun _ i wr => ∃ (k : Nat) (v : Value), k ≤ r ∧ i = .int .i64 k ∧ Hq wr (w.heap.size + 1) v (.map (some w.heap.size)) (.int .i64 0) 39 (upTo k) ∧ DictAt wr w.heap.size (setU (upTo k)) ∧ (∀ j, v.ownBlock = some j → w.heap.size ≤ j) ∧ Below w.heap.size w wr) (fun _ i _ => r - (intOf i).toNat)
  case atStart =>
    have e1 := heap_new (w.alloc (.map #[] 0)) (.cells #[.slice none 0 0, .map (some w.heap.size), .int .i64 0] 39)
    refine ⟨0, _, by omega, rfl, ⟨by simpa using e1, OwnI.nil _ _, fun h => by cases h⟩, (DictAt.made w).keep ((Below.refl _ _).alloc (Nat.le_refl _) _), (fun j h => by cases h), ((Below.refl _ _).alloc (Nat.le_refl _) _).alloc ((Below.refl _ _).alloc (Nat.le_refl _) _).size _⟩
  case round =>
    obtain ⟨k, v, hk, rfl, hQ, hD, hv, hb⟩ := hrel
    by_cases hlt : k < r
    · have hno : ∀ p ∈ setU (upTo k), p.1 ≠ (k : Int) := by
        intro p hp
        obtain ⟨y, hy, rfl⟩ := List.mem_map.1 hp
        have := upTo_mem.1 hy
        simp only; omega
      obtain ⟨w1, e1, hD1, f1⟩ := hD.add (P := Try.prog) Try.underlying28 Try.underlying3 (z := (k : Int)) (WalkArith.wf_i64 (by omega)) hno (.bool true)
      obtain ⟨a1, a2⟩ := set_apart hQ hD
      have hQ1 := hQ.fr f1 (by simp) (fun j hj => by simpa using a2 j hj)
      have c1 := cell_at hQ.top 1
      have HB1 := Fr.below hb f1 (by simp) hb.size
      have HP := hpush_calls hQ1 (k : Int) (by rw [upTo_len]; omega) (fun z hz => by have := upTo_mem.1 hz; omega)
      clear hno hQ hD
      go_wp2_with (go_at_call 12; refine HP.mono ?_; rintro e w2 ⟨rfl, v2, hQ2, hv2, hf2⟩)
      go_roundw
      case rel =>
        refine ⟨k + 1, v2, by omega, by go_num, by rw [upTo_succ]; exact hQ2, ?_, ?_, ?_⟩
        · rw [upTo_succ, setU, List.map_append]
          refine hD1.fr hf2 ?_
          simp only [List.mem_cons, Option.mem_toList]
          rintro (h | h)
          · exact a1 h
          · exact a2 _ h rfl
        · intro j hj
          rcases hv2 with h | ⟨i, h, hi⟩
          · exact hv j (h ▸ hj)
          · rw [h] at hj; cases hj; exact Nat.le_trans HB1.size hi
        · refine Fr.below HB1 hf2 ?_ HB1.size
          intro i hi
          simp only [List.mem_cons, Option.mem_toList] at hi
          rcases hi with rfl | hi
          · omega
          · exact hv i hi
      case measure => simp [intOf]; omega
    · obtain rfl : k = r := by omega
      go_wp2
      go_ret
      refine ⟨_, _, rfl, ⟨v, _, hQ, upTo_heap k, hD, rfl, fun z h => h, fun z hz => by have := upTo_mem.1 hz; omega, by rw [upTo_len]; omega⟩, ?_, hb⟩
      intro i hi
      simp only [List.mem_cons, Option.mem_toList] at hi
      rcases hi with rfl | rfl | hi
      · omega
      · exact Nat.le_refl _
      · exact hv i hi
end Go.Proofs.Ytekimoblmcbjlaa
