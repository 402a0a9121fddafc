/-
  The law's map of blocks, beside the arena.
-/
import Derived.Test.YtinikogpeccogaaArRounds
import Derived.Test.YtinikogpeccogaaOpenAct
namespace Go.Proofs.Ytinikogpeccogaa
open Go.RowKit

theorem hid {P : Prop} (h : P) : Hid P := h
def blkV (h : Nat) : Value := .slice (some ⟨h, 0, none⟩) 64 64
structure Mm (w : World) (mB : Nat) (f : Int → Nat) (U : List Int) (mem : Nat → List UInt8) : Prop where
  map : DictAt w mB (U.map (fun z => (z, blkV (f z))))
  mems : ∀ z ∈ U, w.heap[f z]? = some (.cells (bytesArr (mem z.toNat)) 5 (0, 0)) ∧ (mem z.toNat).length = 64 ∧ f z ≠ mB
  inj : ∀ z ∈ U, ∀ y ∈ U, f z = f y → z = y
  pos : ∀ z ∈ U, 0 ≤ z
theorem Mm.lt {w : World} {mB : Nat} {f : Int → Nat} {U : List Int} {mem : Nat → List UInt8} (h : Mm w mB f U mem) : mB < w.heap.size ∧ ∀ z ∈ U, f z < w.heap.size := ⟨h.map.lt, fun z hz => heap_lt (h.mems z hz).1⟩
theorem Mm.fr {w w' : World} {mB : Nat} {f : Int → Nat} {U : List Int} {mem : Nat → List UInt8} {S : List Nat} (h : Mm w mB f U mem) (hf : Fr S w w') (h1 : mB ∉ S) (h2 : ∀ z ∈ U, f z ∉ S) : Mm w' mB f U mem :=
  ⟨h.map.fr hf h1, fun z hz => ⟨hf.heap (h.mems z hz).1 (h2 z hz), (h.mems z hz).2⟩, h.inj, h.pos⟩
theorem Mm.keep {w w' : World} {mB : Nat} {f : Int → Nat} {U : List Int} {mem : Nat → List UInt8} (h : Mm w mB f U mem) (hb : Below w.heap.size w w') : Mm w' mB f U mem := h.fr (Fr.ofBelow hb) (by simp) (by simp)
theorem zero_bytes (w : World) : (zeroValue 29).run Try.prog w = .ok (.slice none 0 0) w := by kernel_rfl
theorem Mm.there {w : World} {mB : Nat} {f : Int → Nat} {U : List Int} {mem : Nat → List UInt8} (h : Mm w mB f U mem) {z : Int} (hz : z ∈ U) (wz : -9223372036854775808 ≤ z ∧ z < 9223372036854775808) :
    (Instr.lookup 37 (.map (some mB)) (.int .i64 z) true).run Try.prog w = .ok (.tuple #[.slice (some ⟨f z, 0, none⟩) 64 64, .bool true]) w := by
  have hl := h.map.look (P := Try.prog) Try.underlying37 Try.underlying3 (zero_bytes w) true (z := z) (WalkArith.wf_i64 (by omega))
  obtain ⟨e1, e2⟩ := dget_some h.map.nodup (List.mem_map.2 ⟨z, hz, rfl⟩) (.slice none 0 0)
  rw [e1, e2] at hl
  exact hl
theorem Mm.away {w : World} {mB : Nat} {f : Int → Nat} {U : List Int} {mem : Nat → List UInt8} (h : Mm w mB f U mem) {z : Int} (hz : z ∉ U) (wz : -9223372036854775808 ≤ z ∧ z < 9223372036854775808) :
    (Instr.lookup 37 (.map (some mB)) (.int .i64 z) true).run Try.prog w = .ok (.tuple #[.slice none 0 0, .bool false]) w := by
  have hl := h.map.look (P := Try.prog) Try.underlying37 Try.underlying3 (zero_bytes w) true (z := z) (WalkArith.wf_i64 (by omega))
  obtain ⟨e1, e2⟩ := dget_none (L := U.map (fun z => (z, blkV (f z)))) (z := z) (fun p hp e => by obtain ⟨y, hy, rfl⟩ := List.mem_map.1 hp; exact hz (e ▸ hy)) (.slice none 0 0)
  rw [e1, e2] at hl
  exact hl
theorem Mm.len {w : World} {mB : Nat} {f : Int → Nat} {U : List Int} {mem : Nat → List UInt8} (h : Mm w mB f U mem) {u : Int} (hu : (U.length : Int) = u) : ∀ ty, (Builtin.len_ #[37] ty #[.map (some mB)]).run Try.prog w = .ok (.int .i64 u) w := by
  intro ty
  have := h.map.len (P := Try.prog) Try.underlying37 ty
  rw [List.length_map, hu] at this
  exact this
theorem Mm.drop {w : World} {mB : Nat} {f : Int → Nat} {U : List Int} {mem : Nat → List UInt8} (h : Mm w mB f U mem) (z : Int) (wz : -9223372036854775808 ≤ z ∧ z < 9223372036854775808) :
    ∃ w', (Builtin.delete_ #[37, 3] 0 #[.map (some mB), .int .i64 z]).run Try.prog w = .ok (.tuple #[]) w' ∧ Mm w' mB f (less U z) mem ∧ Fr [mB] w w' := by
  obtain ⟨w1, e1, h2, h3⟩ := h.map.drop (P := Try.prog) Try.underlying37 Try.underlying3 (z := z) (WalkArith.wf_i64 (by omega)) 0
  refine ⟨w1, e1, ⟨?_, fun y hy => ?_, fun y hy x hx => h.inj y (less_mem.1 hy).1 x (less_mem.1 hx).1, fun y hy => h.pos y (less_mem.1 hy).1⟩, h3⟩
  · have : (U.map (fun z => (z, blkV (f z)))).filter (fun p => !(p.1 == z)) = (less U z).map (fun z => (z, blkV (f z))) := by
      unfold less; rw [List.filter_map]; rfl
    rw [this] at h2
    exact h2
  · have := h.mems y (less_mem.1 hy).1
    exact ⟨h3.heap this.1 (by simpa using this.2.2), this.2⟩
theorem Mm.put {w : World} {mB : Nat} {f : Int → Nat} {U : List Int} {mem : Nat → List UInt8} (h : Mm w mB f U mem) (n : Nat) (wn : (n : Int) < 9223372036854775808) (hn : (n : Int) ∉ U) {zs : List UInt8} (hzs : zs.length = 64) :
    ∃ w', (Instr.mapUpdate 37 (.map (some mB)) (.int .i64 (n : Int)) (.slice (some ⟨w.heap.size, 0, none⟩) 64 64)).run Try.prog (w.alloc (.cells (bytesArr zs) 5)) = .ok () w' ∧
      Mm w' mB (fun z => if z = (n : Int) then w.heap.size else f z) (U ++ [(n : Int)]) (fun i => if i = n then zs else mem i) ∧ Fr [mB] (w.alloc (.cells (bytesArr zs) 5)) w' := by
  have hw := (Below.refl w.heap.size w).alloc (Nat.le_refl _) (.cells (bytesArr zs) 5)
  have h1 := h.keep hw
  obtain ⟨w1, e1, h2, h3⟩ := h1.map.add (P := Try.prog) Try.underlying37 Try.underlying3 (z := (n : Int)) (WalkArith.wf_i64 (by omega)) (fun p hp e => by obtain ⟨y, hy, rfl⟩ := List.mem_map.1 hp; exact hn (e ▸ hy)) (blkV w.heap.size)
  refine ⟨w1, e1, ⟨?_, fun y hy => ?_, fun y hy x hx he => ?_, fun y hy => ?_⟩, h3⟩
  · have : U.map (fun z => (z, blkV (f z))) ++ [((n : Int), blkV w.heap.size)] = (U ++ [(n : Int)]).map (fun z => (z, blkV (if z = (n : Int) then w.heap.size else f z))) := by
      rw [List.map_append]
      congr 1
      · apply List.map_congr_left; intro y hy; have hne : y ≠ (n : Int) := (fun e => hn (e ▸ hy)); rw [if_neg hne]
      · simp
    rw [this] at h2
    exact h2
  · by_cases hyn : y = (n : Int)
    · subst hyn
      simp only [if_true, Int.toNat_natCast]
      exact ⟨h3.heap (heap_new _ _) (by have := h.lt.1; simp; omega), hzs, by have := h.lt.1; omega⟩
    · have hyU : y ∈ U := by rcases List.mem_append.1 hy with h | h; exact h; simp at h; exact absurd h hyn
      have hm := h1.mems y hyU
      have hp := h.pos y hyU
      have hy0 : y.toNat ≠ n := by omega
      simp only [if_neg hyn, if_neg hy0]
      exact ⟨h3.heap hm.1 (by simpa using hm.2.2), hm.2⟩
  · have hlt : ∀ z ∈ U, f z < w.heap.size := h.lt.2
    have mem : ∀ z, z ∈ U ++ [(n : Int)] → z ≠ (n : Int) → z ∈ U := by
      intro z hz hne
      rcases List.mem_append.1 hz with h | h
      · exact h
      · simp at h; exact absurd h hne
    by_cases hyn : y = (n : Int) <;> by_cases hxn : x = (n : Int)
    · rw [hyn, hxn]
    · simp only [if_pos hyn, if_neg hxn] at he
      have := hlt x (mem x hx hxn); omega
    · simp only [if_neg hyn, if_pos hxn] at he
      have := hlt y (mem y hy hyn); omega
    · simp only [if_neg hyn, if_neg hxn] at he
      exact h.inj y (mem y hy hyn) x (mem x hx hxn) he
  · rcases List.mem_append.1 hy with h' | h'
    · exact h.pos y h'
    · simp at h'; omega
/-- Bytes written into one of the blocks. -/
theorem Mm.write {w w' : World} {mB : Nat} {f : Int → Nat} {U : List Int} {mem : Nat → List UInt8} (h : Mm w mB f U mem) {n : Nat} (hn : (n : Int) ∈ U) {L : List UInt8} (hL : L.length = 64) (hf : Fr [f n] w w') (hh : w'.heap[f n]? = some (.cells (bytesArr L) 5 (0, 0))) :
    Mm w' mB f U (fun i => if i = n then L else mem i) := by
  refine ⟨h.map.fr hf (by have := (h.mems _ hn).2.2; simpa using this.symm), fun y hy => ?_, h.inj, h.pos⟩
  by_cases hyn : y = (n : Int)
  · subst hyn
    simp only [Int.toNat_natCast, if_true]
    exact ⟨hh, hL, (h.mems _ hn).2.2⟩
  · have hp := h.pos y hy
    have hy0 : y.toNat ≠ n := by omega
    simp only [if_neg hy0]
    exact ⟨hf.heap (h.mems y hy).1 (by simp; exact fun e => hyn (h.inj y hy _ hn e)), (h.mems y hy).2⟩
theorem Mm.bytes {w : World} {mB : Nat} {f : Int → Nat} {U : List Int} {mem : Nat → List UInt8} (h : Mm w mB f U mem) {n : Nat} (hn : (n : Int) ∈ U) : Bytes w (some ⟨f n, 0, none⟩) 64 64 (mem n) := by
  obtain ⟨h1, h2, _⟩ := h.mems _ hn
  rw [Int.toNat_natCast] at h1 h2
  exact Bytes.of_heap h1 h2.symm (by omega) (by decide)

set_option maxRecDepth 10000 in
theorem write_range {w : World} {g : Nat} {S : List Nat} {r : Nat} {free U : List Int} {most : Int} {mem : Nat → List UInt8} (h : Ar w g S r free U most mem) (n : Nat) (hn : (n : Int) ∈ U) (at_ : Int) (wat : -128 ≤ at_ ∧ at_ ≤ 127) {a : Option Addr} {l c : Nat} (hr : at_ < 0 ∨ 64 < at_ + l) :
    Calls Try.prog 10 #[.pointer (some ⟨g, 0, none⟩), .int .i64 n, .int .i64 at_, .slice a l c] w fun e w' => e = .returned (.int .i64 2) ∧ w' = w := by
  obtain ⟨gb, mb, fv, bl, h, rfl, rfl⟩ := h
  obtain ⟨b, hb, hl', h4, k0, hB, h64⟩ := h.block hn
  have c2 := cell_at h.top 2
  have hlk := h.look n (by omega) (u := true) (by simp [hn])
  obtain ⟨b1, b2, b3, e1, e2, e3, hor⟩ : ∃ b1 b2 b3, decide (at_ < 0) = b1 ∧ decide (at_ > 64) = b2 ∧ decide ((l : Int) > 64 - at_) = b3 ∧ (b1 = true ∨ b1 = false ∧ b2 = true ∨ b1 = false ∧ b2 = false ∧ b3 = true) := ⟨_, _, _, rfl, rfl, rfl, by simp; omega⟩
  clear hr k0 hB hb
  go_enter Try.func10, Try.ntmps10
  rcases hor with rfl | ⟨rfl, rfl⟩ | ⟨rfl, rfl, rfl⟩
  all_goals
    go_wp2
    go_ret
    exact ⟨rfl, rfl⟩
end Go.Proofs.Ytinikogpeccogaa
