/-
  Chapter 6's blocks of bytes.
-/
import Derived.Test.YtbandclbnlbkjaaDevAwake
import Derived.Test.YtbandclbnlbkjaaSwaps
namespace Go.Proofs.Ytbandclbnlbkjaa
open Go.RowKit

/-- The bytes of a block. -/
def blk (a : Int) (n : Nat) : List UInt8 := (List.range n).map (fun j : Nat => UInt8.ofNat ((a + (j : Int) * 7) % 256).toNat)
theorem blk_len (a : Int) (n : Nat) : (blk a n).length = n := by simp [blk]
theorem blk_at (a : Int) (n : Nat) (j : Nat) (hj : j < n) : (blk a n)[j]'(by rw [blk_len]; exact hj) = UInt8.ofNat ((a + (j : Int) * 7) % 256).toNat := by simp [blk]
theorem byte_of (z : Int) (h : 0 ≤ z ∧ z < 256) : ((UInt8.ofNat z.toNat).toNat : Int) = z := by
  rw [UInt8.toNat_ofNat']
  omega
theorem make_bytes (n : Nat) (hn : n ≤ 4096) (w : World) : (Instr.makeSlice 22 (.int .i64 (n : Int)) (.int .i64 (n : Int))).run Try.prog w = .ok (.slice (some ⟨w.heap.size, 0, none⟩) n n) (w.alloc (.cells (bytesArr (List.replicate n 0)) 5)) := by
  obtain ⟨i, hi, hz0, hz1, hz2⟩ := info_parts Try.elU8.hi
  exact run_make_bytes w 22 5 i Try.elU8.ht hi hz0 hz1 hz2 n (by omega)

set_option maxRecDepth 10000 in
set_option maxHeartbeats 1000000 in
theorem block_calls (a : Int) (w : World) :
    Calls Try.prog 12 #[.int .u8 a, .bool false] w fun e w' => e = .returned (.slice (some ⟨w.heap.size, 0, none⟩) 64 64) ∧ Bytes w' (some ⟨w.heap.size, 0, none⟩) 64 64 (blk a 64) ∧ Below w.heap.size w w' := by
  have hmk := make_64
  obtain ⟨zs, hzs⟩ : ∃ zs, List.replicate 64 (0 : UInt8) = zs := ⟨_, rfl⟩
  rw [hzs] at hmk
  have hzl : zs.length = 64 := by rw [← hzs]; simp
  have HZL := hid hzl
  clear hzs hzl
  go_enter Try.func12, Try.ntmps12
  go_wp2
  go_loopw [7, 15] (fun _ i wr => ∃ (k : Nat) (l : List UInt8), k ≤ 64 ∧ i = .int .i64 k ∧ Hid (l.length = 64) ∧ Hid (∀ j, j < k → l.getD j 0 = (blk a 64).getD j 0) ∧ Hid (wr.heap[w.heap.size]? = some (.cells (bytesArr l) 5 (0, 0))) ∧ Below w.heap.size w wr) (fun _ i _ => 64 - (intOf i).toNat)
  case atStart => exact ⟨0, zs, by omega, rfl, HZL, fun j hj => by omega, heap_new _ _, (Below.refl _ _).alloc (Nat.le_refl _) _⟩
  case round =>
    clear hmk HZL
    obtain ⟨k, l, hk, rfl, HL, HE, HH, hb⟩ := hrel
    by_cases hlt : k < 64
    · have g3 := bytes_cell HH.out k (by rw [HL.out]; omega)
      have f3 := free_at HH.out k
      go_wp2
      go_roundw
      case rel =>
        refine ⟨k + 1, l.set k (UInt8.ofNat ((a + (k : Int) * 7) % 256).toNat), by omega, by go_num, by show _ = _; rw [List.length_set, HL.out], fun j hj => ?_, ?_, hb.setCell (Nat.le_refl _) _⟩
        · rw [List.getD_eq_getElem?_getD, List.getElem?_set]
          by_cases hjk : k = j
          · subst hjk
            have := blk_at a 64 k hlt
            rw [List.getD_eq_getElem?_getD]
            simp [HL.out, hlt, blk_len, this]
          · rw [if_neg hjk, ← List.getD_eq_getElem?_getD]; exact HE.out j (by omega)
        · have h1 := heap_set (a := ⟨w.heap.size, k, none⟩) HH.out rfl (.int .u8 ((UInt8.ofNat ((a + (k : Int) * 7) % 256).toNat).toNat : Int))
          rw [bytesArr_set, byte_of _ (by omega)] at h1
          exact h1
      case measure => simp [intOf]; omega
    · obtain rfl : k = 64 := by omega
      have hl : l = blk a 64 := by
        apply List.ext_getElem (by rw [HL.out, blk_len])
        intro j h1 h2
        have := HE.out j (by rw [HL.out] at h1; exact h1)
        simpa [List.getD, h1, h2] using this
      subst hl
      go_wp2
      go_ret
      exact ⟨rfl, Bytes.of_heap HH.out (by rw [blk_len]) (by rw [blk_len]; omega) (by decide), hb⟩
end Go.Proofs.Ytbandclbnlbkjaa
