/-
  The law's block, of whatever length.
-/
import Derived.Test.YtbandclbnlbkjaaBlock
namespace Go.Proofs.Ytbandclbnlbkjaa
open Go.RowKit

set_option maxRecDepth 10000 in
set_option maxHeartbeats 1000000 in
theorem block_long (n : Nat) (hn : n ≤ 255) (w : World) :
    Calls Try.prog 12 #[.int .u8 (n : Int), .bool true] w fun e w' => e = .returned (.slice (some ⟨w.heap.size, 0, none⟩) n n) ∧ Bytes w' (some ⟨w.heap.size, 0, none⟩) n n (blk (n : Int) n) ∧ Below w.heap.size w w' := by
  have hmk := fun w => make_bytes n (by omega) w
  obtain ⟨zs, hzs⟩ : ∃ zs, List.replicate n (0 : UInt8) = zs := ⟨_, rfl⟩
  rw [hzs] at hmk
  have hzl : zs.length = n := by rw [← hzs]; simp
  have HZL := hid hzl
  clear hzs hzl
  go_enter Try.func12, Try.ntmps12
  go_wp2
  go_loopw [7, 15] (fun _ i wr => ∃ (k : Nat) (l : List UInt8), k ≤ n ∧ i = .int .i64 k ∧ Hid (l.length = n) ∧ Hid (∀ j, j < k → l.getD j 0 = (blk (n : Int) n).getD j 0) ∧ Hid (wr.heap[w.heap.size]? = some (.cells (bytesArr l) 5 (0, 0))) ∧ Below w.heap.size w wr) (fun _ i _ => n - (intOf i).toNat)
  case atStart => exact ⟨0, zs, by omega, rfl, HZL, fun j hj => by omega, heap_new _ _, (Below.refl _ _).alloc (Nat.le_refl _) _⟩
  case round =>
    clear hmk HZL
    obtain ⟨k, l, hk, rfl, HL, HE, HH, hb⟩ := hrel
    by_cases hlt : k < n
    · have g3 := bytes_cell HH.out k (by rw [HL.out]; omega)
      have f3 := free_at HH.out k
      go_wp2
      go_roundw
      case rel =>
        refine ⟨k + 1, l.set k (UInt8.ofNat (((n : Int) + (k : Int) * 7) % 256).toNat), by omega, by go_num, by show _ = _; rw [List.length_set, HL.out], fun j hj => ?_, ?_, hb.setCell (Nat.le_refl _) _⟩
        · rw [List.getD_eq_getElem?_getD, List.getElem?_set]
          by_cases hjk : k = j
          · subst hjk
            have := blk_at (n : Int) n k hlt
            rw [List.getD_eq_getElem?_getD]
            simp [HL.out, hlt, blk_len, this]
          · rw [if_neg hjk, ← List.getD_eq_getElem?_getD]; exact HE.out j (by omega)
        · have h1 := heap_set (a := ⟨w.heap.size, k, none⟩) HH.out rfl (.int .u8 ((UInt8.ofNat (((n : Int) + (k : Int) * 7) % 256).toNat).toNat : Int))
          rw [bytesArr_set, byte_of _ (by omega)] at h1
          exact h1
      case measure => simp [intOf]; omega
    · obtain rfl : k = n := by omega
      have hl : l = blk (k : Int) k := by
        apply List.ext_getElem (by rw [HL.out, blk_len])
        intro j h1 h2
        have := HE.out j (by rw [HL.out] at h1; exact h1)
        simpa [List.getD, h1, h2] using this
      subst hl
      go_wp2
      go_ret
      exact ⟨rfl, Bytes.of_heap HH.out (by rw [blk_len]) (by rw [blk_len]; omega) (by unfold maxLen; omega), hb⟩
theorem block_any (a : Int) (ha : 0 ≤ a ∧ a ≤ 255) (long : Bool) (w : World) :
    Calls Try.prog 12 #[.int .u8 a, .bool long] w fun e w' => e = .returned (.slice (some ⟨w.heap.size, 0, none⟩) (if long then a.toNat else 64) (if long then a.toNat else 64)) ∧ Bytes w' (some ⟨w.heap.size, 0, none⟩) (if long then a.toNat else 64) (if long then a.toNat else 64) (blk a (if long then a.toNat else 64)) ∧ Below w.heap.size w w' := by
  cases long with
  | false => exact block_calls a w
  | true =>
    obtain ⟨n, rfl⟩ : ∃ n : Nat, a = (n : Int) := ⟨a.toNat, by omega⟩
    exact block_long n (by omega) w
end Go.Proofs.Ytbandclbnlbkjaa
