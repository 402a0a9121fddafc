/-
  The walk of 'CrcMixes'.
-/
import Derived.Test.YteoaeifcneiinaaCrcWalk
import Derived.Deep.QuietTactic
import Derived.BigQuiet
import Derived.BigRegion
import Derived.Deep.DeepCutAuto
namespace Go.Proofs.Yteoaeifcneiinaa
open Go.RowKit

theorem Try.infoU8 : (Try.prog.info? 5).map (fun i => (i.zero, i.size, i.bytes)) = some (some (.int .u8 0), 1, 1) := by kernel_rfl

set_option maxRecDepth 10000 in
set_option maxHeartbeats 1000000 in
theorem mixes_walk {a0 a1 a2 : Option Addr} {l0 c0 l1 c1 l2 c2 : Nat} {x0 x1 x2 : List UInt8} {w : World} (H0 : Bytes w a0 l0 c0 x0) (H1 : Bytes w a1 l1 c1 x1) (H2 : Bytes w a2 l2 c2 x2) :
    Calls Try.prog 3 #[.slice a0 l0 c0, .slice a1 l1 c1, .slice a2 l2 c2] w
      fun e w' => e = .returned (.bool true) ∧ Below w.heap.size w w' := by
  have k0 := H0.big
  have k1 := H1.big
  have k2 := H2.big
  have m0 := Sl.le H0
  have m1 := Sl.le H1
  have m2 := Sl.le H2
  have hlen := H0.len
  subst hlen
  have hlen := H1.len
  subst hlen
  have hlen := H2.len
  subst hlen
  obtain ⟨n, hn, n0, n1, n2, n3⟩ : ∃ n : Nat, (n : Int) = min (min (min (x0.length : Int) x1.length) x2.length) 200 ∧ n ≤ x0.length ∧ n ≤ x1.length ∧ n ≤ x2.length ∧ n ≤ 200 :=
    ⟨min (min (min x0.length x1.length) x2.length) 200, by omega, by omega, by omega, by omega, by omega⟩
  have hmin := fun (w : World) (ts : Array TypeId) (t : TypeId) => run_min4 (P := Try.prog) w ts t .i64 x0.length x1.length x2.length 200 n hn
  clear hn
  go_enter Try.func3, Try.ntmps3
  go_wp2_with (go_at_call 7; refine (awake_calls _).mono ?_; rintro e w1 ⟨rfl, hb1⟩)
  obtain ⟨i0, hi, hz0, hz1, hz2⟩ := info_parts Try.infoU8
  have hmk := fun (w : World) => run_make_bytes w 22 5 i0 Try.underlying22 hi hz0 hz1 hz2 n (by omega)
  go_cut [8, 9] (fun s8 s9 wc => ∃ g h : Nat, s8 = .slice (some ⟨g, 0, none⟩) n n ∧ s9 = .slice (some ⟨h, 0, none⟩) n n ∧ g ≠ h ∧ w.heap.size ≤ g ∧ w.heap.size ≤ h ∧ wc.heap[g]? = some (.cells (bytesArr (List.replicate n 0)) 5 (0, 0)) ∧ wc.heap[h]? = some (.cells (bytesArr (List.replicate n 0)) 5 (0, 0)) ∧ Below w.heap.size w wc)
  case first =>
    have z := hb1.size
    have hb2 := ((hb1.alloc z (.cells (bytesArr (List.replicate n 0)) 5)).alloc (by simp; omega) (.cells (bytesArr (List.replicate n 0)) 5)).drew
    have f1 : ((w1.alloc (.cells (bytesArr (List.replicate n 0)) 5)).alloc (.cells (bytesArr (List.replicate n 0)) 5)).drew.heap[w1.heap.size]? = some (.cells (bytesArr (List.replicate n 0)) 5 (0, 0)) := heap_keep (heap_new _ _) _
    have f2 : ((w1.alloc (.cells (bytesArr (List.replicate n 0)) 5)).alloc (.cells (bytesArr (List.replicate n 0)) 5)).drew.heap[w1.heap.size + 1]? = some (.cells (bytesArr (List.replicate n 0)) 5 (0, 0)) := by
      have := heap_new (w1.alloc (.cells (bytesArr (List.replicate n 0)) 5)) (.cells (bytesArr (List.replicate n 0)) 5)
      have hs : ∀ (w : World) (o : Obj), (w.alloc o).heap.size = w.heap.size + 1 := fun w o => by simp
      rw [hs] at this
      exact this
    have HF : Hid _ := And.intro f1 (And.intro f2 hb2)
    clear f1 f2 hb2
    go_region
    all_goals
      go_wp2_with fail
      go_meet
    · exact ⟨_, _, rfl, rfl, by omega, by omega, by omega, HF.out.1, HF.out.2.1, HF.out.2.2⟩
    · exact ⟨_, _, rfl, rfl, by omega, by omega, by omega, HF.out.2.1, HF.out.1, HF.out.2.2⟩
  case rest =>
    clear hb1 hmk
    obtain ⟨g, h, rfl, rfl, hgh, hg0, hh0, hg, hh, hbc⟩ := hcut
    have HG : Hid _ := hg
    have HH : Hid _ := hh
    clear hg hh
    go_wp2
    go_loopw [10, 25] (fun _ i wr => ∃ k : Nat, ∃ lx ly : List UInt8, k ≤ n ∧ i = .int .i64 k ∧ Hid (lx.length = n) ∧ Hid (ly.length = n) ∧
        Hid (∀ j, j < k → lx.getD j 0 = x0.getD j 0 ^^^ x2.getD j 0 ∧ ly.getD j 0 = x1.getD j 0 ^^^ x2.getD j 0) ∧
        Hid (wr.heap[g]? = some (.cells (bytesArr lx) 5 (0, 0))) ∧ Hid (wr.heap[h]? = some (.cells (bytesArr ly) 5 (0, 0))) ∧ Below w.heap.size w wr) (fun _ i _ => n - (intOf i).toNat)
    case atStart => exact ⟨0, _, _, by omega, rfl, List.length_replicate, List.length_replicate, fun j hj => by omega, HG, HH, hbc⟩
    case round =>
      clear HG HH hbc
      obtain ⟨k, lx, ly, hk, rfl, hlx, hly, HX, hg, hh, hbc⟩ := hrel
      by_cases hlt : k < n
      · obtain ⟨b0, o0, rfl, g0⟩ := (H0.keep hbc).at k (by omega)
        obtain ⟨b1, o1, rfl, g1⟩ := (H1.keep hbc).at k (by omega)
        obtain ⟨b2, o2, rfl, g2⟩ := (H2.keep hbc).at k (by omega)
        have g3 := bytes_cell hg.out k (by rw [hlx.out]; omega)
        have g4 := bytes_cell hh.out k (by rw [hly.out]; omega)
        have g5 := free_at hg.out k
        have g6 := free_at hh.out k
        have e1 : bits .xor .u8 (x0[k].toNat : Int) (x2[k].toNat : Int) = (((x0[k] ^^^ x2[k]).toNat : Nat) : Int) := xor_u8 x0[k].toBitVec x2[k].toBitVec
        have e2 : bits .xor .u8 (x1[k].toNat : Int) (x2[k].toNat : Int) = (((x1[k] ^^^ x2[k]).toNat : Nat) : Int) := xor_u8 x1[k].toBitVec x2[k].toBitVec
        go_wp2
        go_region
        go_wp2
        go_roundw
        case rel =>
          refine ⟨k + 1, lx.set k (x0[k] ^^^ x2[k]), ly.set k (x1[k] ^^^ x2[k]), by omega, by go_num, ?_, ?_, ?_, ?_, ?_, ?_⟩
          · exact (List.length_set ..).trans hlx.out
          · exact (List.length_set ..).trans hly.out
          · intro j hj
            have l1 := hlx.out
            have l2 := hly.out
            by_cases hjk : j = k
            · subst hjk
              simp [List.getD, show j < lx.length by omega, show j < ly.length by omega, show j < x0.length by omega, show j < x1.length by omega, show j < x2.length by omega]
            · have := HX.out j (by omega)
              simpa [List.getD, List.getElem?_set, Ne.symm hjk] using this
          · show (((wr.setCell _ _).setCell _ _).heap[g]?) = _
            rw [heap_set_ne _ (by exact hgh), heap_set (a := ⟨g, k, none⟩) hg.out rfl, ← UInt8.toNat_xor]; exact congrArg (fun c => some (Obj.cells c _ _)) (bytesArr_set _ _ _)
          · show (((wr.setCell _ _).setCell _ _).heap[h]?) = _
            rw [heap_set (a := ⟨h, k, none⟩) (by rw [heap_set_ne _ (by exact Ne.symm hgh)]; exact hh.out) rfl, ← UInt8.toNat_xor]; exact congrArg (fun c => some (Obj.cells c _ _)) (bytesArr_set _ _ _)
          · exact ((hbc.setCell (by exact hg0) _).setCell (by exact hh0) _).drew
        case measure => simp [intOf]; omega
      · have B1 : Bytes wr (some ⟨g, 0, none⟩) n n lx := Bytes.of_heap hg.out hlx.out.symm (by rw [hlx.out]; omega) (by unfold maxLen; omega)
        have B2 : Bytes wr (some ⟨h, 0, none⟩) n n ly := Bytes.of_heap hh.out hly.out.symm (by rw [hly.out]; omega) (by unfold maxLen; omega)
        go_wp2
        have B3 := (H0.keep hbc).front n n0
        have B4 := (H1.keep hbc).front n n1
        go_quiet ((go_at_call 8; first | exact Calls.quiet_of_same (sum_calls (B1.drewN _)) | exact Calls.quiet_of_same (sum_calls (B2.drewN _)) | exact Calls.quiet_of_same (sum_calls (B3.drewN _)) | exact Calls.quiet_of_same (sum_calls (B4.drewN _))))
        go_wp2
        go_ret
        refine ⟨?_, hbc.trans (below_draws _ _ _)⟩
        have s1 := Crc.mixes n lx x0 x2 hlx.out n0 n2 (fun j hj => (HX.out j (by omega)).1)
        have s2 := Crc.mixes n ly x1 x2 hly.out n1 n2 (fun j hj => (HX.out j (by omega)).2)
        show Ending.returned (.bool (_ == _)) = _
        rw [xor_u32, xor_u32, s1, s2, beq_self_eq_true]
end Go.Proofs.Yteoaeifcneiinaa
