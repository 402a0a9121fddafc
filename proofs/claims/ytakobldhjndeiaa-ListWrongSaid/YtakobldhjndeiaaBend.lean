/-
  The walk of Bend's bend.
-/
import Derived.Test.YtakobldhjndeiaaBits
import Derived.Test.YtakobldhjndeiaaDevPut
import Derived.OpenShut
import Derived.BigRegion
namespace Go.Proofs.Ytakobldhjndeiaa
open Go.RowKit

set_option maxRecDepth 10000 in
set_option maxHeartbeats 1000000 in
theorem bend_calls {a : Option Addr} {n c : Nat} {X : List UInt8} {w : World} (HB : Bytes w a n c X) (hn : n ≤ 1000) (h0 : 0 < n) (f : Int) (wf : -9223372036854775808 ≤ f ∧ f < 9223372036854775808) (m : Crc.B32) :
    Calls Try.prog 34 #[.agg #[.int .i64 f, .int .u32 (m.toNat : Int)], .slice a n c] w fun e w' => ∃ v Y, e = .returned v ∧ OwnB w' w.heap.size v Y ∧ BentI X Y f m 32 ∧ Below w.heap.size w w' := by
  have hlen := HB.len
  subst hlen
  have HB' := hid HB
  clear HB
  go_enter Try.func34, Try.ntmps34
  go_wp2_with (at_builtin; refine app_bytes (xs := []) rfl _ _ rfl rfl (OwnB.emptyAt _ (w.heap.size + 1) _ (by simp) (by simp)) rfl (HB'.out.keep (((Below.refl _ _).alloc (Nat.le_refl _) _).alloc (by simp) _)) (by simp; omega) (by simp) ?_; intro v1 w1 ho1 hg1)
  rw [List.nil_append] at ho1
  have hbA : Below w.heap.size w ((w.alloc (.cells #[.int .i64 f, .int .u32 (m.toNat : Int)] 49)).alloc (.cells #[] 5)) := ((Below.refl _ _).alloc (Nat.le_refl _) _).alloc (by simp) _
  have hb1 := below_app hbA (OwnB.emptyAt (w.alloc (.cells #[.int .i64 f, .int .u32 (m.toNat : Int)] 49)) (w.heap.size + 1) (w.heap.size + 1) (by simp) (by simp)) hg1 (by omega) hbA.size
  have hbox : w1.heap[w.heap.size]? = some (.cells #[.int .i64 f, .int .u32 (m.toNat : Int)] 49 (0, 0)) := by
    rw [hg1.block w.heap.size (by simp; omega) (by show some w.heap.size ≠ some (w.heap.size + 1); simp)]
    exact heap_keep (heap_new w _) _
  obtain ⟨g4, c4, rfl, hg41, hg42⟩ := ho1.some (by intro e; rw [e] at h0; simp at h0)
  have hg4 : w.heap.size < g4 := by omega
  have hcap : X.length ≤ c4 ∧ c4 ≤ 9223372036854775807 := by
    obtain ⟨a5, c5, hc5, BY⟩ := ho1.bytes
    simp only [Value.slice.injEq] at hc5
    obtain ⟨_, _, rfl⟩ := hc5
    exact ⟨Sl.le BY, BY.big⟩
  obtain ⟨hc41, hc42⟩ := hcap
  obtain ⟨xb, hxb⟩ : ∃ xb, w.heap.size = xb := ⟨_, rfl⟩
  have ho2 := own_base ho1 (show xb ≤ w.heap.size + 1 by omega)
  rw [hxb] at hbox hb1 hg4 ⊢
  have HXB := hid hxb
  clear hbA ho1 hg1 hg41 hg42 hxb
  go_loopw [6, 7, 11] (fun _ _ i wr => ∃ k : Nat, ∃ Y : List UInt8, k ≤ 32 ∧ i = .int .i64 k ∧ Hid (OwnB wr xb (.slice (some ⟨g4, 0, none⟩) X.length c4) Y) ∧ Hid (BentI X Y f m k) ∧ wr.heap[xb]? = some (.cells #[.int .i64 f, .int .u32 (m.toNat : Int)] 49 (0, 0)) ∧ Below xb w wr) (fun _ _ i _ => 32 - (intOf i).toNat)
  case atStart => exact ⟨0, X, by omega, rfl, ho2, benti_zero X f m, hbox, hb1⟩
  case round =>
    clear ho2 hbox hb1
    obtain ⟨k, Y, hk, rfl, ho, hbe, hbox, hb⟩ := hrel
    have x0 := cell_at hbox 0
    have x1 := cell_at hbox 1
    by_cases hk32 : k < 32
    · have e1 := maskBit_num m k hk32
      have HBX := hid hbox
      clear hbox
      obtain ⟨I, hI, hIb⟩ : ∃ I : Int, IntKind.i64.wrap (f + (k : Int)) = I ∧ (0 ≤ f + k ∧ f + k < 9223372036854775808 → I = f + k) := ⟨_, rfl, fun h => IntWalk.i64_in _ (by omega)⟩
      have q8 : IntKind.i64.wrap (8 * (X.length : Int)) = 8 * (X.length : Int) := IntWalk.i64_in _ (by omega)
      have hIw : -9223372036854775808 ≤ I ∧ I < 9223372036854775808 := by have := wf_wrap .i64 (f + (k : Int)); rw [hI] at this; have := bounds_i64 this; omega
      have hYl : Y.length = X.length := hbe.out.1
      have HYL := hid hYl
      have HIB := hid hIb
      have HI0 := hid hI
      by_cases hbit : maskBit m k = true
      · rw [hbit] at e1
        have HBIT := hid hbit
        clear hbit
        by_cases hin : 0 ≤ I ∧ I < 8 * (X.length : Int)
        · obtain ⟨p, rfl⟩ : ∃ p : Nat, I = (p : Int) := ⟨I.toNat, by omega⟩
          have hp8 : p < 8 * X.length := by omega
          have hpe : f + (k : Int) = (p : Int) := by have h := hI; rw [IntKind.wrap_i64] at h; omega
          have HPE := hid hpe
          have n1 : (p : Int) < 8 * (X.length : Int) := hin.2
          have hq : p / 8 < Y.length := by omega
          obtain ⟨x, hx⟩ : ∃ x, x = Y.getD (p / 8) 0 := ⟨_, rfl⟩
          have g1 := ho.out.at (p / 8) hq
          rw [show Y[p / 8] = x by rw [hx]; simp [List.getD, hq]] at g1
          have g2 := ho.out.free (p / 8)
          obtain ⟨d, hd2⟩ : ∃ d, d = x ^^^ maskByte (p % 8) := ⟨_, rfl⟩
          have e3 : ((128 : Int) / 2 ^ (p % 8)) = ((maskByte (p % 8)).toNat : Int) := maskByte_num ⟨p % 8, Nat.mod_lt _ (by decide)⟩
          have e4 : bits .xor .u8 (x.toNat : Int) ((maskByte (p % 8)).toNat : Int) = (d.toNat : Int) := by rw [hd2]; exact xor_u8 x.toBitVec (maskByte (p % 8)).toBitVec
          have HXX := hid hx
          have HD := hid hd2
          have HP8 := hid hp8
          clear hx hd2 hYl hq hpe hIb hin
          go_wp2
          go_region
          all_goals
            go_wp2
            go_roundw
            case rel =>
              refine ⟨k + 1, Y.set (p / 8) d, by omega, by go_num, ho.out.store _ d, ?_, heap_set_ne _ (by simp; omega) _ |>.trans HBX.out, (hb.setCell (by show xb ≤ g4; omega) _).drew⟩
              show BentI _ _ _ _ _
              rw [HD.out, HXX.out]
              exact benti_on hbe.out HPE.out HP8.out HBIT.out
            case measure => simp [intOf]; omega
        · obtain ⟨b1, b2, t1, t2, hor⟩ : ∃ b1 b2, decide (I ≥ 0) = b1 ∧ decide (I < 8 * (X.length : Int)) = b2 ∧ (b1 = false ∨ b1 = true ∧ b2 = false) := ⟨_, _, rfl, rfl, by simp; omega⟩
          have hout : ¬ (0 ≤ f + (k : Int) ∧ f + (k : Int) < 8 * (X.length : Int)) := fun h => by have := HIB.out (by omega); omega
          have HOUT := hid hout
          clear hin hout hIb hYl hIw
          rcases hor with rfl | ⟨rfl, rfl⟩
          all_goals
            go_wp2
            go_roundw
            case rel => exact ⟨k + 1, Y, by omega, by go_num, ho, benti_off hbe.out (.inr HOUT.out), HBX.out, hb⟩
            case measure => simp [intOf]; omega
      · rw [show maskBit m k = false by simpa using hbit] at e1
        have HBIT : Hid (maskBit m k = false) := by show _ = _; simpa using hbit
        clear hbit hIb hYl hIw
        go_wp2
        go_roundw
        case rel => exact ⟨k + 1, Y, by omega, by go_num, ho, benti_off hbe.out (.inl HBIT.out), HBX.out, hb⟩
        case measure => simp [intOf]; omega
    · obtain rfl : k = 32 := by omega
      go_wp2
      go_ret
      exact ⟨_, Y, rfl, by rw [HXB.out]; exact ho.out, hbe.out, by rw [HXB.out]; exact hb⟩
end Go.Proofs.Ytakobldhjndeiaa
