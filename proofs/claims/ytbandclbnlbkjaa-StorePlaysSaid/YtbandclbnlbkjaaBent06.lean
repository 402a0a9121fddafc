/-
  The walk of the law's own bent.
-/
import Derived.Test.YtbandclbnlbkjaaBits
import Derived.Test.YtbandclbnlbkjaaCrcPut
import Derived.Outline
import Derived.Test.YtbandclbnlbkjaaDevPut
import Derived.OpenShut
import Derived.BigRegion
namespace Go.Proofs.Ytbandclbnlbkjaa
open Go.RowKit

theorem and_u32 (a b : BitVec 32) : bits .and .u32 (a.toNat : Int) (b.toNat : Int) = ((a &&& b).toNat : Int) := by
  have h : ∀ x : BitVec 32, IntKind.u32.wrap (x.toNat : Int) = x.toNat := fun x => by rw [IntKind.wrap_u32]; have := x.isLt; omega
  unfold bits
  simp only [BitVec.ofInt_natCast]
  show IntKind.u32.wrap (((BitVec.ofNat 32 a.toNat &&& BitVec.ofNat 32 b.toNat).toNat : Nat) : Int) = _
  rw [BitVec.ofNat_toNat, BitVec.ofNat_toNat, BitVec.setWidth_eq, BitVec.setWidth_eq, h]
theorem mask_and (m : Crc.B32) (k : Nat) : (bits .and .u32 ((m.toNat : Int) / 2 ^ (31 - k)) 1 == 1) = maskBit m k := by
  have h1 : (m.toNat : Int) / 2 ^ (31 - k) = ((m >>> (31 - k)).toNat : Int) := by
    rw [BitVec.toNat_ushiftRight, Nat.shiftRight_eq_div_pow, Int.natCast_ediv, Int.natCast_pow]; rfl
  have h2 : (1 : Int) = ((1#32).toNat : Int) := rfl
  rw [h1]
  conv => lhs; arg 1; rw [h2]
  rw [and_u32, BitVec.toNat_and, show (1#32).toNat = 1 from rfl, Nat.and_one_is_mod, BitVec.toNat_ushiftRight, Nat.shiftRight_eq_div_pow]
  unfold maskBit
  show _ = m.toNat.testBit (31 - k)
  rw [Nat.testBit_eq_decide_div_mod_eq, Bool.eq_iff_iff, beq_iff_eq, decide_eq_true_eq]
  generalize m.toNat / 2 ^ (31 - k) % 2 = q
  show (q : Int) = 1 ↔ q = 1
  omega
set_option maxRecDepth 10000 in
set_option maxHeartbeats 1000000 in
theorem bent_calls {a : Option Addr} {n c : Nat} {bs : List UInt8} {w : World} (HB : Bytes w a n c bs) (hn : n ≤ 1000) (f : Int) (wf : -9223372036854775808 ≤ f ∧ f < 9223372036854775808) (m : Crc.B32) :
    Calls Try.prog 16 #[.slice a n c, .agg #[.int .i64 f, .int .u32 (m.toNat : Int)]] w fun e w' => ∃ v Y, e = .returned v ∧ OwnB w' w.heap.size v Y ∧ BentI (bs ++ Crc.be (Crc.sum bs)) Y f m 32 ∧ Below w.heap.size w w' := by
  have hlen := HB.len
  subst hlen
  have HB' := hid HB
  clear HB
  go_enter Try.func16, Try.ntmps16
  go_wp2_with (go_at_call 20; refine (put_calls (HB'.out.keep ((Below.refl _ _).alloc (Nat.le_refl _) (.cells #[.int .i64 f, .int .u32 (m.toNat : Int)] 25))) (by omega)).mono ?_; rintro e w1 ⟨v1, rfl, ho1, hb1'⟩)
  have hb1 : Below w.heap.size w w1 := ((Below.refl w.heap.size w).alloc (Nat.le_refl _) (.cells #[.int .i64 f, .int .u32 (m.toNat : Int)] 25)).trans (hb1'.mono (by simp))
  have hbox : w1.heap[w.heap.size]? = some (.cells #[.int .i64 f, .int .u32 (m.toNat : Int)] 25 (0, 0)) := (Fr.ofBelow hb1').heap (heap_new w _) (by simp)
  obtain ⟨X, hX⟩ : ∃ X, bs ++ Crc.be (Crc.sum bs) = X := ⟨_, rfl⟩
  have hXl : X.length = bs.length + 4 := by rw [← hX, List.length_append, be_length]
  rw [hX] at ho1
  have h0 : 0 < X.length := by omega
  have hn' : X.length ≤ 2000 := by omega
  have HXE := hid hX
  have ho1 : OwnB w1 (w.heap.size + 1) v1 X := own_base ho1 (by simp)
  clear hX hXl hb1'
  obtain ⟨g4, c4, rfl, hg41, hg42⟩ := ho1.some (by intro e; rw [e] at h0; simp at h0)
  have hg4 : w.heap.size < g4 := by omega
  have hcap : X.length ≤ c4 ∧ c4 ≤ 9223372036854775807 := by
    obtain ⟨a5, c5, hc5, BY⟩ := ho1.bytes
    simp only [Value.slice.injEq] at hc5
    obtain ⟨_, _, rfl⟩ := hc5
    exact ⟨Sl.le BY, BY.big⟩
  obtain ⟨hc41, hc42⟩ := hcap
  obtain ⟨xb, hxb⟩ : ∃ xb, w.heap.size = xb := ⟨_, rfl⟩
  have ho2 := own_base ho1 (show xb ≤ w.heap.size + 1 by omega)
  rw [hxb] at hbox hb1 hg4 ⊢
  have HXB := hid hxb
  clear ho1 hg41 hg42 hxb
  go_loopw [6, 7, 10] (fun _ _ i wr => ∃ k : Nat, ∃ Y : List UInt8, k ≤ 32 ∧ i = .int .i64 k ∧ Hid (OwnB wr xb (.slice (some ⟨g4, 0, none⟩) X.length c4) Y) ∧ Hid (BentI X Y f m k) ∧ wr.heap[xb]? = some (.cells #[.int .i64 f, .int .u32 (m.toNat : Int)] 25 (0, 0)) ∧ Below xb w wr) (fun _ _ i _ => 32 - (intOf i).toNat)
  case atStart => exact ⟨0, X, by omega, rfl, ho2, benti_zero X f m, hbox, hb1⟩
  case round =>
    clear ho2 hbox hb1
    obtain ⟨k, Y, hk, rfl, ho, hbe, hbox, hb⟩ := hrel
    have x0 := cell_at hbox 0
    have x1 := cell_at hbox 1
    by_cases hk32 : k < 32
    · have e1 := mask_and m k
      have HBX := hid hbox
      clear hbox
      obtain ⟨I, hI, hIb⟩ : ∃ I : Int, IntKind.i64.wrap (f + (k : Int)) = I ∧ (0 ≤ f + k ∧ f + k < 9223372036854775808 → I = f + k) := ⟨_, rfl, fun h => IntWalk.i64_in _ (by omega)⟩
      have q8 : IntKind.i64.wrap (8 * (X.length : Int)) = 8 * (X.length : Int) := IntWalk.i64_in _ (by omega)
      have hIw : -9223372036854775808 ≤ I ∧ I < 9223372036854775808 := by have := wf_wrap .i64 (f + (k : Int)); rw [hI] at this; have := bounds_i64 this; omega
      have hYl : Y.length = X.length := hbe.out.1
      have HYL := hid hYl
      have HIB := hid hIb
      have HI0 := hid hI
      by_cases hbit : maskBit m k = true
      · rw [hbit] at e1
        have HBIT := hid hbit
        clear hbit
        by_cases hin : 0 ≤ I ∧ I < 8 * (X.length : Int)
        · obtain ⟨p, rfl⟩ : ∃ p : Nat, I = (p : Int) := ⟨I.toNat, by omega⟩
          have hp8 : p < 8 * X.length := by omega
          have hpe : f + (k : Int) = (p : Int) := by have h := hI; rw [IntKind.wrap_i64] at h; omega
          have HPE := hid hpe
          have n1 : (p : Int) < 8 * (X.length : Int) := hin.2
          have hq : p / 8 < Y.length := by omega
          obtain ⟨x, hx⟩ : ∃ x, x = Y.getD (p / 8) 0 := ⟨_, rfl⟩
          have g1 := ho.out.at (p / 8) hq
          rw [show Y[p / 8] = x by rw [hx]; simp [List.getD, hq]] at g1
          have g2 := ho.out.free (p / 8)
          obtain ⟨d, hd2⟩ : ∃ d, d = x ^^^ maskByte (p % 8) := ⟨_, rfl⟩
          have e3 : ((128 : Int) / 2 ^ (p % 8)) = ((maskByte (p % 8)).toNat : Int) := maskByte_num ⟨p % 8, Nat.mod_lt _ (by decide)⟩
          have e4 : bits .xor .u8 (x.toNat : Int) ((maskByte (p % 8)).toNat : Int) = (d.toNat : Int) := by rw [hd2]; exact xor_u8 x.toBitVec (maskByte (p % 8)).toBitVec
          have HXX := hid hx
          have HD := hid hd2
          have HP8 := hid hp8
          clear hx hd2 hYl hq hpe hIb hin
          go_wp2
          go_region
          all_goals
            go_wp2
            go_roundw
            case rel =>
              refine ⟨k + 1, Y.set (p / 8) d, by omega, by go_num, ho.out.store _ d, ?_, heap_set_ne _ (by simp; omega) _ |>.trans HBX.out, (hb.setCell (by show xb ≤ g4; omega) _).drew⟩
              show BentI _ _ _ _ _
              rw [HD.out, HXX.out]
              exact benti_on hbe.out HPE.out HP8.out HBIT.out
            case measure => simp [intOf]; omega
        · obtain ⟨b1, b2, t1, t2, hor⟩ : ∃ b1 b2, decide (I ≥ 0) = b1 ∧ decide (I < 8 * (X.length : Int)) = b2 ∧ (b1 = false ∨ b1 = true ∧ b2 = false) := ⟨_, _, rfl, rfl, by simp; omega⟩
          have hout : ¬ (0 ≤ f + (k : Int) ∧ f + (k : Int) < 8 * (X.length : Int)) := fun h => by have := HIB.out (by omega); omega
          have HOUT := hid hout
          clear hin hout hIb hYl hIw
          rcases hor with rfl | ⟨rfl, rfl⟩
          all_goals
            go_wp2
            go_roundw
            case rel => exact ⟨k + 1, Y, by omega, by go_num, ho, benti_off hbe.out (.inr HOUT.out), HBX.out, hb⟩
            case measure => simp [intOf]; omega
      · rw [show maskBit m k = false by simpa using hbit] at e1
        have HBIT : Hid (maskBit m k = false) := by show _ = _; simpa using hbit
        clear hbit hIb hYl hIw
        go_wp2
        go_roundw
        case rel => exact ⟨k + 1, Y, by omega, by go_num, ho, benti_off hbe.out (.inl HBIT.out), HBX.out, hb⟩
        case measure => simp [intOf]; omega
    · obtain rfl : k = 32 := by omega
      go_wp2
      go_ret
      exact ⟨_, Y, rfl, by rw [HXB.out]; exact ho.out, by rw [HXE.out]; exact hbe.out, by rw [HXB.out]; exact hb⟩
end Go.Proofs.Ytbandclbnlbkjaa
