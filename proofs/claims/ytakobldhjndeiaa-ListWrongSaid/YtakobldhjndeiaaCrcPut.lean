/-
  The walks of Put and Right.
-/
import Derived.Test.YtakobldhjndeiaaSumW
import Derived.Test.YtakobldhjndeiaaAppB
import Derived.Deep.DeepMust
namespace Go.Proofs.Ytakobldhjndeiaa
open Go.RowKit

set_option maxRecDepth 10000 in
set_option maxHeartbeats 1000000 in
/-- Bytes with their sum behind. -/
theorem put_calls {a : Option Addr} {n cap : Nat} {bs : List UInt8} {w : World} (HB : Bytes w a n cap bs) (hb : n ≤ 1099511627776) :
    Calls Try.prog 18 #[.slice a n cap] w fun e w' => ∃ v, e = .returned v ∧ OwnB w' w.heap.size v (bs ++ Crc.be (Crc.sum bs)) ∧ Below w.heap.size w w' := by
  go_enter Try.func18, Try.ntmps18
  go_wp2_with (first
    | (go_at_call 32; refine (sum_calls HB).mono ?_; rintro e w' ⟨rfl, rfl⟩)
    | (at_builtin; refine app_bytes rfl _ _ rfl rfl (OwnB.empty _ _ (Nat.le_refl _)) rfl (HB.keep ((Below.refl _ _).alloc (Nat.le_refl _) _)) ?c1 ?c2 ?_; rotate_left 2; intro v1 w1 ho1 hg1)
    | (at_builtin; refine app_bytes rfl _ _ rfl rfl (own_keep ho1 ((Below.refl _ _).alloc (Nat.le_refl _) _)) rfl (Bytes.new _ _ _ _ (Crc.be (Crc.sum bs)) ?e1 ?e2) ?c3 ?c4 ?_; rotate_left 4; intro v2 w2 ho2 hg2))
  · have hb0 : Below w'.heap.size w' (w'.alloc (.cells #[] 5)) := (Below.refl _ _).alloc (Nat.le_refl _) _
    have hb1 := below_app hb0 (OwnB.empty w' _ (Nat.le_refl _)) hg1 (Nat.le_refl _) hb0.size
    have hb2 := hb1.alloc hb1.size (.cells #[.int .u8 ((Crc.sum bs).toNat / 16777216 : Int), .int .u8 ((Crc.sum bs).toNat / 65536 % 256 : Int), .int .u8 ((Crc.sum bs).toNat / 256 % 256 : Int), .int .u8 ((Crc.sum bs).toNat % 256 : Int)] 5)
    go_ret
    exact ⟨v2, rfl, ho2, below_app hb2 (own_keep ho1 ((Below.refl _ _).alloc (Nat.le_refl _) _)) hg2 (Nat.le_refl _) hb2.size⟩
  · have h := (Crc.sum bs).isLt
    simp only [Crc.be, List.map_cons, List.map_nil, List.cons.injEq, Value.int.injEq, true_and, and_true]
    refine ⟨?_, ?_, ?_, ?_⟩
    · show _ = (((Crc.sum bs >>> 24).setWidth 8).toNat : Int)
      rw [BitVec.toNat_setWidth, BitVec.toNat_ushiftRight, Nat.shiftRight_eq_div_pow]; omega
    · show _ = (((Crc.sum bs >>> 16).setWidth 8).toNat : Int)
      rw [BitVec.toNat_setWidth, BitVec.toNat_ushiftRight, Nat.shiftRight_eq_div_pow]; omega
    · show _ = (((Crc.sum bs >>> 8).setWidth 8).toNat : Int)
      rw [BitVec.toNat_setWidth, BitVec.toNat_ushiftRight, Nat.shiftRight_eq_div_pow]; omega
    · show _ = (((Crc.sum bs).setWidth 8).toNat : Int)
      rw [BitVec.toNat_setWidth]; omega
  · exact of_decide_eq_true rfl
  · have := HB.len; simp; omega
  · have := hg1.size; simp at this ⊢; omega
  · simp; omega
  · simp

/-- Do bytes end with their sum? -/
def rightB (bs : List UInt8) : Bool := decide (4 ≤ bs.length) && (bs.drop (bs.length - 4) == Crc.be (Crc.sum (bs.take (bs.length - 4))))

/-- The four bytes of a number, as the walk tells them. -/
theorem be_nums (s : Crc.B32) : ∃ q0 q1 q2 q3 : UInt8, Crc.be s = [q0, q1, q2, q3] ∧ ((s.toNat : Int) / 16777216 = (q0.toNat : Int)) ∧ ((s.toNat : Int) / 65536 % 256 = (q1.toNat : Int)) ∧ ((s.toNat : Int) / 256 % 256 = (q2.toNat : Int)) ∧ ((s.toNat : Int) % 256 = (q3.toNat : Int)) := by
  have h := s.isLt
  refine ⟨_, _, _, _, rfl, ?_, ?_, ?_, ?_⟩
  · show _ = (((s >>> 24).setWidth 8).toNat : Int)
    rw [BitVec.toNat_setWidth, BitVec.toNat_ushiftRight, Nat.shiftRight_eq_div_pow]; omega
  · show _ = (((s >>> 16).setWidth 8).toNat : Int)
    rw [BitVec.toNat_setWidth, BitVec.toNat_ushiftRight, Nat.shiftRight_eq_div_pow]; omega
  · show _ = (((s >>> 8).setWidth 8).toNat : Int)
    rw [BitVec.toNat_setWidth, BitVec.toNat_ushiftRight, Nat.shiftRight_eq_div_pow]; omega
  · show _ = ((s.setWidth 8).toNat : Int)
    rw [BitVec.toNat_setWidth]; omega

theorem be_length (s : Crc.B32) : (Crc.be s).length = 4 := rfl

theorem right_yes (bs : List UInt8) (s : Crc.B32) (h4 : 4 ≤ bs.length) (hs : s = Crc.sum (bs.take (bs.length - 4))) (h : ∀ j, (h : j < 4) → bs[bs.length - 4 + j]'(by omega) = (Crc.be s)[j]'(by simp [be_length]; omega)) : rightB bs = true := by
  unfold rightB
  rw [← hs]
  simp only [h4, decide_true, Bool.true_and, beq_iff_eq]
  apply List.ext_getElem
  · simp [be_length]; omega
  · intro i h1 h2
    rw [List.getElem_drop]
    exact h i (by simpa [be_length] using h2)

theorem right_no (bs : List UInt8) (s : Crc.B32) (j : Nat) (h4 : 4 ≤ bs.length) (hj : j < 4) (hs : s = Crc.sum (bs.take (bs.length - 4))) (h : bs[bs.length - 4 + j]'(by omega) ≠ (Crc.be s)[j]'(by simp [be_length]; omega)) : rightB bs = false := by
  unfold rightB
  rw [← hs]
  simp only [h4, decide_true, Bool.true_and, beq_eq_false_iff_ne]
  intro e
  apply h
  have := List.getElem_drop (xs := bs) (i := bs.length - 4) (j := j) (h := by simp; omega)
  rw [← this]
  simp only [e]

set_option maxRecDepth 10000 in
set_option maxHeartbeats 1000000 in
theorem right_calls {a : Option Addr} {n cap : Nat} {bs : List UInt8} {w : World} (HB : Bytes w a n cap bs) :
    Calls Try.prog 35 #[.slice a n cap] w fun e w' => e = .returned (.bool (rightB bs)) ∧ w' = w := by
  have hbig := HB.big
  have hle := Sl.le HB
  have hlen := HB.len
  subst hlen
  by_cases h4 : 4 ≤ bs.length
  · have HF := HB.front (bs.length - 4) (by omega)
    obtain ⟨s, hs⟩ : ∃ s, s = Crc.sum (bs.take (bs.length - 4)) := ⟨_, rfl⟩
    have HS : Hid _ := hs
    clear hs
    have HC : ∀ k, (h : k < 4) → ∃ b off, a = some ⟨b, off, none⟩ ∧ w.cell? ⟨b, off + (bs.length - 4 + k), none⟩ = some (.int .u8 ((bs[bs.length - 4 + k]'(by omega)).toNat : Int)) := fun k h => HB.at _ (by omega)
    obtain ⟨b, off, rfl, _⟩ := HC 0 (by omega)
    have hcs : ((bs.length : Int) - 4) = ((bs.length - 4 : Nat) : Int) := by omega
    have HK : Hid _ := HC
    clear HC
    have hd : decide ((bs.length : Int) < 4) = false := by simp; omega
    have hw4 : bs.length - (bs.length - 4) = 4 := by omega
    go_enter Try.func35, Try.ntmps35
    go_wp2_with (go_at_call 32; refine (sum_calls HF).mono ?_; rintro e w' ⟨rfl, rfl⟩; rw [← HS.out])
    go_loopw [4, 5, 21] (fun _ _ i wr => wr = w' ∧ ∃ k : Nat, ∃ z : Int, Hid (z = k) ∧ k ≤ 4 ∧ i = .int .i64 z ∧ Hid (∀ j, (h : j < k) → (hk : j < 4) → bs[bs.length - 4 + j]'(by omega) = (Crc.be s)[j]'(by simp [be_length]; omega))) (fun _ _ i _ => 4 - (intOf i).toNat)
    case atStart => exact ⟨rfl, 0, 0, rfl, by omega, rfl, fun j h => by omega⟩
    case round =>
      obtain ⟨rfl, k, z, hz, hk, rfl, hrel⟩ := hrel
      rcases (show k = 0 ∨ k = 1 ∨ k = 2 ∨ k = 3 ∨ k = 4 by omega) with rfl | rfl | rfl | rfl | rfl
      · obtain rfl : z = 0 := hz.out
        obtain ⟨q, hq0⟩ : ∃ q, q = (Crc.be s)[0]'(by simp [be_length]) := ⟨_, rfl⟩
        have hq : ((s.toNat : Int) / 16777216 : Int) = q.toNat := by
          have h := s.isLt
          rw [hq0]
          show _ = (((s >>> 24).setWidth 8).toNat : Int)
          rw [BitVec.toNat_setWidth, BitVec.toNat_ushiftRight, Nat.shiftRight_eq_div_pow]; omega
        obtain ⟨b', off', hb', g0⟩ := HK.out 0 (by omega)
        simp only [Option.some.injEq, Addr.mk.injEq] at hb'
        obtain ⟨rfl, rfl, _⟩ := hb'
        obtain ⟨c, hc0⟩ : ∃ c, c = bs[bs.length - 4 + 0]'(by omega) := ⟨_, rfl⟩
        rw [← hc0] at g0
        have g : wr.cell? ⟨b, off + (bs.length - 4), none⟩ = some (.int .u8 (c.toNat : Int)) := by exact g0
        clear g0
        have HQ : Hid _ := hq0
        have HC : Hid _ := hc0
        clear hq0 hc0
        by_cases he : q = c
        · have ht : ((q.toNat : Int) != (c.toNat : Int)) = false := by rw [he]; simp
          have HE : Hid _ := he
          clear he
          go_wp2
          go_roundw
          case rel => exact ⟨trivial, 1, 1, rfl, by omega, rfl, fun j hj => by
            by_cases e : j = 0
            · subst e; intro _; exact HC.out.symm.trans (HE.out.symm.trans HQ.out)
            · exact hrel.out j (by omega)⟩
          case measure => simp [intOf]
        · have ht : ((q.toNat : Int) != (c.toNat : Int)) = true := by
            rw [bne_iff_ne]; intro e; exact he (UInt8.toNat_inj.1 (by omega))
          have HE : Hid _ := he
          clear he
          go_wp2
          go_ret
          exact ⟨congrArg (fun x => Ending.returned (.bool x)) (right_no bs s 0 h4 (by omega) HS.out (fun e => HE.out (HQ.out.trans (e.symm.trans HC.out.symm)))).symm, rfl⟩
      · obtain rfl : z = 1 := hz.out
        obtain ⟨q, hq0⟩ : ∃ q, q = (Crc.be s)[1]'(by simp [be_length]) := ⟨_, rfl⟩
        have hq : ((s.toNat : Int) / 65536 % 256 : Int) = q.toNat := by
          have h := s.isLt
          rw [hq0]
          show _ = (((s >>> 16).setWidth 8).toNat : Int)
          rw [BitVec.toNat_setWidth, BitVec.toNat_ushiftRight, Nat.shiftRight_eq_div_pow]; omega
        obtain ⟨b', off', hb', g0⟩ := HK.out 1 (by omega)
        simp only [Option.some.injEq, Addr.mk.injEq] at hb'
        obtain ⟨rfl, rfl, _⟩ := hb'
        obtain ⟨c, hc0⟩ : ∃ c, c = bs[bs.length - 4 + 1]'(by omega) := ⟨_, rfl⟩
        rw [← hc0] at g0
        have g : wr.cell? ⟨b, off + (bs.length - 4) + 1, none⟩ = some (.int .u8 (c.toNat : Int)) := by rw [Nat.add_assoc]; exact g0
        clear g0
        have HQ : Hid _ := hq0
        have HC : Hid _ := hc0
        clear hq0 hc0
        by_cases he : q = c
        · have ht : ((q.toNat : Int) != (c.toNat : Int)) = false := by rw [he]; simp
          have HE : Hid _ := he
          clear he
          go_wp2
          go_roundw
          case rel => exact ⟨trivial, 2, 2, rfl, by omega, rfl, fun j hj => by
            by_cases e : j = 1
            · subst e; intro _; exact HC.out.symm.trans (HE.out.symm.trans HQ.out)
            · exact hrel.out j (by omega)⟩
          case measure => simp [intOf]
        · have ht : ((q.toNat : Int) != (c.toNat : Int)) = true := by
            rw [bne_iff_ne]; intro e; exact he (UInt8.toNat_inj.1 (by omega))
          have HE : Hid _ := he
          clear he
          go_wp2
          go_ret
          exact ⟨congrArg (fun x => Ending.returned (.bool x)) (right_no bs s 1 h4 (by omega) HS.out (fun e => HE.out (HQ.out.trans (e.symm.trans HC.out.symm)))).symm, rfl⟩
      · obtain rfl : z = 2 := hz.out
        obtain ⟨q, hq0⟩ : ∃ q, q = (Crc.be s)[2]'(by simp [be_length]) := ⟨_, rfl⟩
        have hq : ((s.toNat : Int) / 256 % 256 : Int) = q.toNat := by
          have h := s.isLt
          rw [hq0]
          show _ = (((s >>> 8).setWidth 8).toNat : Int)
          rw [BitVec.toNat_setWidth, BitVec.toNat_ushiftRight, Nat.shiftRight_eq_div_pow]; omega
        obtain ⟨b', off', hb', g0⟩ := HK.out 2 (by omega)
        simp only [Option.some.injEq, Addr.mk.injEq] at hb'
        obtain ⟨rfl, rfl, _⟩ := hb'
        obtain ⟨c, hc0⟩ : ∃ c, c = bs[bs.length - 4 + 2]'(by omega) := ⟨_, rfl⟩
        rw [← hc0] at g0
        have g : wr.cell? ⟨b, off + (bs.length - 4) + 2, none⟩ = some (.int .u8 (c.toNat : Int)) := by rw [Nat.add_assoc]; exact g0
        clear g0
        have HQ : Hid _ := hq0
        have HC : Hid _ := hc0
        clear hq0 hc0
        by_cases he : q = c
        · have ht : ((q.toNat : Int) != (c.toNat : Int)) = false := by rw [he]; simp
          have HE : Hid _ := he
          clear he
          go_wp2
          go_roundw
          case rel => exact ⟨trivial, 3, 3, rfl, by omega, rfl, fun j hj => by
            by_cases e : j = 2
            · subst e; intro _; exact HC.out.symm.trans (HE.out.symm.trans HQ.out)
            · exact hrel.out j (by omega)⟩
          case measure => simp [intOf]
        · have ht : ((q.toNat : Int) != (c.toNat : Int)) = true := by
            rw [bne_iff_ne]; intro e; exact he (UInt8.toNat_inj.1 (by omega))
          have HE : Hid _ := he
          clear he
          go_wp2
          go_ret
          exact ⟨congrArg (fun x => Ending.returned (.bool x)) (right_no bs s 2 h4 (by omega) HS.out (fun e => HE.out (HQ.out.trans (e.symm.trans HC.out.symm)))).symm, rfl⟩
      · obtain rfl : z = 3 := hz.out
        obtain ⟨q, hq0⟩ : ∃ q, q = (Crc.be s)[3]'(by simp [be_length]) := ⟨_, rfl⟩
        have hq : ((s.toNat : Int) % 256 : Int) = q.toNat := by
          have h := s.isLt
          rw [hq0]
          show _ = (((s).setWidth 8).toNat : Int)
          rw [BitVec.toNat_setWidth]; omega
        obtain ⟨b', off', hb', g0⟩ := HK.out 3 (by omega)
        simp only [Option.some.injEq, Addr.mk.injEq] at hb'
        obtain ⟨rfl, rfl, _⟩ := hb'
        obtain ⟨c, hc0⟩ : ∃ c, c = bs[bs.length - 4 + 3]'(by omega) := ⟨_, rfl⟩
        rw [← hc0] at g0
        have g : wr.cell? ⟨b, off + (bs.length - 4) + 3, none⟩ = some (.int .u8 (c.toNat : Int)) := by rw [Nat.add_assoc]; exact g0
        clear g0
        have HQ : Hid _ := hq0
        have HC : Hid _ := hc0
        clear hq0 hc0
        by_cases he : q = c
        · have ht : ((q.toNat : Int) != (c.toNat : Int)) = false := by rw [he]; simp
          have HE : Hid _ := he
          clear he
          go_wp2
          go_roundw
          case rel => exact ⟨trivial, 4, 4, rfl, by omega, rfl, fun j hj => by
            by_cases e : j = 3
            · subst e; intro _; exact HC.out.symm.trans (HE.out.symm.trans HQ.out)
            · exact hrel.out j (by omega)⟩
          case measure => simp [intOf]
        · have ht : ((q.toNat : Int) != (c.toNat : Int)) = true := by
            rw [bne_iff_ne]; intro e; exact he (UInt8.toNat_inj.1 (by omega))
          have HE : Hid _ := he
          clear he
          go_wp2
          go_ret
          exact ⟨congrArg (fun x => Ending.returned (.bool x)) (right_no bs s 3 h4 (by omega) HS.out (fun e => HE.out (HQ.out.trans (e.symm.trans HC.out.symm)))).symm, rfl⟩
      · obtain rfl : z = 4 := hz.out
        go_wp2
        go_ret
        exact ⟨congrArg (fun x => Ending.returned (.bool x)) (right_yes bs s h4 HS.out (fun j h => hrel.out j h h)).symm, rfl⟩
  · have hr : rightB bs = false := by simp [rightB, h4]
    rw [hr]
    go_enter Try.func35, Try.ntmps35
    go_wp2
    go_ret
    exact ⟨rfl, rfl⟩
end Go.Proofs.Ytakobldhjndeiaa
