/-
  The walk of 'CrcSums'.
-/
import Derived.Test.YteoaeifcneiinaaRefSumW
import Derived.Test.YteoaeifcneiinaaStr
import Derived.Test.YteoaeifcneiinaaCrcLaw
import Derived.OpenShut
namespace Go.Proofs.Yteoaeifcneiinaa
open Go.RowKit

/-- Behind 'y := append([]byte{}, x...)', 'y[p] ^= c'. -/
theorem sums_mid {w3 w4 : World} {v4 : Value} {a av : Option Addr} {n cap cv p : Nat} {X bs : List UInt8} {Y : Obj} (BX : Bytes w3 av X.length cv X) (B3 : Bytes w3 a n cap bs) (ho4 : OwnB w4 w3.heap.size v4 ([] ++ X))
    {row : Option Nat} (hrow : ∀ k, row = some k → w3.heap.size ≤ k) (hg4 : ((w3.alloc Y).alloc (.cells #[] 5)).grownBy w4 row) (hp : p < X.length) (d : UInt8) :
    ∃ g4 c4, v4 = .slice (some ⟨g4, 0, none⟩) X.length c4 ∧ w4.cell? ⟨g4, p, none⟩ = some (.int .u8 (X[p].toNat : Int)) ∧ w4.frozen? ⟨g4, p, none⟩ = false ∧
      Below w3.heap.size w3 (w4.setCell ⟨g4, p, none⟩ (.int .u8 (d.toNat : Int))) ∧ Bytes (w4.setCell ⟨g4, p, none⟩ (.int .u8 (d.toNat : Int))) av X.length cv X ∧
      Bytes (w4.setCell ⟨g4, p, none⟩ (.int .u8 (d.toNat : Int))) a n cap bs ∧ Bytes (w4.setCell ⟨g4, p, none⟩ (.int .u8 (d.toNat : Int))) (some ⟨g4, 0, none⟩) X.length c4 (X.set p d) := by
  rw [List.nil_append] at ho4
  have hb34 : Below w3.heap.size w3 w4 := (((Below.refl w3.heap.size w3).alloc (Nat.le_refl _) Y).alloc (by simp) (.cells #[] 5)).grown hg4 (by simp; omega) hrow
  obtain ⟨g4, c4, rfl, hg41, hg42⟩ := ho4.some (by intro e; rw [e] at hp; simp at hp)
  have hb35 := hb34.setCell (p := ⟨g4, p, none⟩) hg41 (.int .u8 (d.toNat : Int))
  obtain ⟨a5, c5, hc5, BY⟩ := (ho4.store p d).bytes
  rw [List.length_set] at BY hc5
  simp only [Value.slice.injEq] at hc5
  obtain ⟨rfl, _, rfl⟩ := hc5
  exact ⟨g4, c4, rfl, ho4.at p hp, ho4.free p, hb35, BX.keep hb35, B3.keep hb35, BY⟩

set_option maxRecDepth 10000 in
set_option maxHeartbeats 1000000 in
theorem sums_walk {a : Option Addr} {n cap : Nat} {bs : List UInt8} {w : World} (HB : Bytes w a n cap bs) (at_ : Int) (wat : (Lit.int .u16 at_).wf = true) (by_ : Int) (wby : (Lit.int .u8 by_).wf = true) :
    Calls Try.prog 5 #[.slice a n cap, .int .u16 at_, .int .u8 by_] w fun e w' => e = .returned (.bool true) ∧ Below w.heap.size w w' := by
  have hbig := HB.big
  have hle := Sl.le HB
  have hlen := HB.len
  subst hlen
  by_cases h200 : bs.length > 200
  · have hd : decide ((bs.length : Int) > 200) = true := by simp; omega
    go_enter Try.func5, Try.ntmps5
    go_wp2_with (go_at_call 7; refine (awake_calls _).mono ?_; rintro e w1 ⟨rfl, hb1⟩)
    go_ret
    exact ⟨rfl, hb1⟩
  have hd : decide ((bs.length : Int) > 200) = false := by simp; omega
  have ha := bounds_u16 wat
  have hy := bounds_u8 wby
  obtain ⟨s, hs⟩ : ∃ s, s = Crc.sum bs := ⟨_, rfl⟩
  obtain ⟨X, hX⟩ : ∃ X, X = bs ++ Crc.be s := ⟨_, rfl⟩
  have hXl : X.length = bs.length + 4 := by rw [hX, List.length_append, be_length]
  obtain ⟨c, hc⟩ : ∃ c : UInt8, by_ = (c.toNat : Int) := ⟨UInt8.ofNat by_.toNat, by rw [UInt8.toNat_ofNat']; omega⟩
  subst hc
  obtain ⟨p, hp, hpX⟩ : ∃ p : Nat, at_ % (X.length : Int) = p ∧ p < X.length := ⟨(at_ % (X.length : Int)).toNat, by have := Int.emod_nonneg at_ (show (X.length : Int) ≠ 0 by omega); omega, by have := Int.emod_lt_of_pos at_ (show 0 < (X.length : Int) by omega); omega⟩
  have hX1 : bs.length + 4 ≤ X.length := by omega
  have hX2 : X.length ≤ bs.length + 4 := by omega
  have HR1 : Hid (rightB X = true) := by show _ = _; rw [hX, hs]; exact right_put bs
  obtain ⟨d, hd⟩ : ∃ d, d = X[p] ^^^ c := ⟨_, rfl⟩
  have f3 : bits .xor .u8 (X[p].toNat : Int) (c.toNat : Int) = (d.toNat : Int) := by rw [hd]; exact xor_u8 X[p].toBitVec c.toBitVec
  have HR2 : Hid (rightB (X.set p d) = (c == 0)) := by show _ = _; rw [hd]; exact right_one X HR1 (by omega) p hpX c
  clear hd
  have hcz : ((c.toNat : Int) == 0) = (c == 0) := by
    rw [Bool.eq_iff_iff, beq_iff_eq, beq_iff_eq]
    exact ⟨fun h => UInt8.toNat_inj.1 (by simpa using h), fun h => by rw [h]; rfl⟩
  have hm3 : (3 : Int) < (X.length : Int) := by omega
  have HR3 : Hid (rightB (X.take 3) = false) := right_short _ (by simp; omega)
  have HS : Hid _ := hs
  have HX : Hid _ := hX
  clear hs hX hXl
  obtain ⟨q0, q1, q2, q3, hbe, e0, e1, e2, e3⟩ := be_nums s
  have HBE : Hid _ := hbe
  clear hbe
  have z1 := str_size bs
  have z2 : (str [q0, q1, q2, q3]).size = 4 := rfl
  have z3 : str bs ++ str [q0, q1, q2, q3] = str X := by rw [str_append, HX.out, HBE.out]
  have HXX : Hid (bs ++ [q0, q1, q2, q3] = X) := by show _ = _; rw [← HBE.out, ← HX.out]
  go_enter Try.func5, Try.ntmps5
  go_wp2_with (first
      | (go_at_call 7; refine (awake_calls _).mono ?_; rintro e w1 ⟨rfl, hb1⟩)
      | (go_at_call 9; refine (ref_sum_calls (HB.keep hb1) (by omega)).mono ?_; rintro e w2 ⟨rfl, hb2⟩; rw [← HS.out])
      | (go_at_call 11; refine (put_calls ((HB.keep hb1).keep hb2) (by omega)).mono ?_; rintro e w3 ⟨v, rfl, ho3, hb3⟩; rw [← HS.out, ← HX.out] at ho3; obtain ⟨av, cv, rfl, BX⟩ := ho3.bytes; have hcv := Sl.le BX; have hcvb := BX.big; have B3 := ((HB.keep hb1).keep hb2).keep hb3; have hX : Hid (Bytes (w3.alloc (.cells #[.int .u8 (q0.toNat : Int), .int .u8 (q1.toNat : Int), .int .u8 (q2.toNat : Int), .int .u8 (q3.toNat : Int)] 5)) (some ⟨w3.heap.size, 0, none⟩) 4 4 [q0, q1, q2, q3]) := Bytes.new _ _ _ _ [q0, q1, q2, q3] rfl (of_decide_eq_true rfl); have c1 := run_str (P := Try.prog) B3 22 9 5 Try.underlying22 Try.underlying5 Try.underlying9; have c2 := run_str (P := Try.prog) hX.out 22 9 5 Try.underlying22 Try.underlying5 Try.underlying9)
      | (at_builtin; refine app_bytes rfl _ _ rfl rfl (OwnB.emptyAt _ w3.heap.size _ (by simp) (by simp)) rfl ((BX.keep ((Below.refl _ _).alloc (Nat.le_refl _) _)).keep ((Below.refl _ _).alloc (Nat.le_refl _) _)) ?c1 ?c2 ?_; rotate_left 2; intro v4 w4 ho4 hg4; obtain ⟨g4, c4, rfl, f1, f2, hb35, BX5, B5, BY⟩ := sums_mid BX B3 ho4 (by intro k hk; have hk2 : some (w3.heap.size + 1) = some k := hk; cases hk2; omega) hg4 hpX d; have c6 := run_str (P := Try.prog) BX5 22 9 5 Try.underlying22 Try.underlying5 Try.underlying9; have BF := BX5.front 3 (by omega); clear c1 c2)
      | (go_at_call 8; refine (sum_calls B5).mono ?_; rintro e w6 ⟨rfl, rfl⟩; rw [← HS.out])
      | (go_at_call 10; with_reducible refine (right_calls BX5).mono ?_; rintro e w6 ⟨rfl, rfl⟩; rw [HR1.out])
      | (go_at_call 10; with_reducible refine (right_calls BY).mono ?_; rintro e w6 ⟨rfl, rfl⟩; rw [HR2.out])
      | (go_at_call 10; with_reducible refine (right_calls BF).mono ?_; rintro e w6 ⟨rfl, rfl⟩; rw [HR3.out]))
  case c1 => simp; omega
  case c2 => simp; omega
  all_goals
    have hbb := (((hb1.trans (hb2.mono hb1.size)).trans (hb3.mono (Nat.le_trans hb1.size hb2.size))).trans (hb35.mono (Nat.le_trans (Nat.le_trans hb1.size hb2.size) hb3.size)))
    go_ret
    refine ⟨?_, hbb⟩
    rfl
end Go.Proofs.Yteoaeifcneiinaa
