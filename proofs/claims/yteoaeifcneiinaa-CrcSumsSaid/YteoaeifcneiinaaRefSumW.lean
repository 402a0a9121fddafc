/-
  The walk of the reference's sum.
-/
import Derived.Test.YteoaeifcneiinaaCrcPut
import Derived.Test.YteoaeifcneiinaaRefSum
import Derived.BigRegion
namespace Go.Proofs.Yteoaeifcneiinaa
open Go.RowKit

theorem shr_bit (c : UInt8) (j : Nat) : ((c.toNat : Int) / 2 ^ j % 2) = ((Crc.b2 (c.toBitVec.getLsbD j)).toNat : Int) := by
  have h : c.toBitVec.getLsbD j = c.toNat.testBit j := rfl
  rw [h, Nat.testBit_eq_decide_div_mod_eq]
  have h2 : ((c.toNat : Int) / 2 ^ j % 2) = ((c.toNat / 2 ^ j % 2 : Nat) : Int) := by norm_cast
  rw [h2]
  rcases Nat.mod_two_eq_zero_or_one (c.toNat / 2 ^ j) with e | e <;> simp [e, Crc.b2]

def termsArr : Array Value := #[.int .i64 0, .int .i64 6, .int .i64 9, .int .i64 10, .int .i64 16, .int .i64 20, .int .i64 21, .int .i64 22, .int .i64 24, .int .i64 25, .int .i64 27, .int .i64 28, .int .i64 30, .int .i64 31, .int .i64 32]
theorem terms_le : ∀ k, k < 15 → Crc.terms.getD k 0 ≤ 32 := by decide
theorem terms_cell {w : World} {b : Nat} {e : TypeId} {f : Nat × Nat} (h : w.heap[b]? = some (.cells termsArr e f)) (k : Nat) (hk : k < 15) : w.cell? ⟨b, k, none⟩ = some (.int .i64 ((Crc.terms.getD k 0 : Nat) : Int)) := by
  rw [cell_at h]
  rcases (show k = 0 ∨ k = 1 ∨ k = 2 ∨ k = 3 ∨ k = 4 ∨ k = 5 ∨ k = 6 ∨ k = 7 ∨ k = 8 ∨ k = 9 ∨ k = 10 ∨ k = 11 ∨ k = 12 ∨ k = 13 ∨ k = 14 by omega) with rfl | rfl | rfl | rfl | rfl | rfl | rfl | rfl | rfl | rfl | rfl | rfl | rfl | rfl | rfl <;> rfl
theorem terms_mem : ∀ u, u < 15 → Crc.terms.getD u 0 ∈ Crc.terms := by decide
theorem mem_terms : ∀ t ∈ Crc.terms, ∃ u, u < 15 ∧ Crc.terms.getD u 0 = t := by decide
theorem terms_apart : ∀ k, k < 15 → ∀ u, u < k → Crc.terms.getD u 0 ≠ Crc.terms.getD k 0 := by decide

/-- Bits that the call owns, a byte each. -/
def OwnBits (w : World) (B g N cap : Nat) (L : List Bool) : Prop := L.length = N ∧ w.ownsRow B 5 1 (.slice (some ⟨g, 0, none⟩) N cap) N ((L.map Crc.b2).map u8)
theorem OwnBits.cell {w : World} {B g N cap : Nat} {L : List Bool} (h : OwnBits w B g N cap L) (p : Nat) (hp : p < N) : w.cell? ⟨g, p, none⟩ = some (.int .u8 ((Crc.b2 (L.getD p false)).toNat : Int)) := by
  rw [h.2.cellAt p (by omega)]
  simp [List.getD, show p < L.length by have := h.1; omega]
theorem OwnBits.free {w : World} {B g N cap : Nat} {L : List Bool} (h : OwnBits w B g N cap L) (p : Nat) : w.frozen? ⟨g, p, none⟩ = false := h.2.frozenAt p
theorem b2_turn (b : Bool) : (1 - ((Crc.b2 b).toNat : Int)) = ((Crc.b2 (!b)).toNat : Int) := by cases b <;> rfl
theorem b2_le (b : Bool) : ((Crc.b2 b).toNat : Int) ≤ 1 := by cases b <;> decide
theorem OwnBits.store {w : World} {B g N cap : Nat} {L : List Bool} (h : OwnBits w B g N cap L) (p : Nat) (z : Int) (hz : z = ((Crc.b2 (L.getD p false)).toNat : Int)) :
    OwnBits (w.setCell ⟨g, p, none⟩ (.int .u8 (1 - z))) B g N cap (L.set p (!L.getD p false)) := by
  refine ⟨by simpa using h.1, ?_⟩
  have := (h.2.stored p (.int .u8 (1 - z))).1
  rw [hz, b2_turn] at this
  rw [hz, b2_turn, List.map_set, List.map_set]
  exact this
theorem OwnBits.lt {w : World} {B g N cap : Nat} {L : List Bool} (h : OwnBits w B g N cap L) : B ≤ g ∧ g < w.heap.size := h.2.lt g rfl
theorem OwnBits.keep {w w' : World} {B g N cap : Nat} {L : List Bool} (h : OwnBits w B g N cap L) (hb : Below w.heap.size w w') : OwnBits w' B g N cap L := ⟨h.1, own_keep h.2 hb⟩
theorem OwnBits.sl {w : World} {B g N cap : Nat} {L : List Bool} (h : OwnBits w B g N cap L) : N ≤ cap ∧ cap ≤ maxLen := by
  obtain ⟨a, c, h1, h2⟩ := Sl.of_own h.2
  simp only [Value.slice.injEq] at h1
  obtain ⟨_, _, rfl⟩ := h1
  exact ⟨h2.le, h2.max⟩

theorem zero_bits : (Builtin.zeroCells (Value.int .u8 0).cells 32).toList = ((List.replicate 32 false).map Crc.b2).map u8 := by
  show (madeCells #[Value.int .u8 0] (32 * 1)).toList = _
  rw [Nat.mul_one, toList_madeCells_one]
  simp [Crc.b2]

/-- Where which bit stands behind one turn more. -/
theorem turn_at (L : List Bool) (p j : Nat) (hp : p < L.length) : (L.set p (!L.getD p false)).getD j false = (L.getD j false ^^ decide (j = p)) := by
  by_cases e : j = p
  · subst e; simp [List.getD, hp]
  · simp [List.getD, e, Ne.symm e]

set_option maxRecDepth 10000 in
set_option maxHeartbeats 2000000 in
theorem ref_sum_calls {a : Option Addr} {n cap : Nat} {bs : List UInt8} {w : World} (HB : Bytes w a n cap bs) (hn : n ≤ 1000000) :
    Calls Try.prog 9 #[.slice a n cap] w fun e w' => e = .returned (.int .u32 ((Crc.sum bs).toNat : Int)) ∧ Below w.heap.size w w' := by
  have hbig := HB.big
  have hle := Sl.le HB
  have hlen := HB.len
  subst hlen
  go_enter Try.func9, Try.ntmps9
  go_wp2
  go_loopw [3, 4, 5] (fun v i _ wr => ∃ k : Nat, k ≤ bs.length ∧ i = .int .i64 k ∧ OwnB wr w.heap.size v ((Crc.bitsOf (bs.take k)).map Crc.b2) ∧ Below w.heap.size w wr) (fun _ i _ _ => bs.length - (intOf i).toNat)
  case atStart => exact ⟨0, by omega, rfl, OwnB.nil _ _, Below.refl _ _⟩
  case round =>
    obtain ⟨k, hk, rfl, ho, hb⟩ := hrel
    by_cases hlt : k < bs.length
    · obtain ⟨b, off, rfl, g0⟩ := HB.at k hlt
      obtain ⟨c, hc⟩ : ∃ c, c = bs[k] := ⟨_, rfl⟩
      rw [← hc] at g0
      have HC : Hid _ := hc
      clear hc
      go_wp2
      go_loopw [3, 5] (fun v i wr => ∃ j : Nat, ∃ z : Int, Hid (z = 7 - (j : Int)) ∧ j ≤ 8 ∧ i = .int .i64 z ∧ OwnB wr w.heap.size v ((Crc.bitsOf (bs.take k) ++ (Crc.byteBits c).take j).map Crc.b2) ∧ Below w.heap.size w wr) (fun _ i _ => (intOf i + 1).toNat)
      case atStart => exact ⟨0, 7, rfl, by omega, rfl, by simpa using ho, hb⟩
      case round =>
        clear ho hb
        obtain ⟨j, z, hz, hj, rfl, ho, hb⟩ := hrel
        by_cases hj8 : j < 8
        · have g : wr.cell? ⟨b, off + k, none⟩ = some (.int .u8 (c.toNat : Int)) := by
            have := (HB.keep hb).cell k hlt
            rw [← HC.out] at this
            exact this
          have hz0 : 0 ≤ z := by have := hz.out; omega
          have hz7 : z ≤ 7 := by have := hz.out; omega
          obtain ⟨y, hy⟩ : ∃ y : UInt8, y = Crc.b2 (c.toBitVec.getLsbD (7 - j)) := ⟨_, rfl⟩
          have e1 : ((c.toNat : Int) / 2 ^ z.toNat).tmod 2 = (y.toNat : Int) := by
            rw [hy, ← shr_bit, show z.toNat = 7 - j by have := hz.out; omega, Int.tmod_eq_emod_of_nonneg]
            exact Int.ediv_nonneg (by omega) (Int.le_of_lt (Int.pow_pos (by omega)))
          have HY : Hid _ := hy
          clear hy
          have hs : Hid (((Crc.bitsOf (bs.take k) ++ (Crc.byteBits c).take j).map Crc.b2).length + 1 ≤ 140737488355328) := by
            show _ ≤ _
            simp [Crc.bitsOf_length]; omega
          go_wp2_with (at_builtin; refine app_bytes rfl _ _ rfl rfl (own_keep ho ((Below.refl _ _).alloc (Nat.le_refl _) _)) rfl (Bytes.new _ _ _ _ [y] rfl (of_decide_eq_true rfl)) hs.out (Nat.le_trans hb.size (by simp)) ?_; intro v1 w1 ho1 hg1)
          go_roundw
          case rel =>
            refine ⟨j + 1, z - 1, by have := hz.out; show _ = _; omega, by omega, rfl, ?_, below_app (hb.alloc hb.size _) (own_keep ho ((Below.refl _ _).alloc (Nat.le_refl _) _)) hg1 (Nat.le_refl _) (by have := hb.size; simp; omega)⟩
            have hbit : (Crc.byteBits c).take (j + 1) = (Crc.byteBits c).take j ++ [c.toBitVec.getLsbD (7 - j)] := by
              rcases (show j = 0 ∨ j = 1 ∨ j = 2 ∨ j = 3 ∨ j = 4 ∨ j = 5 ∨ j = 6 ∨ j = 7 by omega) with rfl | rfl | rfl | rfl | rfl | rfl | rfl | rfl <;> rfl
            rw [hbit, ← List.append_assoc, List.map_append (l₂ := [_])]
            simp only [List.map_cons, List.map_nil]
            rw [← HY.out]
            exact ho1
          case measure => simp [intOf]; omega
        · have hz1 : z < 0 := by have := hz.out; omega
          go_wp2
          go_roundw
          case rel =>
            refine ⟨k + 1, by omega, by go_num, ?_, hb⟩
            rw [List.take_succ_eq_append_getElem hlt, ← HC.out, show Crc.bitsOf (bs.take k ++ [c]) = Crc.bitsOf (bs.take k) ++ Crc.byteBits c from by simp [Crc.bitsOf]]
            rw [List.take_of_length_le (l := Crc.byteBits c) (by show 8 ≤ j; omega)] at ho
            exact ho
          case measure => simp [intOf]; omega
    · obtain rfl : k = bs.length := by omega
      rw [List.take_length] at ho
      have hs : Hid (((Crc.bitsOf bs).map Crc.b2).length + 32 ≤ 140737488355328) := by
        show _ ≤ _
        simp [Crc.bitsOf_length]; omega
      go_wp2_with (at_builtin; refine app_zeros Try.elU8 Try.underlying3 rfl _ _ rfl rfl ho (m := 32) rfl rfl (by decide) (by decide) (by rw [Nat.mul_one]; exact hs.out) hs.out hb.size ?_; intro v1 w1 ho1 hg1)
      obtain ⟨g, cap1, hv, hbg, _⟩ := own_some ho1 (by rw [zero_bits]; simp)
      subst hv
      have hN : ((Crc.bitsOf bs).map Crc.b2).length + 32 = 8 * bs.length + 32 := by rw [List.length_map, Crc.bitsOf_length]
      have ob : OwnBits w1 w.heap.size g (8 * bs.length + 32) cap1 (Crc.msg bs) := by
        refine ⟨Crc.msg_length bs, ?_⟩
        rw [zero_bits, hN] at ho1
        rw [Crc.msg, List.map_append, List.map_append]
        exact ho1
      have hb1 := below_app hb ho hg1 (Nat.le_refl _) hb.size
      rw [hN]
      obtain ⟨N, hNN⟩ : ∃ N, N = 8 * bs.length + 32 := ⟨_, rfl⟩
      rw [← hNN] at ob
      rw [← hNN]
      obtain ⟨hs1, hs2⟩ := ob.sl
      have hN32 : 32 ≤ N := by omega
      have hNb : N ≤ 9000000 := by omega
      have HN : Hid _ := hNN
      have OB : Hid _ := ob
      have HG1 : Hid _ := hg1
      have HO : Hid _ := ho
      have HO1 : Hid _ := ho1
      clear hNN ob ho hg1 ho1 hN hs
      -- the first 32 bits turned
      go_loopw [6] (fun i wr => ∃ p : Nat, ∃ L : List Bool, p ≤ 32 ∧ i = .int .i64 p ∧ Hid (OwnBits wr w.heap.size g N cap1 L) ∧ Hid (∀ j, L.getD j false = ((Crc.msg bs).getD j false ^^ decide (j < p))) ∧ Below w.heap.size w wr) (fun i _ => 32 - (intOf i).toNat)
      case atStart => exact ⟨0, _, by omega, rfl, OB, fun j => by simp, hb1⟩
      case round =>
        clear hb1 OB HG1 HO HO1 hb
        obtain ⟨p, L, hp, rfl, ob, hL, hb1⟩ := hrel
        by_cases hp32 : p < 32
        · obtain ⟨z, hz⟩ : ∃ z : Int, z = ((Crc.b2 (L.getD p false)).toNat : Int) := ⟨_, rfl⟩
          have g1 := ob.out.cell p (by omega)
          rw [← hz] at g1
          have g2 := ob.out.free p
          have z0 : 0 ≤ z := by omega
          have z1 : z ≤ 1 := by rw [hz]; exact b2_le _
          have HZ : Hid _ := hz
          clear hz
          go_wp2
          go_roundw
          case rel =>
            refine ⟨p + 1, _, by omega, by go_num, ob.out.store p z HZ.out, fun j => ?_, hb1.setCell (by exact ob.out.lt.1) _⟩
            rw [turn_at L p j (by rw [ob.out.1]; omega), hL.out j, Bool.xor_assoc]
            congr 1
            by_cases e : j = p
            · subst e; simp
            · simp [e, show (j < p + 1) = (j < p) by simp; omega]
          case measure => simp [intOf]; omega
        · obtain rfl : p = 32 := by omega
          obtain ⟨wo, rfl⟩ : ∃ wo : World, wo = wr := ⟨_, rfl⟩
          have hinv : Hid (Crc.Inv (Crc.msg bs) L 0) := Crc.inv_start _ _ (by rw [ob.out.1, HN.out, Crc.msg_length]) (by rw [Crc.msg_length]; omega) (fun j _ => hL.out j)
          have obl := ob.out.lt
          have hgt : wo.heap.size ≠ g := by omega
          have OB2 : Hid (OwnBits (wo.alloc (.cells termsArr 3)) w.heap.size g N cap1 L) := ob.out.keep ((Below.refl _ _).alloc (Nat.le_refl _) _)
          have HT2 : Hid ((wo.alloc (.cells termsArr 3)).heap[wo.heap.size]? = some (.cells termsArr 3 (0, 0))) := heap_new _ _
          have hb2 := hb1.alloc hb1.size (.cells termsArr 3)
          have HB2 : Hid _ := hb2
          have hwo := hb1.size
          clear hb2 ob hL hb1
          go_wp2
          go_loopw [8, 9] (fun i _ wr => ∃ p : Nat, ∃ L : List Bool, p + 32 ≤ N ∧ i = .int .i64 p ∧ Hid (OwnBits wr w.heap.size g N cap1 L) ∧ Hid (Crc.Inv (Crc.msg bs) L p) ∧ Hid (wr.heap[wo.heap.size]? = some (.cells termsArr 3 (0, 0))) ∧ Below w.heap.size w wr) (fun i _ _ => N - (intOf i).toNat)
          case atStart => exact ⟨0, L, by omega, rfl, OB2, hinv, HT2, HB2.out⟩
          case round =>
            clear OB2 hinv HT2 HB2
            obtain ⟨p, L, hp, rfl, ob, hinv, hT, hb1⟩ := hrel
            by_cases hlt : p + 32 < N
            · obtain ⟨z, hz⟩ : ∃ z : Int, z = ((Crc.b2 (L.getD p false)).toNat : Int) := ⟨_, rfl⟩
              have g1 := ob.out.cell p (by omega)
              rw [← hz] at g1
              have HZ : Hid _ := hz
              clear hz
              by_cases hbit : L.getD p false = true
              · have ht : (z == 1) = true := by rw [HZ.out, hbit]; rfl
                have HBIT : Hid _ := hbit
                clear hbit
                go_wp2
                go_loopw [9] (fun i wr => ∃ k : Nat, ∃ M : List Bool, k ≤ 15 ∧ i = .int .i64 k ∧ Hid (OwnBits wr w.heap.size g N cap1 M) ∧ Hid (∀ j, M.getD j false = (L.getD j false ^^ decide (∃ u, u < k ∧ j = p + Crc.terms.getD u 0))) ∧ Hid (wr.heap[wo.heap.size]? = some (.cells termsArr 3 (0, 0))) ∧ Below w.heap.size w wr) (fun i _ => 15 - (intOf i).toNat)
                case atStart => exact ⟨0, L, by omega, rfl, ob, fun j => by simp, hT, hb1⟩
                case round =>
                  clear ob hT hb1
                  obtain ⟨k, M, hk, rfl, ob, hM, hT, hb1⟩ := hrel
                  by_cases hk15 : k < 15
                  · obtain ⟨d, hd⟩ : ∃ d, d = Crc.terms.getD k 0 := ⟨_, rfl⟩
                    have hd32 : d ≤ 32 := by rw [hd]; exact terms_le k hk15
                    have g3 := terms_cell hT.out k hk15
                    rw [← hd] at g3
                    obtain ⟨z2, hz2⟩ : ∃ z : Int, z = ((Crc.b2 (M.getD (p + d) false)).toNat : Int) := ⟨_, rfl⟩
                    have g4 := ob.out.cell (p + d) (by omega)
                    rw [← hz2] at g4
                    have g5 := ob.out.free (p + d)
                    have z0 : 0 ≤ z2 := by omega
                    have z1 : z2 ≤ 1 := by rw [hz2]; exact b2_le _
                    have HZ2 : Hid _ := hz2
                    have HD : Hid _ := hd
                    clear hz2 hd
                    go_wp2
                    go_region
                    all_goals
                      go_wp2
                      go_roundw
                      case rel =>
                        refine ⟨k + 1, _, by omega, by go_num, ob.out.store (p + d) z2 HZ2.out, fun j => ?_, ?_, (hb1.setCell (by exact ob.out.lt.1) _).drew⟩
                        · rw [turn_at M (p + d) j (by rw [ob.out.1]; omega), hM.out j, Bool.xor_assoc]
                          congr 1
                          have hap := terms_apart k hk15
                          rw [← HD.out] at hap
                          by_cases e : j = p + d
                          · have h1 : ¬ ∃ u, u < k ∧ j = p + Crc.terms.getD u 0 := by
                              rintro ⟨u, hu, e2⟩; exact hap u hu (by omega)
                            have h2 : ∃ u, u < k + 1 ∧ j = p + Crc.terms.getD u 0 := ⟨k, by omega, by rw [← HD.out]; exact e⟩
                            rw [decide_eq_false h1, decide_eq_true h2, decide_eq_true e]; rfl
                          · have h2 : (∃ u, u < k + 1 ∧ j = p + Crc.terms.getD u 0) ↔ (∃ u, u < k ∧ j = p + Crc.terms.getD u 0) := by
                              constructor
                              · rintro ⟨u, hu, e2⟩
                                rcases Nat.lt_or_ge u k with h | h
                                · exact ⟨u, h, e2⟩
                                · obtain rfl : u = k := by omega
                                  rw [← HD.out] at e2; exact absurd e2 e
                              · rintro ⟨u, hu, e2⟩; exact ⟨u, by omega, e2⟩
                            simp only [h2, e, decide_false, Bool.xor_false]
                        · show (((wr.setCell _ _).heap[wo.heap.size]?) = _)
                          rw [heap_set_ne _ (by exact hgt)]
                          exact hT.out
                      case measure => simp [intOf]; omega
                  · obtain rfl : k = 15 := by omega
                    go_wp2
                    go_roundw
                    case rel =>
                      refine ⟨p + 1, M, by omega, by go_num, ob, ?_, hT, hb1⟩
                      refine Crc.inv_step hinv.out (by rw [Crc.msg_length, ← HN.out]; exact hlt) (by rw [ob.out.1, HN.out, Crc.msg_length]) (fun j _ => ?_)
                      rw [hM.out j, HBIT.out, Bool.true_and]
                      congr 2
                      rw [eq_iff_iff]
                      constructor
                      · rintro ⟨u, hu, e⟩; exact ⟨_, terms_mem u hu, e⟩
                      · rintro ⟨t, ht, e⟩
                        obtain ⟨u, hu, rfl⟩ := mem_terms t ht
                        exact ⟨u, hu, e⟩
                    case measure => simp [intOf]; omega
              · have ht : (z == 1) = false := by rw [HZ.out, show L.getD p false = false by simpa using hbit]; rfl
                have HBIT : Hid (L.getD p false = false) := by show _ = _; simpa using hbit
                clear hbit
                go_wp2
                go_roundw
                case rel =>
                  refine ⟨p + 1, L, by omega, by go_num, ob, ?_, hT, hb1⟩
                  exact Crc.inv_step hinv.out (by rw [Crc.msg_length, ← HN.out]; exact hlt) (by rw [ob.out.1, HN.out, Crc.msg_length]) (fun j _ => by rw [HBIT.out]; simp)
                case measure => simp [intOf]; omega
            · have hp8 : Hid (p = 8 * bs.length) := by have := HN.out; show _ = _; omega
              have hpN : (N : Int) - 32 = (p : Int) := by omega
              go_wp2
              clear hpN
              go_loopw [10, 11] (fun v i wr => ∃ t : Nat, t ≤ 32 ∧ i = .int .i64 ((p + t : Nat) : Int) ∧ v = .int .u32 (((Crc.sum bs).toNat / 2 ^ (32 - t) : Nat) : Int) ∧ Hid (OwnBits wr w.heap.size g N cap1 L) ∧ Below w.heap.size w wr) (fun _ i _ => N - (intOf i).toNat)
              case atStart => exact ⟨0, by omega, rfl, by rw [Nat.div_eq_of_lt (Crc.sum bs).isLt]; rfl, ob, hb1⟩
              case round =>
                clear ob hT hb1
                obtain ⟨t, ht, rfl, rfl, ob, hb1⟩ := hrel
                by_cases ht32 : t < 32
                · obtain ⟨z, hz⟩ : ∃ z : Int, z = ((Crc.b2 (L.getD (p + t) false)).toNat : Int) := ⟨_, rfl⟩
                  have g1 := ob.out.cell (p + t) (by omega)
                  rw [← hz] at g1
                  have z0 : 0 ≤ z := by omega
                  have z1 : z ≤ 1 := by rw [hz]; exact b2_le _
                  obtain ⟨acc, hacc⟩ : ∃ acc, acc = (Crc.sum bs).toNat / 2 ^ (32 - t) := ⟨_, rfl⟩
                  rw [← hacc]
                  have hab : acc ≤ 2147483647 := by
                    rw [hacc]
                    have h1 : 2 ≤ 2 ^ (32 - t) := by
                      have : 2 ^ 1 ≤ 2 ^ (32 - t) := Nat.pow_le_pow_right (by decide) (by omega)
                      omega
                    have h2 := (Crc.sum bs).isLt
                    have h3 : (Crc.sum bs).toNat / 2 ^ (32 - t) ≤ (Crc.sum bs).toNat / 2 := Nat.div_le_div_left h1 (by decide)
                    omega
                  have HZ : Hid _ := hz
                  have HA : Hid _ := hacc
                  clear hz hacc
                  go_wp2
                  go_roundw
                  case rel =>
                    refine ⟨t + 1, by omega, by go_num, ?_, ob, hb1⟩
                    have hw := Crc.word_step (Crc.sum bs) t ht32
                    rw [← HA.out] at hw
                    have hb : L.getD (p + t) false = !(Crc.sum bs).getLsbD (31 - t) := by
                      rw [hp8.out]; exact Crc.inv_end (by rw [← hp8.out]; exact hinv.out) t ht32
                    have hz := HZ.out
                    rw [hb] at hz
                    rw [hw]
                    congr 1
                    cases hc : (Crc.sum bs).getLsbD (31 - t) <;> rw [hc] at hz <;> simp [Crc.b2] at hz ⊢ <;> omega
                  case measure => simp [intOf]; omega
                · obtain rfl : t = 32 := by omega
                  go_wp2
                  go_ret
                  refine ⟨?_, hb1⟩
                  show Ending.returned (.int .u32 (((Crc.sum bs).toNat / 2 ^ (32 - 32) : Nat) : Int)) = _
                  rw [Nat.sub_self, Nat.pow_zero, Nat.div_one]
end Go.Proofs.Yteoaeifcneiinaa
