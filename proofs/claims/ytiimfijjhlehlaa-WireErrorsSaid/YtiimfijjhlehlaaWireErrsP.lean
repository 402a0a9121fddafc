/-
  What can't be taken: a number that ends too early with a nought; one that is too great.
-/
import Derived.Test.YtiimfijjhlehlaaWireBackP
import Derived.Test.YtiimfijjhlehlaaRBytes
import Derived.Test.YtiimfijjhlehlaaTakes2
import Derived.Test.YtiimfijjhlehlaaWireAwake
namespace Go.Proofs.Ytiimfijjhlehlaa
open Go.RowKit

theorem own_front {w : World} {B g : Nat} {e : TypeId} {size n cap : Nat} {xs : List Value} (h : w.ownsRow B e size (.slice (some ⟨g, 0, none⟩) n cap) n xs) (k : Nat) (hk : k ≤ n) :
    w.ownsRow B e size (.slice (some ⟨g, 0, none⟩) k cap) k (xs.take (k * size)) := by
  obtain ⟨h1, h2⟩ := h
  have hm : k * size ≤ n * size := Nat.mul_le_mul_right _ hk
  rcases h2 with ⟨h0, _⟩ | ⟨g', cap', cur, hv, hg, hh, hn, hcap, hsz, htake⟩
  · cases h0
  · cases hv
    refine ⟨by rw [List.length_take, h1, Nat.min_eq_left hm], .inr ⟨g, cap, cur, rfl, hg, hh, by omega, hcap, hsz, ?_⟩⟩
    rw [← htake, List.take_take, Nat.min_eq_left hm]
theorem ownB_front {w : World} {B g cap n : Nat} {bs : List UInt8} (h : OwnB w B (.slice (some ⟨g, 0, none⟩) n cap) bs) (hn : n = bs.length) (k : Nat) (hk : k ≤ bs.length) : OwnB w B (.slice (some ⟨g, 0, none⟩) k cap) (bs.take k) := by
  subst hn
  have := own_front h k hk
  unfold OwnB
  rw [List.length_take, Nat.min_eq_left hk, List.map_take]
  simpa using this
theorem ownB_cap {w : World} {B g cap n : Nat} {bs : List UInt8} (h : OwnB w B (.slice (some ⟨g, 0, none⟩) n cap) bs) : bs.length ≤ cap ∧ cap ≤ 9223372036854775807 := by
  obtain ⟨a, c, h1, h2⟩ := h.bytes
  cases h1
  exact ⟨Sl.le h2, Sl.big h2⟩

/-- A number whose bytes go on, and then a nought. -/
theorem longFrom_cut (bs : List UInt8) : ∀ (m k n v i : Nat) (rest : List UInt8), bs.drop i = (encN v).take m ++ 0 :: rest → 2 ^ (7 * m) ≤ v → k + m ≤ 8 → 0 < k + m → (longFrom bs (10 - k) k n ⟨i, 0⟩).2.err = 4
  | 0, k, n, v, i, rest, h, hv, hk, h0 => by
    rw [List.take_zero, List.nil_append] at h
    have hb := rByte_next h
    rw [show 10 - k = (9 - k) + 1 by omega, longFrom_bad hb (.inr ⟨by omega, rfl⟩)]
    rfl
  | m + 1, k, n, v, i, rest, h, hv, hk, h0 => by
    have hp : 2 ^ (7 * (m + 1)) = 128 * 2 ^ (7 * m) := by rw [show 7 * (m + 1) = 7 + 7 * m by omega, Nat.pow_add]
    have hpos : 0 < 2 ^ (7 * m) := Nat.pow_pos (by omega)
    have hv1 : ¬ v < 128 := by omega
    rw [encN_hi hv1, List.take_succ_cons, List.cons_append] at h
    have hb := rByte_next h
    rw [ofNat_nat (by omega)] at hb
    have hd := (drop_head h).2.2
    rw [show 10 - k = (9 - k) + 1 by omega, longFrom_more hb (by omega) rfl (by omega), show 9 - k = 10 - (k + 1) by omega]
    exact longFrom_cut bs m (k + 1) _ (v / 128) (i + 1) rest hd (by rw [hp] at hv; omega) (by omega) (by omega)
theorem rLong_cut {v : Nat} (hv : 1099511627776 ≤ v) (most : Int) : (rCount ((encN v).take 5 ++ [0]) ⟨0, 0⟩ most).2.err = 4 := by
  have : (rLong ((encN v).take 5 ++ [0]) ⟨0, 0⟩).2.err = 4 := longFrom_cut _ 5 0 0 v 0 [] rfl (by omega) (by omega) (by omega)
  unfold rCount
  split
  · unfold rFail; rw [if_neg (by rw [this]; decide)]; exact this
  · exact this
theorem encN_long {v : Nat} : ∀ {k : Nat}, 2 ^ (7 * k) ≤ v → k < (encN v).length := by
  intro k
  induction k generalizing v with
  | zero => intro _; exact encN_pos v
  | succ k ih =>
    intro h
    have hp : 2 ^ (7 * (k + 1)) = 128 * 2 ^ (7 * k) := by rw [show 7 * (k + 1) = 7 + 7 * k by omega, Nat.pow_add]
    have hpos : 0 < 2 ^ (7 * k) := Nat.pow_pos (by omega)
    rw [encN_hi (by omega), List.length_cons]
    have := ih (v := v / 128) (by omega)
    omega
theorem rCount_more {n : Nat} (hn : n < 2 ^ 64) (R : List UInt8) (most : Int) (hm : (n : Int) > max most 0) : (rCount (encN n ++ R) ⟨0, 0⟩ most).2.err = 7 := by
  have := rLong_enc (bs := encN n ++ R) (i := 0) (v := n) (rest := R) rfl hn
  unfold rCount
  rw [this, if_pos hm]
  rfl
theorem or_40 (n : Nat) (h : n < 4294967296) : bits .or .u64 (n : Int) 1099511627776 = ((n + 1099511627776 : Nat) : Int) := or_u64 n 1 40 (by omega) (by omega)

theorem Rd.keep {w w' : World} {g : Nat} {S : List Nat} {bs : List UInt8} {s : Rs} (h : Rd w g S bs s) (hb : Below w.heap.size w w') : Rd w' g S bs s := h.fr (Fr.ofBelow hb) (fun _ _ hm => by cases hm)
theorem Wr.keep {w w' : World} {g : Nat} {S : List Nat} {bs : List UInt8} (h : Wr w g S bs) (hb : Below w.heap.size w w') : Wr w' g S bs := h.fr (Fr.ofBelow hb) (fun _ _ hm => by cases hm)
theorem rerr_at {w : World} {g : Nat} {S : List Nat} {bs : List UInt8} {s : Rs} (h : Rd w g S bs s) (e : Int) (he : s.err = e) :
    Calls Try.prog 18 #[.pointer (some ⟨g, 0, none⟩)] w fun x w' => x = .returned (.int .i64 e) ∧ w' = w := by
  subst he; exact rerr_calls h

theorem grows_far {C : Nat} {w : World} {S S' : List Nat} (hS : ∀ k ∈ S, C ≤ k) (hG : Grows S w S') (hC : C ≤ w.heap.size) : ∀ k ∈ S', C ≤ k := fun k hk => (hG k hk).elim (hS k) (fun h => Nat.le_trans hC h)

/-- A reader whose blocks were made behind B and are there. -/
def Rb (B : Nat) (w : World) (g : Nat) (S : List Nat) (bs : List UInt8) (s : Rs) : Prop := Rd w g S bs s ∧ g ∈ S ∧ ∀ k ∈ S, B ≤ k ∧ k < w.heap.size
theorem Rb.of {w w' : World} {g : Nat} {S : List Nat} {bs : List UInt8} {s : Rs} (h : Rd w' g S bs s) (hS : ∀ k ∈ S, w.heap.size ≤ k ∧ k < w'.heap.size) : Rb w.heap.size w' g S bs s := by
  refine ⟨h, ?_, hS⟩
  obtain ⟨_, _, _, _, _, _, h4, _⟩ := h
  exact h4
theorem Rb.keep {B : Nat} {w w' : World} {g : Nat} {S : List Nat} {bs : List UInt8} {s : Rs} (h : Rb B w g S bs s) (hb : Below w.heap.size w w') : Rb B w' g S bs s :=
  ⟨h.1.keep hb, h.2.1, fun k hk => ⟨(h.2.2 k hk).1, Nat.lt_of_lt_of_le (h.2.2 k hk).2 hb.size⟩⟩
/-- Another reader was written. -/
theorem Rb.beside {B B' : Nat} {w w' : World} {g g' : Nat} {S S' : List Nat} {bs bs' : List UInt8} {s s' : Rs} (h : Rb B w g S bs s) (h' : Rb B' w g' S' bs' s') (hB : ∀ k ∈ S, k < B') (hf : Fr [g'] w w') : Rb B w' g S bs s := by
  refine ⟨h.1.fr hf ?_, h.2.1, fun k hk => ⟨(h.2.2 k hk).1, Nat.lt_of_lt_of_le (h.2.2 k hk).2 hf.size⟩⟩
  intro k hk hm
  simp at hm; subst hm
  have := hB _ hk
  have := (h'.2.2 _ h'.2.1).1
  omega
/-- It was written itself. -/
theorem Rb.step {B : Nat} {w w' : World} {g : Nat} {S : List Nat} {bs : List UInt8} {s s' : Rs} (h : Rb B w g S bs s) (h' : Rd w' g S bs s') (hf : Fr [g] w w') : Rb B w' g S bs s' :=
  ⟨h', h.2.1, fun k hk => ⟨(h.2.2 k hk).1, Nat.lt_of_lt_of_le (h.2.2 k hk).2 hf.size⟩⟩
theorem Rb.far {B : Nat} {w : World} {g : Nat} {S : List Nat} {bs : List UInt8} {s : Rs} (h : Rb B w g S bs s) : B ≤ g := (h.2.2 _ h.2.1).1
theorem Rb.rd {B : Nat} {w : World} {g : Nat} {S : List Nat} {bs : List UInt8} {s : Rs} (h : Rb B w g S bs s) : Rd w g S bs s := h.1
theorem Rb.top {B : Nat} {w : World} {g : Nat} {S : List Nat} {bs : List UInt8} {s : Rs} (h : Rb B w g S bs s) : ∀ k ∈ S, k < w.heap.size := fun k hk => (h.2.2 k hk).2
end Go.Proofs.Ytiimfijjhlehlaa
