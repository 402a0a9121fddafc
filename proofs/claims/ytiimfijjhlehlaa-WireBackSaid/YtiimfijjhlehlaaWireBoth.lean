/-
  A writer and a slice of bytes beside it that hold the same; numbers' bytes, one behind the other.
-/
import Derived.Test.YtiimfijjhlehlaaWireBackP
import Derived.Test.YtiimfijjhlehlaaWireAwake
import Derived.Test.YtiimfijjhlehlaaTakes2
import Derived.Test.YtiimfijjhlehlaaRBytes
namespace Go.Proofs.Ytiimfijjhlehlaa
open Go.RowKit

/-- The writer at g with the bytes bs and the slice v with the bytes cs, apart from each other, both made behind w0. -/
structure Both (w0 w : World) (g : Nat) (S : List Nat) (v : Value) (bs cs : List UInt8) : Prop where
  wr : Wr w g S bs
  own : OwnB w w0.heap.size v cs
  apart : ∀ x, v.ownBlock = some x → x ∉ S
  far : ∀ k ∈ S, w0.heap.size ≤ k
  below : Below w0.heap.size w0 w

/-- Behind what the writer did. -/
theorem Both.step {w0 w w1 : World} {g : Nat} {S S1 : List Nat} {v : Value} {bs cs bs' : List UInt8} (h : Both w0 w g S v bs cs) (hw : Wr w1 g S1 bs') (hg : Grows S w S1) (hf : Fr S w w1) : Both w0 w1 g S1 v bs' cs := by
  refine ⟨hw, own_fr h.own hf h.apart, ?_, ?_, Fr.below h.below hf h.far h.below.size⟩
  · intro x hx hm
    have hl := (World.ownsRow.lt h.own x hx).2
    rcases hg x hm with h1 | h1
    · exact h.apart x hx h1
    · omega
  · intro k hk
    rcases hg k hk with h1 | h1
    · exact h.far k h1
    · exact Nat.le_trans h.below.size h1

/-- Behind what touches neither. -/
theorem Both.keep {w0 w w1 : World} {g : Nat} {S : List Nat} {v : Value} {bs cs : List UInt8} (h : Both w0 w g S v bs cs) (hb : Below w.heap.size w w1) : Both w0 w1 g S v bs cs :=
  ⟨h.wr.fr (Fr.ofBelow hb) (fun _ _ hm => by cases hm), h.own.keep hb, h.apart, h.far, h.below.trans (hb.mono h.below.size)⟩

/-- Behind an append to the slice. -/
theorem Both.app {w0 w w3 : World} {g : Nat} {S : List Nat} {v v3 : Value} {bs cs cs' : List UInt8} (h : Both w0 w g S v bs cs) (ho : OwnB w3 w0.heap.size v3 cs') (hg : w.grownBy w3 v.ownBlock) (hl : v3.ownBlock = v.ownBlock ∨ v3.ownBlock = some w.heap.size) : Both w0 w3 g S v3 bs cs' := by
  have hf : Fr v.ownBlock.toList w w3 := (Fr.refl _ _).grown hg (fun g hg => .inl (by rw [hg]; simp))
  refine ⟨h.wr.fr hf ?_, ho, ?_, h.far, OwnB.below h.own h.below hg (Nat.le_refl _) h.below.size⟩
  · intro k hk hm
    cases hvo : v.ownBlock with
    | none => rw [hvo] at hm; simp at hm
    | some x => rw [hvo] at hm; simp at hm; subst hm; exact h.apart k hvo hk
  · intro x hx hm
    rcases hl with h1 | h1
    · exact h.apart x (h1 ▸ hx) hm
    · have := h.wr.lt x hm
      rw [h1] at hx; cases hx; omega
theorem Both.alloc {w0 w : World} {g : Nat} {S : List Nat} {v : Value} {bs cs : List UInt8} (h : Both w0 w g S v bs cs) (o : Obj) : Both w0 (w.alloc o) g S v bs cs := h.keep ((Below.refl _ _).alloc (Nat.le_refl _) o)

theorem sl_get {w : World} {a : Option Addr} {n cap : Nat} {kd : IntKind} {zs : List Int} (h : Sl w a n cap 1 (zs.map (Value.int kd))) (i : Nat) (hi : i < zs.length) : ∃ b off x, a = some ⟨b, off, none⟩ ∧ Hid (zs[i] = x) ∧ w.cell? ⟨b, off + i, none⟩ = some (.int kd x) := by
  obtain ⟨b, off, h1, h2⟩ := Sl.at h i (by simpa using hi)
  exact ⟨b, off, zs[i], h1, rfl, by rw [h2]; simp⟩

def encI (zs : List Int) : List UInt8 := zs.flatMap (fun z => encN (zig z))
def encC (zs : List Int) : List UInt8 := zs.flatMap (fun z => encN z.toNat)
theorem flat_at {α : Type} (f : Int → List α) (zs : List Int) (k : Nat) (h : k < zs.length) : (zs.take (k + 1)).flatMap f = (zs.take k).flatMap f ++ f zs[k] := by
  rw [List.take_succ_eq_append_getElem h, List.flatMap_append]; simp
theorem flat_drop {α : Type} (f : Int → List α) (zs : List Int) (k : Nat) (h : k < zs.length) (A R : List α) : (A ++ (zs.flatMap f ++ R)).drop (A.length + ((zs.take k).flatMap f).length) = f zs[k] ++ ((zs.drop (k + 1)).flatMap f ++ R) := by
  conv => lhs; rw [show zs = zs.take k ++ zs.drop k from (List.take_append_drop k zs).symm]
  rw [List.drop_append, List.drop_of_length_le (by omega), List.nil_append, Nat.add_sub_cancel_left, List.flatMap_append, List.append_assoc]
  have : ((List.take k (List.take k zs ++ List.drop k zs)).flatMap f) = (zs.take k).flatMap f := by rw [List.take_append_drop]
  rw [this, List.drop_append, List.drop_of_length_le (by omega), List.nil_append, Nat.sub_self, List.drop_zero, List.drop_eq_getElem_cons h, List.flatMap_cons, List.append_assoc]
theorem encI_at (zs : List Int) (k : Nat) (h : k < zs.length) : encI (zs.take (k + 1)) = encI (zs.take k) ++ encN (zig zs[k]) := flat_at _ zs k h
theorem encC_at (zs : List Int) (k : Nat) (h : k < zs.length) : encC (zs.take (k + 1)) = encC (zs.take k) ++ encN zs[k].toNat := flat_at _ zs k h

theorem flat_len {α : Type} (f : Int → List α) (m : Nat) : ∀ zs : List Int, (∀ z ∈ zs, (f z).length ≤ m) → (zs.flatMap f).length ≤ m * zs.length
  | [], _ => by simp
  | z :: zs, h => by
    have h1 := h z (by simp)
    have h2 := flat_len f m zs (fun y hy => h y (by simp [hy]))
    rw [List.flatMap_cons, List.length_append, List.length_cons, Nat.mul_succ]; omega
theorem encI_len (zs : List Int) (h : ∀ z ∈ zs, (Lit.int .i64 z).wf = true) (k : Nat) : (encI (zs.take k)).length ≤ 11 * zs.length := by
  have := flat_len (fun z => encN (zig z)) 11 (zs.take k) (fun z hz => encN_ten _ (by have := bounds_i64 (h z (List.mem_of_mem_take hz)); have := zig_lt z (by omega); omega))
  have h2 : (zs.take k).length ≤ zs.length := by rw [List.length_take]; omega
  unfold encI; omega
theorem encC_len (zs : List Int) (h : ∀ z ∈ zs, (Lit.int .u32 z).wf = true) (k : Nat) : (encC (zs.take k)).length ≤ 11 * zs.length := by
  have := flat_len (fun z => encN z.toNat) 11 (zs.take k) (fun z hz => encN_ten _ (by have := bounds_u32 (h z (List.mem_of_mem_take hz)); omega))
  have h2 : (zs.take k).length ≤ zs.length := by rw [List.length_take]; omega
  unfold encC; omega

/-- A number that was put is taken. -/
theorem take_int (zs : List Int) (h : ∀ z ∈ zs, (Lit.int .i64 z).wf = true) (k : Nat) (hk : k < zs.length) (R : List UInt8) : rInt (encI zs ++ R) ⟨(encI (zs.take k)).length, 0⟩ = (zs[k], ⟨(encI (zs.take (k + 1))).length, 0⟩) := by
  have hd := flat_drop (fun z => encN (zig z)) zs k hk [] R
  rw [List.nil_append, List.length_nil, Nat.zero_add] at hd
  have hb := bounds_i64 (h zs[k] (List.getElem_mem hk))
  have := rLong_enc hd (by have := zig_lt zs[k] (by omega); omega)
  unfold rInt
  show (unzig (rLong (zs.flatMap (fun z => encN (zig z)) ++ R) ⟨((zs.take k).flatMap (fun z => encN (zig z))).length, 0⟩).1, _) = _
  rw [show (rLong (encI zs ++ R) ⟨(encI (zs.take k)).length, 0⟩) = _ from this]
  rw [encI_at zs k hk, List.length_append]
  rw [show rLong (List.flatMap (fun z => encN (zig z)) zs ++ R) ⟨(List.flatMap (fun z => encN (zig z)) (List.take k zs)).length, 0⟩ = _ from this, unzig_zig]
  rfl
theorem take_count (A : List UInt8) (zs : List Int) (h : ∀ z ∈ zs, (Lit.int .u32 z).wf = true) (k : Nat) (hk : k < zs.length) (R : List UInt8) : ∃ c, rCount (A ++ (encC zs ++ R)) ⟨A.length + (encC (zs.take k)).length, 0⟩ 4294967296 = (c, ⟨A.length + (encC (zs.take (k + 1))).length, 0⟩) ∧ (c : Int) = zs[k] := by
  have hd := flat_drop (fun z => encN z.toNat) zs k hk A R
  have hb := bounds_u32 (h zs[k] (List.getElem_mem hk))
  have := rLong_enc hd (by omega)
  refine ⟨zs[k].toNat, ?_, by omega⟩
  have h2 : rLong (A ++ (encC zs ++ R)) ⟨A.length + (encC (zs.take k)).length, 0⟩ = (zs[k].toNat, ⟨A.length + (encC (zs.take (k + 1))).length, 0⟩) := by
    rw [encC_at zs k hk, List.length_append, ← Nat.add_assoc]; exact this
  unfold rCount
  rw [h2, if_neg (by simp only; omega)]

theorem Fr.drew {S : List Nat} {a b : World} (h : Fr S a b) : Fr S a b.drew := ⟨h.os, h.tape, h.output, h.size, h.block⟩
theorem Rd.drew {w : World} {g : Nat} {S : List Nat} {bs : List UInt8} {s : Rs} (h : Rd w g S bs s) : Rd w.drew g S bs s := h.fr (Fr.refl [] _).drew (fun _ _ hm => by cases hm)

/-- Bytes that were put are taken. -/
theorem back_bytes {w : World} {g : Nat} {S : List Nat} {P bs R : List UInt8} (h : Rd w g S (P ++ bs ++ R) ⟨P.length, 0⟩) :
    Calls Try.prog 30 #[.pointer (some ⟨g, 0, none⟩), .int .i64 bs.length] w fun x w' => ∃ a c, x = .returned (.slice a bs.length c) ∧ Bytes w' a bs.length c bs ∧ Rd w' g S (P ++ bs ++ R) ⟨P.length + bs.length, 0⟩ ∧ Fr [g] w w' := by
  by_cases hb : bs = []
  · subst hb
    refine (rbytes_zero h).mono ?_
    rintro x w' ⟨rfl, hr, hf⟩
    exact ⟨none, 0, rfl, Sl.nil_any _ _, hr, hf⟩
  · have h0 : 0 < bs.length := List.length_pos_iff.mpr hb
    refine (rbytes_calls h bs.length h0 (by simp only [List.length_append]; omega)).mono ?_
    rintro x w' ⟨v, rfl, ho, hr, hf⟩
    have hp : part (P ++ bs ++ R) P.length (P.length + bs.length) = bs := by
      unfold part
      rw [List.append_assoc, List.drop_left, Nat.add_sub_cancel_left, List.take_left]
    rw [hp] at ho
    obtain ⟨a, c, rfl, hy⟩ := ho.bytes
    exact ⟨a, c, rfl, hy, hr, hf⟩
theorem back_byte {w : World} {g : Nat} {S : List Nat} {P : List UInt8} {c : UInt8} {k : Nat} (h : Rd w g S (P ++ [c]) ⟨k, 0⟩) (hk : k = P.length) :
    Calls Try.prog 21 #[.pointer (some ⟨g, 0, none⟩)] w fun x w' => x = .returned (.int .u8 (c.toNat : Int)) ∧ Rd w' g S (P ++ [c]) ⟨(P ++ [c]).length, 0⟩ ∧ Fr [g] w w' := by
  subst hk
  have := rbyte_calls h
  rw [rByte_next (c := c) (rest := []) (by rw [List.drop_left])] at this
  rw [List.length_append]
  exact this
theorem rEnd_all (T : List UInt8) : rEnd T ⟨T.length, 0⟩ = 0 := by unfold rEnd; rw [if_neg (by simp)]
end Go.Proofs.Ytiimfijjhlehlaa
