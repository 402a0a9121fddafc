/-
  Records (plain): bytes that are cut.
-/
import Derived.Test.YtmholpploaecgaaRecPlain
namespace Go.Proofs.Ytmholpploaecgaa
open Go.RowKit
set_option linter.unusedVariables false

theorem rByte_end {bs : List UInt8} {i : Nat} (h : bs.drop i = []) : rByte bs ⟨i, 0⟩ = (0, ⟨i, 3⟩) := by
  have hl : bs.length ≤ i := List.drop_eq_nil_iff.1 h
  have h0 : rLeft bs ⟨i, 0⟩ = 0 := by unfold rLeft; rw [if_pos rfl]; simp only; omega
  unfold rByte
  rw [if_pos h0]
  rfl
theorem longFrom_cut (bs : List UInt8) : ∀ (f k n v i d : Nat), bs.drop i = (encN v).take d → d < (encN v).length → k + f = 10 → f ≠ 0 → v * 2 ^ (7 * k) < 2 ^ 64 →
    (longFrom bs f k n ⟨i, 0⟩).1 = 0 ∧ (longFrom bs f k n ⟨i, 0⟩).2.err = 3
  | 0, _, _, _, _, _, _, _, _, h, _ => absurd rfl h
  | f + 1, k, n, v, i, 0, hd, hl, hk, _, hv => by
    have hb := rByte_end (show bs.drop i = [] by simpa using hd)
    unfold longFrom
    rw [hb]
    split
    · exact ⟨rfl, show (rFail ⟨i, 3⟩ 4).err = 3 from rfl⟩
    · rw [if_pos (show (3 : Int) ≠ 0 by decide)]
      exact ⟨rfl, rfl⟩
  | f + 1, k, n, v, i, d + 1, hd, hl, hk, _, hv => by
    have h9 : k = 9 → v < 2 := by
      rintro rfl
      have : (2 : Nat) ^ 64 = 2 * 2 ^ (7 * 9) := rfl
      rw [this] at hv
      exact Nat.lt_of_mul_lt_mul_right hv
    by_cases hlt : v < 128
    · rw [encN_lo hlt] at hl; simp at hl
    · rw [encN_hi hlt] at hd hl
      rw [List.take_succ_cons] at hd
      have hb := rByte_next hd
      have hn := (drop_head hd).2.2
      rw [ofNat_nat (by omega)] at hb
      have hk9 : k ≠ 9 := fun h => by have := h9 h; omega
      rw [longFrom_more hb (by rintro (⟨h1, h2⟩ | ⟨h1, h2⟩) <;> omega) rfl (by omega)]
      have hpw : v / 128 * 2 ^ (7 * (k + 1)) + v % 128 * 2 ^ (7 * k) = v * 2 ^ (7 * k) := by
        rw [show 7 * (k + 1) = 7 + 7 * k by omega, Nat.pow_add, ← Nat.mul_assoc, ← Nat.add_mul]
        congr 1
        omega
      exact longFrom_cut bs f (k + 1) _ (v / 128) (i + 1) d hn (by simpa using hl) (by omega) (by omega) (by omega)
theorem rLong_cut {bs : List UInt8} {v i d : Nat} (h : bs.drop i = (encN v).take d) (hd : d < (encN v).length) (hv : v < 2 ^ 64) : (rLong bs ⟨i, 0⟩).1 = 0 ∧ (rLong bs ⟨i, 0⟩).2.err = 3 :=
  longFrom_cut bs 10 0 0 v i d h hd rfl (by omega) (by simpa using hv)
theorem rCount_cut {bs : List UInt8} {v i d : Nat} {most : Int} (hm : 0 ≤ most) (h : bs.drop i = (encN v).take d) (hd : d < (encN v).length) (hv : v < 2 ^ 64) : (rCount bs ⟨i, 0⟩ most).2.err = 3 := by
  obtain ⟨h1, h2⟩ := rLong_cut h hd hv
  unfold rCount
  rw [h1, if_neg (by omega)]
  exact h2
theorem rWithin_cut {bs : List UInt8} {i d : Nat} {n lo hi : Int} (h : bs.drop i = (encN (zig n)).take d) (hd : d < (encN (zig n)).length) (hn : -9223372036854775808 ≤ n ∧ n < 9223372036854775808) : (rWithin bs ⟨i, 0⟩ lo hi).2.err = 3 := by
  obtain ⟨h1, h2⟩ := rLong_cut h hd (Nat.lt_of_lt_of_eq (zig_lt n hn) rfl)
  have e : (rInt bs ⟨i, 0⟩).2.err = 3 := h2
  show (if (rInt bs ⟨i, 0⟩).2.err = 0 ∧ ((rInt bs ⟨i, 0⟩).1 < lo ∨ (rInt bs ⟨i, 0⟩).1 > hi) then rFail (rInt bs ⟨i, 0⟩).2 2 else (rInt bs ⟨i, 0⟩).2).err = 3
  rw [if_neg (by rw [e]; rintro ⟨h3, _⟩; cases h3)]
  exact e
theorem within_stay {bs : List UInt8} {s : Rs} (lo hi : Int) (hs : s.at_ ≤ bs.length) (h : s.err = 3) : (rWithin bs s lo hi).2.err = 3 := by
  have t := took_within (bs := bs) (s := s) lo hi hs
  by_cases he : (rWithin bs s lo hi).2.err = 0
  · have := (t.ok he).1; rw [h] at this; cases this
  · rw [(t.no he).2 (by rw [h]; decide), h]
theorem tkTo_stay {bs : List UInt8} {q : (Nat → Int) × Rs} (hq : q.2.at_ ≤ bs.length) (h : q.2.err = 3) : ∀ k, (tkTo bs q k).2.err = 3
  | 0 => h
  | k + 1 => within_stay _ _ (tkTo_ok q hq k).1 (tkTo_stay hq h k)
/-- What is left of a row that is cut. -/
theorem take_split {bs A C : List UInt8} {i c : Nat} (h : bs.drop i = (A ++ C).take c) : (A.length ≤ c → bs.drop i = A ++ C.take (c - A.length)) ∧ (c < A.length → bs.drop i = A.take c) := by
  refine ⟨fun hc => ?_, fun hc => ?_⟩
  · rw [h, List.take_append, List.take_of_length_le hc]
  · rw [h, List.take_append, show c - A.length = 0 by omega]; simp
theorem to_cut {bs R : List UInt8} {x : Nat → Int} (hx : chkTri x = 0) {i : Nat} (hi : i < 3) {f : Nat → Int} {p c : Nat} (hf : ∀ r, r < 8 → f r = last x i r) (hp : p ≤ bs.length) (h : bs.drop p = (cornerBytes x i 8 ++ R).take c) :
    ∀ k, k ≤ 8 → ((cornerBytes x i k).length ≤ c → (tkTo bs (f, ⟨p, 0⟩) k).2 = ⟨p + (cornerBytes x i k).length, 0⟩ ∧ ∀ r, r < 8 → (tkTo bs (f, ⟨p, 0⟩) k).1 r = if r < k then num x i r else last x i r) ∧ (c < (cornerBytes x i k).length → (tkTo bs (f, ⟨p, 0⟩) k).2.err = 3)
  | 0, _ => ⟨fun _ => ⟨by simp [tkTo, cornerBytes], fun r hr => by rw [if_neg (by omega)]; exact hf r hr⟩, fun h0 => by simp [cornerBytes] at h0⟩
  | k + 1, hk => by
    obtain ⟨h1, h2⟩ := to_cut hx hi hf hp h k (by omega)
    have e : tkTo bs (f, ⟨p, 0⟩) (k + 1) = tkStep bs k (tkTo bs (f, ⟨p, 0⟩) k) := rfl
    have hlen : (cornerBytes x i (k + 1)).length = (cornerBytes x i k).length + (encN (zig (dif x i k))).length := by rw [cornerBytes_succ, List.length_append]
    by_cases hck : (cornerBytes x i k).length ≤ c
    · obtain ⟨g1, g2⟩ := h1 hck
      obtain ⟨T, hT⟩ := corner_pre x i (8 - (k + 1)) (k + 1)
      rw [show k + 1 + (8 - (k + 1)) = 8 by omega, cornerBytes_succ x i k, List.append_assoc] at hT
      have hd : bs.drop (p + (cornerBytes x i k).length) = (encN (zig (dif x i k)) ++ (T ++ R)).take (c - (cornerBytes x i k).length) := by
        refine drop_more ?_
        rw [← (take_split (A := cornerBytes x i k) (C := encN (zig (dif x i k)) ++ (T ++ R)) (i := p) (c := c) (by rw [h, hT, List.append_assoc, List.append_assoc])).1 hck]
      have hb := dif_bd hx hi (show k < 8 by omega)
      have hs := take_split hd
      refine ⟨fun hc => ?_, fun hc => ?_⟩
      · have hw := rWithin_enc (lo := -1048576) (hi := 1048576) (hs.1 (by omega)) (by omega) (by omega)
        rw [e]
        unfold tkStep
        rw [g1, hw]
        refine ⟨by rw [hlen, Nat.add_assoc], fun r hr => ?_⟩
        simp only
        by_cases hrk : r = k
        · subst hrk
          rw [if_pos rfl, if_pos (by omega), g2 r hr, if_neg (by omega)]
          unfold dif
          omega
        · rw [if_neg hrk, g2 r hr]
          by_cases hlt : r < k
          · rw [if_pos hlt, if_pos (by omega)]
          · rw [if_neg hlt, if_neg (by omega)]
      · have hw := rWithin_cut (lo := -1048576) (hi := 1048576) (hs.2 (by omega)) (by omega) (by omega)
        rw [e]
        unfold tkStep
        rw [g1]
        exact hw
    · refine ⟨fun hc => by omega, fun _ => ?_⟩
      rw [e]
      unfold tkStep
      exact within_stay _ _ (tkTo_ok (f, (⟨p, 0⟩ : Rs)) hp k).1 (h2 (by omega))
theorem cut_a {a b c d : Nat} (h : d = a + b) (hc : d ≤ c) : b ≤ c - a := by omega
theorem cut_b {a b c d : Nat} (h : d = a + b) (ha : a ≤ c) (hc : c < d) : c - a < b := by omega
theorem cor_stay {bs : List UInt8} {s : Rs} (hs : s.at_ ≤ bs.length) (h : s.err = 3) : ∀ i, i ≤ 3 → (tkCor bs s i).2.err = 3
  | 0, _ => h
  | i + 1, hi => tkTo_stay (tkCor_ok (bs := bs) hs i (by omega)).1 (cor_stay hs h i (by omega)) 8
set_option maxHeartbeats 4000000 in
theorem cor_cut {bs R : List UInt8} {x : Nat → Int} (hx : chkTri x = 0) {p c : Nat} (hp : p ≤ bs.length) (h : bs.drop p = (triBytes x 3 ++ R).take c) :
    ∀ i, i ≤ 3 → ((triBytes x i).length ≤ c → (tkCor bs ⟨p, 0⟩ i).2 = ⟨p + (triBytes x i).length, 0⟩ ∧ ∀ r, r < 8 → (tkCor bs ⟨p, 0⟩ i).1 r = last x i r) ∧ (c < (triBytes x i).length → (tkCor bs ⟨p, 0⟩ i).2.err = 3)
  | 0, _ => ⟨fun _ => ⟨by simp [tkCor, triBytes], fun r hr => by simp [tkCor, last]⟩, fun h0 => by simp [triBytes] at h0⟩
  | i + 1, hi => by
    obtain ⟨h1, h2⟩ := cor_cut hx hp h i (by omega)
    have hat := (tkCor_ok (bs := bs) (s := ⟨p, 0⟩) hp i (by omega)).1
    have hlen : (triBytes x (i + 1)).length = (triBytes x i).length + (cornerBytes x i 8).length := by rw [triBytes_succ, List.length_append]
    by_cases hck : (triBytes x i).length ≤ c
    · obtain ⟨g1, g2⟩ := h1 hck
      obtain ⟨T, hT⟩ := tri_pre x (3 - (i + 1)) (i + 1)
      rw [show i + 1 + (3 - (i + 1)) = 3 by omega, triBytes_succ x i, List.append_assoc] at hT
      have hd : bs.drop (p + (triBytes x i).length) = (cornerBytes x i 8 ++ (T ++ R)).take (c - (triBytes x i).length) := by
        refine drop_more ?_
        rw [← (take_split (A := triBytes x i) (C := cornerBytes x i 8 ++ (T ++ R)) (i := p) (c := c) (by rw [h, hT, List.append_assoc, List.append_assoc])).1 hck]
      obtain ⟨f, hf⟩ : ∃ f, (tkCor bs ⟨p, 0⟩ i).1 = f := ⟨_, rfl⟩
      have e : tkCor bs ⟨p, 0⟩ (i + 1) = tkTo bs (f, ⟨p + (triBytes x i).length, 0⟩) 8 := by
        show tkTo bs (tkCor bs ⟨p, 0⟩ i) 8 = _
        rw [← hf, ← g1]
      rw [g1] at hat
      obtain ⟨k1, k2⟩ := to_cut hx (show i < 3 by omega) (f := f) (fun r hr => by rw [← hf]; exact g2 r hr) hat hd 8 (Nat.le_refl _)
      rw [e]
      have m1 : (triBytes x (i + 1)).length ≤ c → (cornerBytes x i 8).length ≤ c - (triBytes x i).length := fun hc => by rw [hlen] at hc; exact Nat.le_sub_of_add_le (by rw [Nat.add_comm]; exact hc)
      have m2 : c < (triBytes x (i + 1)).length → c - (triBytes x i).length < (cornerBytes x i 8).length := fun hc => by rw [hlen] at hc; exact Nat.sub_lt_left_of_lt_add hck hc
      refine ⟨fun hc => ?_, fun hc => k2 (m2 hc)⟩
      obtain ⟨q1, q2⟩ := k1 (m1 hc)
      refine ⟨by rw [q1, hlen, Nat.add_assoc], fun r hr => ?_⟩
      rw [q2 r hr, if_pos hr]
      simp [last]
    · refine ⟨fun hc => absurd (Nat.le_trans (by rw [hlen]; exact Nat.le_add_right _ _) hc) hck, fun _ => ?_⟩
      show (tkTo bs (tkCor bs ⟨p, 0⟩ i) 8).2.err = 3
      exact tkTo_stay hat (h2 (Nat.lt_of_not_le hck)) 8
theorem num_facts {a : Int} (ha : 0 ≤ a ∧ a < 32) : (2 * a).toNat < 2 ^ 64 ∧ (2 * a + 1).toNat < 2 ^ 64 ∧ (((2 * a + 1).toNat : Nat) : Int) ≤ max 63 0 ∧ (2 * a + 1).toNat < 18446744073709551616 ∧ (2 * a + 1).toNat % 2 = 1 := by
  refine ⟨by omega, by omega, by omega, by omega, by omega⟩
theorem cut_rs {bs : List UInt8} (k : (tkRs bs ⟨0, 0⟩).err = 3) : (tkEnd bs ⟨0, 0⟩).err = 3 := by unfold tkEnd; rw [if_neg (by rw [k]; decide)]; exact k
/-- The count itself is cut. -/
theorem cut_head {bs : List UInt8} (h : (rCount bs ⟨0, 0⟩ 63).2.err = 3) : (tkRs bs ⟨0, 0⟩).err = 3 := by
  unfold tkRs
  split
  · exact cor_stay (took_count (bs := bs) (s := ⟨0, 0⟩) 63 (Nat.zero_le _)).far h 3 (Nat.le_refl _)
  · exact h
theorem cut_tail {bs : List UInt8} {x : Nat → Int} (hx : chkTri x = 0) {n L c : Nat} (hn : rCount bs ⟨0, 0⟩ 63 = (n, ⟨L, 0⟩)) (hm : n % 2 = 1) (hL : L ≤ bs.length) (hd : bs.drop L = (triBytes x 3 ++ []).take c) {m : Nat} (h3 : (triBytes x 3).length = m) (hc : c < m) : (tkRs bs ⟨0, 0⟩).err = 3 := by
  have hsm : tkSome bs ⟨0, 0⟩ = true := by unfold tkSome; rw [hn]; simp [hm]
  have K := (cor_cut hx hL hd 3 (Nat.le_refl _)).2 (by rw [h3]; exact hc)
  have e : tkRs bs ⟨0, 0⟩ = (tkCor bs ⟨L, 0⟩ 3).2 := by unfold tkRs; rw [if_pos hsm, hn]
  rw [e]
  exact K
theorem cut_false {a : Int} {x : Nat → Int} (ha : 0 ≤ a ∧ a < 32) {c : Nat} (h : c < (encN (2 * a).toNat).length) : (tkEnd ((encN (2 * a).toNat).take c) ⟨0, 0⟩).err = 3 :=
  cut_rs (cut_head (rCount_cut (v := (2 * a).toNat) (d := c) (most := 63) (by decide) rfl h (num_facts ha).1))
theorem cut_true {a : Int} {x : Nat → Int} (ha : 0 ≤ a ∧ a < 32) (hx : chkTri x = 0) {c : Nat} {A : List UInt8} (hA : encN (2 * a + 1).toNat = A) {m : Nat} (h3 : (triBytes x 3).length = m) (h : c < A.length + m) : (tkEnd ((A ++ triBytes x 3).take c) ⟨0, 0⟩).err = 3 := by
  obtain ⟨bs, hbs⟩ : ∃ bs, (A ++ triBytes x 3).take c = bs := ⟨_, rfl⟩
  rw [hbs]
  refine cut_rs ?_
  have hb0 : bs.drop 0 = (A ++ triBytes x 3).take c := by rw [hbs]; rfl
  have hs := take_split hb0
  by_cases hcl : A.length ≤ c
  · have hd := hs.1 hcl
    have hn := rCount_enc (n := (2 * a + 1).toNat) (most := 63) (by rw [hA]; exact hd) (num_facts ha).2.2.1 (num_facts ha).2.2.2.1
    rw [hA, Nat.zero_add] at hn
    have hat : A.length ≤ bs.length := by have := (took_count (bs := bs) (s := ⟨0, 0⟩) 63 (Nat.zero_le _)).far; rw [hn] at this; exact this
    have hd2 : bs.drop A.length = (triBytes x 3 ++ []).take (c - A.length) := by have := drop_more hd; rw [Nat.zero_add] at this; rw [List.append_nil]; exact this
    exact cut_tail hx hn (num_facts ha).2.2.2.2 hat hd2 h3 (Nat.sub_lt_left_of_lt_add hcl h)
  · have h1 := hs.2 (Nat.lt_of_not_le hcl)
    exact cut_head (rCount_cut (v := (2 * a + 1).toNat) (d := c) (most := 63) (by decide) (by rw [hA]; exact h1) (by rw [hA]; exact Nat.lt_of_not_le hcl) (num_facts ha).2.1)
/-- A record's bytes, cut anywhere: too short. -/
theorem tk_cut {a : Int} {s : Bool} {x : Nat → Int} (hc : chkRec a s x = 0) {c : Nat} (h : c < (recBytes a s x).length) : (tkEnd ((recBytes a s x).take c) ⟨0, 0⟩).err = 3 := by
  obtain ⟨ha, ht, _⟩ := chkRec_ok hc
  cases s with
  | false =>
    have hr : recBytes a false x = encN (2 * a).toNat := rfl
    rw [hr] at h ⊢
    exact cut_false (x := x) ha h
  | true =>
    have hr : recBytes a true x = encN (2 * a + 1).toNat ++ triBytes x 3 := rfl
    rw [hr] at h ⊢
    rw [List.length_append] at h
    exact cut_true ha (ht rfl) rfl rfl h
end Go.Proofs.Ytmholpploaecgaa
