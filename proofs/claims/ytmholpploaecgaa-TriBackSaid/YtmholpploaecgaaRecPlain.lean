/-
  Records (plain): what is taken was put; what was put comes back.
-/
import Derived.Test.YtmholpploaecgaaRecTake2
namespace Go.Proofs.Ytmholpploaecgaa
open Go.RowKit
set_option linter.unusedVariables false

theorem rec24b (a : Int) (s : Bool) (x : Nat → Int) : recBytes a s (x24 x) = recBytes a s x := rfl
/-- What is taken, was put. -/
theorem tk_ok {bs : List UInt8} {s : Rs} (hs : s.at_ ≤ bs.length) (h : (tkEnd bs s).err = 0) :
    s.err = 0 ∧ s.at_ ≤ (tkEnd bs s).at_ ∧ (tkEnd bs s).at_ ≤ bs.length ∧ recBytes (gotA bs s) (gotS bs s) (gotX bs s) = part bs s.at_ (tkEnd bs s).at_ ∧ chkRec (gotA bs s) (gotS bs s) (gotX bs s) = 0 := by
  have hg : gotA bs s = tkDraw bs s ∧ gotS bs s = tkSome bs s ∧ gotX bs s = tkXs bs s := by unfold gotA gotS gotX; rw [if_pos h, if_pos h, if_pos h]; exact ⟨rfl, rfl, rfl⟩
  rw [hg.1, hg.2.1, hg.2.2]
  have hrs : (tkRs bs s).err = 0 := by
    by_cases he : (tkRs bs s).err = 0
    · exact he
    · unfold tkEnd at h; rw [if_neg he] at h; exact h
  have hck : chkRec (tkDraw bs s) (tkSome bs s) (tkXs bs s) = 0 := by
    by_cases hc : chkRec (tkDraw bs s) (tkSome bs s) (tkXs bs s) = 0
    · exact hc
    · exfalso
      unfold tkEnd at h
      rw [if_pos hrs, if_pos hc] at h
      unfold rFail at h
      rw [if_pos hrs] at h
      exact hc h
  have hend : tkEnd bs s = tkRs bs s := by unfold tkEnd; rw [if_pos hrs, if_neg (by simpa using hck)]
  rw [hend]
  have t := took_count (bs := bs) (s := s) 63 hs
  obtain ⟨n, s1, hn⟩ : ∃ n s1, rCount bs s 63 = (n, s1) := ⟨_, _, rfl⟩
  have t2 := t
  rw [hn] at t2
  unfold tkDraw tkSome tkXs tkRs at *
  rw [hn] at hrs ⊢
  simp only at hrs ⊢
  by_cases ho : (n % 2 == 1) = true
  · have ho1 : n % 2 = 1 := by simpa using ho
    unfold tkSome at hrs ⊢
    rw [hn] at hrs ⊢
    simp only [ho, if_true] at hrs ⊢
    obtain ⟨c1, c2⟩ := tkCor_ok (bs := bs) (s := s1) t2.far 3 (Nat.le_refl _)
    obtain ⟨e1, e2, e3⟩ := c2 hrs
    obtain ⟨f1, f2, f3⟩ := t2.ok e1
    refine ⟨f1, Nat.le_trans (Nat.le_of_lt f2) e2, c1, ?_, ?_⟩
    · unfold recBytes
      rw [if_pos rfl, e3]
      rw [show (2 * ((n / 2 : Nat) : Int) + 1).toNat = n by omega, f3]
      exact part_part bs _ _ _ (Nat.le_of_lt f2) e2 c1
    · unfold tkSome at hck; rw [hn] at hck; simp only [ho, if_true] at hck; exact hck
  · have ho1 : n % 2 = 0 := by have : ¬ n % 2 = 1 := by simpa using ho
                               omega
    have hob : (n % 2 == 1) = false := by simpa using ho
    unfold tkSome at hrs ⊢
    rw [hn] at hrs ⊢
    simp only [hob, if_false, Bool.false_eq_true] at hrs ⊢
    obtain ⟨f1, f2, f3⟩ := t2.ok hrs
    refine ⟨f1, Nat.le_of_lt f2, t2.far, ?_, ?_⟩
    · unfold recBytes
      rw [if_neg (by decide), show (2 * ((n / 2 : Nat) : Int)).toNat = n by omega, f3]
    · unfold tkSome at hck; rw [hn] at hck; simp only [hob, if_false, Bool.false_eq_true] at hck; exact hck

theorem corner_pre (x : Nat → Int) (i : Nat) : ∀ (d k : Nat), ∃ T, cornerBytes x i (k + d) = cornerBytes x i k ++ T
  | 0, k => ⟨[], by simp⟩
  | d + 1, k => by
    obtain ⟨T, hT⟩ := corner_pre x i d k
    exact ⟨T ++ encN (zig (dif x i (k + d))), by rw [show k + (d + 1) = k + d + 1 by omega, cornerBytes_succ, hT, List.append_assoc]⟩
theorem tri_pre (x : Nat → Int) : ∀ (d i : Nat), ∃ T, triBytes x (i + d) = triBytes x i ++ T
  | 0, i => ⟨[], by simp⟩
  | d + 1, i => by
    obtain ⟨T, hT⟩ := tri_pre x d i
    exact ⟨T ++ cornerBytes x (i + d) 8, by rw [show i + (d + 1) = i + d + 1 by omega, triBytes_succ, hT, List.append_assoc]⟩
/-- A corner's numbers come back. -/
theorem to_back {bs R : List UInt8} {x : Nat → Int} (hx : chkTri x = 0) {i : Nat} (hi : i < 3) {f : Nat → Int} {p : Nat} (hf : ∀ r, r < 8 → f r = last x i r) (h : bs.drop p = cornerBytes x i 8 ++ R) :
    ∀ k, k ≤ 8 → (tkTo bs (f, ⟨p, 0⟩) k).2 = ⟨p + (cornerBytes x i k).length, 0⟩ ∧ ∀ r, r < 8 → (tkTo bs (f, ⟨p, 0⟩) k).1 r = if r < k then num x i r else last x i r
  | 0, _ => ⟨by simp [tkTo, cornerBytes], fun r hr => by rw [if_neg (by omega)]; exact hf r hr⟩
  | k + 1, hk => by
    obtain ⟨h1, h2⟩ := to_back hx hi hf h k (by omega)
    obtain ⟨T, hT⟩ := corner_pre x i (8 - (k + 1)) (k + 1)
    rw [show k + 1 + (8 - (k + 1)) = 8 by omega, cornerBytes_succ x i k, List.append_assoc] at hT
    have hd : bs.drop (p + (cornerBytes x i k).length) = encN (zig (dif x i k)) ++ (T ++ R) := drop_more (by rw [h, hT, List.append_assoc, List.append_assoc])
    have hb := dif_bd hx hi (show k < 8 by omega)
    have hw := rWithin_enc (lo := -1048576) (hi := 1048576) hd (by omega) (by omega)
    have e : tkTo bs (f, ⟨p, 0⟩) (k + 1) = tkStep bs k (tkTo bs (f, ⟨p, 0⟩) k) := rfl
    rw [e]
    unfold tkStep
    rw [h1, hw]
    refine ⟨by rw [cornerBytes_succ, List.length_append, Nat.add_assoc], fun r hr => ?_⟩
    simp only
    by_cases hrk : r = k
    · subst hrk
      rw [if_pos rfl, if_pos (by omega), h2 r hr, if_neg (by omega)]
      unfold dif
      omega
    · rw [if_neg hrk, h2 r hr]
      by_cases hlt : r < k
      · rw [if_pos hlt, if_pos (by omega)]
      · rw [if_neg hlt, if_neg (by omega)]
/-- All corners' numbers come back. -/
theorem cor_back {bs R : List UInt8} {x : Nat → Int} (hx : chkTri x = 0) {p : Nat} (h : bs.drop p = triBytes x 3 ++ R) :
    ∀ i, i ≤ 3 → (tkCor bs ⟨p, 0⟩ i).2 = ⟨p + (triBytes x i).length, 0⟩ ∧ ∀ r, r < 8 → (tkCor bs ⟨p, 0⟩ i).1 r = last x i r
  | 0, _ => ⟨by simp [tkCor, triBytes], fun r hr => by simp [tkCor, last]⟩
  | i + 1, hi => by
    obtain ⟨h1, h2⟩ := cor_back hx h i (by omega)
    obtain ⟨T, hT⟩ := tri_pre x (3 - (i + 1)) (i + 1)
    rw [show i + 1 + (3 - (i + 1)) = 3 by omega, triBytes_succ x i, List.append_assoc] at hT
    have hd : bs.drop (p + (triBytes x i).length) = cornerBytes x i 8 ++ (T ++ R) := drop_more (by rw [h, hT, List.append_assoc, List.append_assoc])
    obtain ⟨f, hf⟩ : ∃ f, (tkCor bs ⟨p, 0⟩ i).1 = f := ⟨_, rfl⟩
    have e : tkCor bs ⟨p, 0⟩ (i + 1) = tkTo bs (f, ⟨p + (triBytes x i).length, 0⟩) 8 := by
      show tkTo bs (tkCor bs ⟨p, 0⟩ i) 8 = _
      rw [← hf, ← h1]
    obtain ⟨g1, g2⟩ := to_back hx (show i < 3 by omega) (f := f) (fun r hr => by rw [← hf]; exact h2 r hr) hd 8 (Nat.le_refl _)
    rw [e]
    refine ⟨by rw [g1, triBytes_succ, List.length_append, Nat.add_assoc], fun r hr => ?_⟩
    rw [g2 r hr, if_pos hr]
    simp [last]
theorem same_of_num {x y : Nat → Int} (h : ∀ i, i < 3 → ∀ k, k < 8 → num y i k = num x i k) : same24 y x := by
  unfold same24 q4
  exact ⟨⟨⟨h 0 (by omega) 0 (by omega), h 0 (by omega) 1 (by omega)⟩, ⟨h 1 (by omega) 0 (by omega), h 1 (by omega) 1 (by omega)⟩, ⟨h 2 (by omega) 0 (by omega), h 2 (by omega) 1 (by omega)⟩⟩,
    ⟨h 0 (by omega) 2 (by omega), h 1 (by omega) 2 (by omega), h 2 (by omega) 2 (by omega)⟩, ⟨h 0 (by omega) 3 (by omega), h 1 (by omega) 3 (by omega), h 2 (by omega) 3 (by omega)⟩,
    ⟨⟨h 0 (by omega) 4 (by omega), h 0 (by omega) 5 (by omega), h 0 (by omega) 6 (by omega), h 0 (by omega) 7 (by omega)⟩, ⟨h 1 (by omega) 4 (by omega), h 1 (by omega) 5 (by omega), h 1 (by omega) 6 (by omega), h 1 (by omega) 7 (by omega)⟩, ⟨h 2 (by omega) 4 (by omega), h 2 (by omega) 5 (by omega), h 2 (by omega) 6 (by omega), h 2 (by omega) 7 (by omega)⟩⟩⟩
/-- What was put comes back. -/
theorem tk_back {bs R : List UInt8} {i : Nat} {a : Int} {s : Bool} {x : Nat → Int} (hc : chkRec a s x = 0) (h : bs.drop i = recBytes a s x ++ R) :
    tkEnd bs ⟨i, 0⟩ = ⟨i + (recBytes a s x).length, 0⟩ ∧ recRow (gotA bs ⟨i, 0⟩) (gotS bs ⟨i, 0⟩) (gotX bs ⟨i, 0⟩) = recRow a s x := by
  obtain ⟨ha, ht, hf⟩ := chkRec_ok hc
  have key : tkDraw bs ⟨i, 0⟩ = a → tkSome bs ⟨i, 0⟩ = s → x24 (tkXs bs ⟨i, 0⟩) = x24 x → tkRs bs ⟨i, 0⟩ = ⟨i + (recBytes a s x).length, 0⟩ →
      tkEnd bs ⟨i, 0⟩ = ⟨i + (recBytes a s x).length, 0⟩ ∧ recRow (gotA bs ⟨i, 0⟩) (gotS bs ⟨i, 0⟩) (gotX bs ⟨i, 0⟩) = recRow a s x := fun k1 k2 k3 k4 => by
    have hck : chkRec (tkDraw bs ⟨i, 0⟩) (tkSome bs ⟨i, 0⟩) (tkXs bs ⟨i, 0⟩) = 0 := by rw [k1, k2, ← chk24, k3, chk24]; exact hc
    have he : tkEnd bs ⟨i, 0⟩ = ⟨i + (recBytes a s x).length, 0⟩ := by unfold tkEnd; rw [k4, if_pos rfl, if_neg (by simpa using hck)]
    refine ⟨he, ?_⟩
    unfold gotA gotS gotX
    rw [he, if_pos rfl, if_pos rfl, if_pos rfl, k1, k2, ← rec24, k3, rec24]
  cases s with
  | false =>
    have hr : recBytes a false x = encN (2 * a).toNat := rfl
    rw [hr] at h
    have hn := rCount_enc (most := 63) h (by omega) (by omega)
    have hm : (2 * a).toNat % 2 = 0 := by omega
    have hsm : tkSome bs ⟨i, 0⟩ = false := by unfold tkSome; rw [hn]; simp [hm]
    refine key (by unfold tkDraw; rw [hn]; show (((2 * a).toNat / 2 : Nat) : Int) = a; omega) hsm ?_ ?_
    · unfold tkXs
      rw [if_neg (by rw [hsm]; decide)]
      have hz := hf rfl
      unfold zero24 at hz
      exact (x24_eq hz).symm
    · unfold tkRs
      rw [if_neg (by rw [hsm]; decide), hn, hr]
  | true =>
    have hr : recBytes a true x = encN (2 * a + 1).toNat ++ triBytes x 3 := rfl
    rw [hr, List.append_assoc] at h
    have hn := rCount_enc (most := 63) h (by omega) (by omega)
    have hm : (2 * a + 1).toNat % 2 = 1 := by omega
    have hsm : tkSome bs ⟨i, 0⟩ = true := by unfold tkSome; rw [hn]; simp [hm]
    have hd := drop_more h
    have hb := cor_back (ht rfl) hd
    refine key (by unfold tkDraw; rw [hn]; show (((2 * a + 1).toNat / 2 : Nat) : Int) = a; omega) hsm ?_ ?_
    · unfold tkXs
      rw [if_pos hsm, hn]
      refine x24_eq (same_of_num (fun j hj k hk => ?_))
      have e1 : num (tkTri bs ⟨i + (encN (2 * a + 1).toNat).length, 0⟩) j k = (tkCor bs ⟨i + (encN (2 * a + 1).toNat).length, 0⟩ (j + 1)).1 k := num_tk _ hj hk
      rw [e1, (hb (j + 1) (by omega)).2 k hk]
      simp [last]
    · unfold tkRs
      rw [if_pos hsm, hn]
      show (tkCor bs ⟨i + (encN (2 * a + 1).toNat).length, 0⟩ 3).2 = _
      rw [(hb 3 (Nat.le_refl _)).1, hr, List.length_append, Nat.add_assoc]
end Go.Proofs.Ytmholpploaecgaa
