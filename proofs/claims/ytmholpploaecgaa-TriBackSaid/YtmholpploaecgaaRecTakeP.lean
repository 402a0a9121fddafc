/-
  A record, taken out of bytes (plain).
-/
import Derived.Test.YtmholpploaecgaaRecPut
import Derived.Test.YtmholpploaecgaaWireTook
import Derived.Test.YtmholpploaecgaaWireBackP
import Derived.Test.YtmholpploaecgaaWireEnc
namespace Go.Proofs.Ytmholpploaecgaa
open Go.RowKit

/-- One number more: added to the k-th of those that were taken last. -/
def tkStep (bs : List UInt8) (k : Nat) (q : (Nat → Int) × Rs) : (Nat → Int) × Rs :=
  (fun r => if r = k then q.1 k + (rWithin bs q.2 (-1048576) 1048576).1 else q.1 r, (rWithin bs q.2 (-1048576) 1048576).2)
/-- Behind k numbers of a corner. -/
def tkTo (bs : List UInt8) (q : (Nat → Int) × Rs) : Nat → (Nat → Int) × Rs
  | 0 => q
  | k + 1 => tkStep bs k (tkTo bs q k)
/-- Behind i corners. -/
def tkCor (bs : List UInt8) (s : Rs) : Nat → (Nat → Int) × Rs
  | 0 => (fun _ => 0, s)
  | i + 1 => tkTo bs (tkCor bs s i) 8
/-- The triangle's cells: out of what was taken of each corner. -/
def tkX (f : Nat → Nat → Int) (n : Nat) : Int :=
  if n < 6 then f (n / 2) (n % 2) else if n < 9 then f (n - 6) 2 else if n < 12 then f (n - 9) 3 else f ((n - 12) / 4) (4 + (n - 12) % 4)
def tkTri (bs : List UInt8) (s : Rs) : Nat → Int := tkX (fun i k => (tkCor bs s (i + 1)).1 k)
theorem num_tk (f : Nat → Nat → Int) {i k : Nat} (hi : i < 3) (hk : k < 8) : num (tkX f) i k = f i k := by
  rcases (show i = 0 ∨ i = 1 ∨ i = 2 by omega) with rfl | rfl | rfl <;> rcases (show k = 0 ∨ k = 1 ∨ k = 2 ∨ k = 3 ∨ k = 4 ∨ k = 5 ∨ k = 6 ∨ k = 7 by omega) with rfl | rfl | rfl | rfl | rfl | rfl | rfl | rfl <;> rfl
/-- What Take reads: the draw, whether there is a triangle, the triangle, and the reader behind it. -/
def tkDraw (bs : List UInt8) (s : Rs) : Int := ((rCount bs s 63).1 / 2 : Nat)
def tkSome (bs : List UInt8) (s : Rs) : Bool := (rCount bs s 63).1 % 2 == 1
def tkXs (bs : List UInt8) (s : Rs) : Nat → Int := if tkSome bs s = true then tkTri bs (rCount bs s 63).2 else fun _ => 0
def tkRs (bs : List UInt8) (s : Rs) : Rs := if tkSome bs s = true then (tkCor bs (rCount bs s 63).2 3).2 else (rCount bs s 63).2
def tkEnd (bs : List UInt8) (s : Rs) : Rs := if (tkRs bs s).err = 0 then (if chkRec (tkDraw bs s) (tkSome bs s) (tkXs bs s) ≠ 0 then rFail (tkRs bs s) (chkRec (tkDraw bs s) (tkSome bs s) (tkXs bs s)) else tkRs bs s) else tkRs bs s

theorem tkTo_bd (bs : List UInt8) (q : (Nat → Int) × Rs) (m : Int) (h : ∀ r, -m ≤ q.1 r ∧ q.1 r ≤ m) : ∀ k r, -(m + 1048576) ≤ (tkTo bs q k).1 r ∧ (tkTo bs q k).1 r ≤ m + 1048576 := by
  have key : ∀ k, (∀ r, r < k → -(m + 1048576) ≤ (tkTo bs q k).1 r ∧ (tkTo bs q k).1 r ≤ m + 1048576) ∧ ∀ r, k ≤ r → (tkTo bs q k).1 r = q.1 r := by
    intro k
    induction k with
    | zero => exact ⟨fun r hr => by omega, fun _ _ => rfl⟩
    | succ k ih =>
      have hw : -1048576 ≤ (rWithin bs (tkTo bs q k).2 (-1048576) 1048576).1 ∧ (rWithin bs (tkTo bs q k).2 (-1048576) 1048576).1 ≤ 1048576 := by
        by_cases he : (rWithin bs (tkTo bs q k).2 (-1048576) 1048576).2.err = 0
        · exact within_in _ _ he
        · unfold rWithin at he ⊢
          simp only at he ⊢
          rw [if_neg he]; omega
      refine ⟨fun r hr => ?_, fun r hr => ?_⟩
      · simp only [tkTo, tkStep]
        split
        · rw [ih.2 k (Nat.le_refl _)]; have := h k; omega
        · exact ih.1 r (by omega)
      · simp only [tkTo, tkStep]
        rw [if_neg (by omega), ih.2 r (by omega)]
  intro k r
  by_cases hr : r < k
  · exact (key k).1 r hr
  · rw [(key k).2 r (by omega)]; have := h r; omega
theorem tkCor_bd (bs : List UInt8) (s : Rs) : ∀ (i : Nat) (r : Nat), -(1048576 * (i : Int)) ≤ (tkCor bs s i).1 r ∧ (tkCor bs s i).1 r ≤ 1048576 * (i : Int)
  | 0, r => by simp [tkCor]
  | i + 1, r => by
    have := tkTo_bd bs (tkCor bs s i) (1048576 * (i : Int)) (tkCor_bd bs s i) 8 r
    simp only [tkCor]
    omega

theorem tkTo_above (bs : List UInt8) (q : (Nat → Int) × Rs) : ∀ k r, k ≤ r → (tkTo bs q k).1 r = q.1 r
  | 0, _, _ => rfl
  | k + 1, r, h => by simp only [tkTo, tkStep]; rw [if_neg (by omega), tkTo_above bs q k r (by omega)]
theorem tkTo_below (bs : List UInt8) (q : (Nat → Int) × Rs) (k r : Nat) (h : r < k) : (tkTo bs q (k + 1)).1 r = (tkTo bs q k).1 r := by
  simp only [tkTo, tkStep]; rw [if_neg (by omega)]
def incBytes (f g : Nat → Int) (k : Nat) : List UInt8 := ((List.range k).map (fun r => encN (zig (f r - g r)))).flatten
theorem incBytes_succ (f g : Nat → Int) (k : Nat) : incBytes f g (k + 1) = incBytes f g k ++ encN (zig (f k - g k)) := by simp [incBytes, List.range_succ]
theorem incBytes_congr {f f' g : Nat → Int} {k : Nat} (h : ∀ r, r < k → f r = f' r) : incBytes f g k = incBytes f' g k := by
  unfold incBytes
  congr 1
  exact List.map_congr_left (fun r hr => by rw [h r (List.mem_range.1 hr)])
theorem tkTo_ok {bs : List UInt8} (q : (Nat → Int) × Rs) (hq : q.2.at_ ≤ bs.length) : ∀ k, (tkTo bs q k).2.at_ ≤ bs.length ∧ ((tkTo bs q k).2.err = 0 → q.2.err = 0 ∧ q.2.at_ ≤ (tkTo bs q k).2.at_ ∧ incBytes (tkTo bs q k).1 q.1 k = part bs q.2.at_ (tkTo bs q k).2.at_)
  | 0 => ⟨hq, fun h => ⟨h, Nat.le_refl _, by simp [incBytes, tkTo, part_self]⟩⟩
  | k + 1 => by
    obtain ⟨h1, h2⟩ := tkTo_ok q hq k
    have t := took_within (bs := bs) (s := (tkTo bs q k).2) (-1048576) 1048576 h1
    refine ⟨t.far, fun h => ?_⟩
    obtain ⟨e1, e2, e3⟩ := t.ok h
    obtain ⟨e4, e5, e6⟩ := h2 e1
    refine ⟨e4, Nat.le_trans e5 (Nat.le_of_lt e2), ?_⟩
    rw [incBytes_succ, incBytes_congr (fun r hr => tkTo_below bs q k r hr), e6]
    have : (tkTo bs q (k + 1)).1 k - q.1 k = (rWithin bs (tkTo bs q k).2 (-1048576) 1048576).1 := by
      simp only [tkTo, tkStep, if_true]
      rw [tkTo_above bs q k k (Nat.le_refl _)]; omega
    rw [this, e3]
    exact part_part bs _ _ _ e5 (Nat.le_of_lt e2) t.far
theorem tkCor_ok {bs : List UInt8} {s : Rs} (hs : s.at_ ≤ bs.length) : ∀ i, i ≤ 3 → (tkCor bs s i).2.at_ ≤ bs.length ∧ ((tkCor bs s i).2.err = 0 → s.err = 0 ∧ s.at_ ≤ (tkCor bs s i).2.at_ ∧ triBytes (tkTri bs s) i = part bs s.at_ (tkCor bs s i).2.at_)
  | 0, _ => ⟨hs, fun h => ⟨h, Nat.le_refl _, by simp [triBytes, tkCor, part_self]⟩⟩
  | i + 1, hi => by
    obtain ⟨h1, h2⟩ := tkCor_ok hs i (by omega)
    obtain ⟨h3, h4⟩ := tkTo_ok (tkCor bs s i) h1 8
    refine ⟨h3, fun h => ?_⟩
    obtain ⟨e1, e2, e3⟩ := h4 h
    obtain ⟨e4, e5, e6⟩ := h2 e1
    refine ⟨e4, Nat.le_trans e5 e2, ?_⟩
    rw [triBytes_succ, e6]
    have : cornerBytes (tkTri bs s) i 8 = incBytes (tkTo bs (tkCor bs s i) 8).1 (tkCor bs s i).1 8 := by
      unfold cornerBytes incBytes
      congr 1
      refine List.map_congr_left (fun r hr => ?_)
      have hr8 := List.mem_range.1 hr
      have a1 : num (tkTri bs s) i r = (tkTo bs (tkCor bs s i) 8).1 r := num_tk _ (by omega) hr8
      have a2 : last (tkTri bs s) i r = (tkCor bs s i).1 r := by
        unfold last
        split
        · rename_i h0; subst h0; rfl
        · have := num_tk (fun i k => (tkCor bs s (i + 1)).1 k) (i := i - 1) (k := r) (by omega) hr8
          unfold tkTri
          rw [this, show i - 1 + 1 = i by omega]
      unfold dif
      rw [a1, a2]
    rw [this, e3]
    exact part_part bs _ _ _ e5 e2 h3
end Go.Proofs.Ytmholpploaecgaa
