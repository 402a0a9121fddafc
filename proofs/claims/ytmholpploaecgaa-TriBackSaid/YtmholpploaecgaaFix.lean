/-
  fix.Within; edge's near, Side, Area.
-/
import Derived.Test.YtmholpploaecgaaRows
import Derived.Test.YtmholpploaecgaaFr
import Derived.BigRegion
import Derived.BigQuiet
import Derived.Deep.QuietTactic
import Derived.Deep.RegionHeld
import Derived.WalkLawsBesides
import Derived.Outline
namespace Go.Proofs.Ytmholpploaecgaa
open Go.RowKit
set_option linter.unusedVariables false

theorem hid1 {P : Prop} (h : P) : Hid P := h
def clampTo (n m : Int) : Int := max (min n m) (-m)
theorem clampTo_in {n m : Int} (h : 0 ≤ m) : -m ≤ clampTo n m ∧ clampTo n m ≤ m := by unfold clampTo; omega
theorem within_fix (n m : Int) (h : -9223372036854775807 ≤ m ∧ m ≤ 9223372036854775807) (w : World) :
    Calls Try.prog 25 #[.int .i64 n, .int .i64 m] w fun e w' => e = .returned (.int .i64 (clampTo n m)) ∧ w = w' := by
  have q0 : IntKind.i64.wrap (-m) = -m := IntWalk.i64_in _ (by omega)
  by_cases h1 : m < n
  · by_cases h2 : m < -m
    · have HE : Hid (clampTo n m = -m) := by show _ = _; unfold clampTo; omega
      go_enter Try.func25, Try.ntmps25
      go_wp2
      go_ret
      rw [HE.out]; exact ⟨rfl, rfl⟩
    · have HE : Hid (clampTo n m = m) := by show _ = _; unfold clampTo; omega
      go_enter Try.func25, Try.ntmps25
      go_wp2
      go_ret
      rw [HE.out]; exact ⟨rfl, rfl⟩
  · by_cases h2 : n < -m
    · have HE : Hid (clampTo n m = -m) := by show _ = _; unfold clampTo; omega
      go_enter Try.func25, Try.ntmps25
      go_wp2
      go_ret
      rw [HE.out]; exact ⟨rfl, rfl⟩
    · have HE : Hid (clampTo n m = n) := by show _ = _; unfold clampTo; omega
      go_enter Try.func25, Try.ntmps25
      go_wp2
      go_ret
      rw [HE.out]; exact ⟨rfl, rfl⟩

def near (n : Int) : Int := clampTo n 16384
theorem near_in (n : Int) : -16384 ≤ near n ∧ near n ≤ 16384 := clampTo_in (by decide)
set_option maxRecDepth 10000 in
theorem near_calls (x y : Int) (w : World) :
    Calls Try.prog 38 #[.agg #[.int .i64 x, .int .i64 y]] w fun e w' => e = .returned (.agg #[.int .i64 (near x), .int .i64 (near y)]) ∧ Below w.heap.size w w' := by
  go_enter Try.func38, Try.ntmps38
  go_wp2
  go_region_held (fun w' => w'.cell? ⟨w.heap.size, 0, none⟩ = some (.int .i64 x) ∧ w'.cell? ⟨w.heap.size, 1, none⟩ = some (.int .i64 y)) (go_keep)
    (first | (go_at_call 25; refine (within_fix _ 16384 (by decide) _).mono ?_; rintro e w3 ⟨rfl, rfl⟩))
  all_goals
    go_wp2
    exact bodyPost_ret (v := .agg #[.int .i64 (near x), .int .i64 (near y)]) (by simp [results, Try.results38, go_sem]; exact ⟨rfl, rfl⟩) rfl ⟨rfl, (((Below.refl _ _).alloc (Nat.le_refl _) _).alloc (by simp) _).drew⟩
/-- A point that isn't too far from 0. -/
def Close (x : Int) : Prop := -16384 ≤ x ∧ x ≤ 16384
instance (x : Int) : Decidable (Close x) := inferInstanceAs (Decidable (_ ∧ _))
theorem near_id {x : Int} (h : Close x) : near x = x := by unfold Close at h; unfold near clampTo; omega
theorem near_at {x y : Int} (hx : Close x) (hy : Close y) (w : World) :
    Calls Try.prog 38 #[.agg #[.int .i64 x, .int .i64 y]] w fun e w' => e = .returned (.agg #[.int .i64 x, .int .i64 y]) ∧ Below w.heap.size w w' := by
  have := near_calls x y w
  rw [near_id hx, near_id hy] at this
  exact this
def side (ax ay bx by' cx cy : Int) : Int := (bx - ax) * (cy - ay) - (by' - ay) * (cx - ax)

/-- Three points, each in a block of its own. -/
def Trio (w : World) (B : Nat) (ax ay bx by' cx cy : Int) : Prop :=
  w.heap[B]? = some (.cells #[.int .i64 ax, .int .i64 ay] 33 (0, 0)) ∧ w.heap[B + 1]? = some (.cells #[.int .i64 bx, .int .i64 by'] 33 (0, 0)) ∧ w.heap[B + 1 + 1]? = some (.cells #[.int .i64 cx, .int .i64 cy] 33 (0, 0))
theorem Trio.all {w : World} {B : Nat} {ax ay bx by' cx cy : Int} (h : Trio w B ax ay bx by' cx cy) : Trio w B ax ay bx by' cx cy ∧
    (w.cell? ⟨B, 0, none⟩ = some (.int .i64 ax) ∧ w.cell? ⟨B, 1, none⟩ = some (.int .i64 ay) ∧ w.cell? ⟨B + 1, 0, none⟩ = some (.int .i64 bx) ∧ w.cell? ⟨B + 1, 1, none⟩ = some (.int .i64 by') ∧ w.cell? ⟨B + 1 + 1, 0, none⟩ = some (.int .i64 cx) ∧ w.cell? ⟨B + 1 + 1, 1, none⟩ = some (.int .i64 cy)) ∧
    w.frozen? ⟨B, 0, none⟩ = false ∧ w.frozen? ⟨B, 1, none⟩ = false ∧ w.frozen? ⟨B + 1, 0, none⟩ = false ∧ w.frozen? ⟨B + 1, 1, none⟩ = false ∧ w.frozen? ⟨B + 1 + 1, 0, none⟩ = false ∧ w.frozen? ⟨B + 1 + 1, 1, none⟩ = false := by
  obtain ⟨h1, h2, h3⟩ := h
  exact ⟨⟨h1, h2, h3⟩, ⟨cell_at h1 0, cell_at h1 1, cell_at h2 0, cell_at h2 1, cell_at h3 0, cell_at h3 1⟩, free_at h1 0, free_at h1 1, free_at h2 0, free_at h2 1, free_at h3 0, free_at h3 1⟩
theorem Trio.below {w w' : World} {B : Nat} {ax ay bx by' cx cy : Int} (h : Trio w B ax ay bx by' cx cy) (hb : Below w.heap.size w w') : Trio w' B ax ay bx by' cx cy := by
  obtain ⟨h1, h2, h3⟩ := h
  have f := Fr.ofBelow hb
  exact ⟨f.heap h1 (by simp), f.heap h2 (by simp), f.heap h3 (by simp)⟩
theorem Trio.put1 {w : World} {B : Nat} {ax ay bx by' cx cy : Int} (h : Trio w B ax ay bx by' cx cy) : Trio ((w.setCell ⟨B, 0, none⟩ (.int .i64 ax)).setCell ⟨B, 1, none⟩ (.int .i64 ay)) B ax ay bx by' cx cy := by
  obtain ⟨h1, h2, h3⟩ := h
  have a1 := heap_set (a := ⟨B, 0, none⟩) h1 rfl (.int .i64 ax)
  have a2 := heap_set (a := ⟨B, 1, none⟩) a1 rfl (.int .i64 ay)
  exact ⟨by simpa using a2, by rw [heap_set_ne _ (by simp), heap_set_ne _ (by simp)]; exact h2, by rw [heap_set_ne _ (by simp; omega), heap_set_ne _ (by simp; omega)]; exact h3⟩
theorem Trio.put2 {w : World} {B : Nat} {ax ay bx by' cx cy : Int} (h : Trio w B ax ay bx by' cx cy) : Trio ((w.setCell ⟨B + 1, 0, none⟩ (.int .i64 bx)).setCell ⟨B + 1, 1, none⟩ (.int .i64 by')) B ax ay bx by' cx cy := by
  obtain ⟨h1, h2, h3⟩ := h
  have a1 := heap_set (a := ⟨B + 1, 0, none⟩) h2 rfl (.int .i64 bx)
  have a2 := heap_set (a := ⟨B + 1, 1, none⟩) a1 rfl (.int .i64 by')
  exact ⟨by rw [heap_set_ne _ (by simp), heap_set_ne _ (by simp)]; exact h1, by simpa using a2, by rw [heap_set_ne _ (by simp), heap_set_ne _ (by simp)]; exact h3⟩
theorem Trio.put3 {w : World} {B : Nat} {ax ay bx by' cx cy : Int} (h : Trio w B ax ay bx by' cx cy) : Trio ((w.setCell ⟨B + 1 + 1, 0, none⟩ (.int .i64 cx)).setCell ⟨B + 1 + 1, 1, none⟩ (.int .i64 cy)) B ax ay bx by' cx cy := by
  obtain ⟨h1, h2, h3⟩ := h
  have a1 := heap_set (a := ⟨B + 1 + 1, 0, none⟩) h3 rfl (.int .i64 cx)
  have a2 := heap_set (a := ⟨B + 1 + 1, 1, none⟩) a1 rfl (.int .i64 cy)
  exact ⟨by rw [heap_set_ne _ (by simp; omega), heap_set_ne _ (by simp; omega)]; exact h1, by rw [heap_set_ne _ (by simp), heap_set_ne _ (by simp)]; exact h2, by simpa using a2⟩

theorem mul_bd {a b m n : Int} (ha : -m ≤ a ∧ a ≤ m) (hb : -n ≤ b ∧ b ≤ n) : -(m * n) ≤ a * b ∧ a * b ≤ m * n := by
  have hm : 0 ≤ m := by omega
  have hn : 0 ≤ n := by omega
  have key : ∀ x y : Int, 0 ≤ x → x ≤ m → 0 ≤ y → y ≤ n → 0 ≤ x * y ∧ x * y ≤ m * n := fun x y h1 h2 h3 h4 => ⟨Int.mul_nonneg h1 h3, Int.mul_le_mul h2 h4 h3 hm⟩
  rcases Int.le_total 0 a with h1 | h1 <;> rcases Int.le_total 0 b with h2 | h2
  · have := key a b h1 ha.2 h2 hb.2; omega
  · have := key a (-b) h1 ha.2 (by omega) (by omega); rw [Int.mul_neg] at this; omega
  · have := key (-a) b (by omega) (by omega) h2 hb.2; rw [Int.neg_mul] at this; omega
  · have := key (-a) (-b) (by omega) (by omega) (by omega) (by omega); rw [Int.neg_mul_neg] at this; omega
set_option maxRecDepth 10000 in
set_option maxHeartbeats 1000000 in
theorem side_calls {ax ay bx by' cx cy : Int} (h1 : Close ax) (h2 : Close ay) (h3 : Close bx) (h4 : Close by') (h5 : Close cx) (h6 : Close cy) (w : World) :
    Calls Try.prog 35 #[.agg #[.int .i64 ax, .int .i64 ay], .agg #[.int .i64 bx, .int .i64 by'], .agg #[.int .i64 cx, .int .i64 cy]] w fun e w' => e = .returned (.int .i64 (side ax ay bx by' cx cy)) ∧ Below w.heap.size w w' := by
  have H1 := hid1 h1
  have H2 := hid1 h2
  have H3 := hid1 h3
  have H4 := hid1 h4
  have H5 := hid1 h5
  have H6 := hid1 h6
  clear h1 h2 h3 h4 h5 h6
  go_enter Try.func35, Try.ntmps35
  go_wp2
  obtain ⟨B, hB⟩ : ∃ B, w.heap.size = B := ⟨_, rfl⟩
  have hp1 := heap_keep (heap_keep (heap_new w (.cells #[.int .i64 ax, .int .i64 ay] 33)) (.cells #[.int .i64 bx, .int .i64 by'] 33)) (.cells #[.int .i64 cx, .int .i64 cy] 33)
  have hp2 := heap_keep (heap_new (w.alloc (.cells #[.int .i64 ax, .int .i64 ay] 33)) (.cells #[.int .i64 bx, .int .i64 by'] 33)) (.cells #[.int .i64 cx, .int .i64 cy] 33)
  have hp3 := heap_new ((w.alloc (.cells #[.int .i64 ax, .int .i64 ay] 33)).alloc (.cells #[.int .i64 bx, .int .i64 by'] 33)) (.cells #[.int .i64 cx, .int .i64 cy] 33)
  have hb0 := (((Below.refl w.heap.size w).alloc (Nat.le_refl _) (.cells #[.int .i64 ax, .int .i64 ay] 33)).alloc (by simp) (.cells #[.int .i64 bx, .int .i64 by'] 33)).alloc (by simp; omega) (.cells #[.int .i64 cx, .int .i64 cy] 33)
  simp only [World.size_alloc, hB] at hp1 hp2 hp3
  rw [hB] at hb0 ⊢
  obtain ⟨W, hW⟩ : ∃ W, ((w.alloc (.cells #[.int .i64 ax, .int .i64 ay] 33)).alloc (.cells #[.int .i64 bx, .int .i64 by'] 33)).alloc (.cells #[.int .i64 cx, .int .i64 cy] 33) = W := ⟨_, rfl⟩
  rw [hW] at hp1 hp2 hp3 hb0 ⊢
  have ht0 : Trio W.drew B ax ay bx by' cx cy := Trio.below ⟨hp1, hp2, hp3⟩ (Below.refl _ _).drew
  have HB0 := hid1 (show Below B w W.drew from hb0.drew)
  have HC := hid1 (Below.refl W.drew.heap.size W.drew)
  have HBE := hid1 hB
  have HSZ := hid1 (show B ≤ W.drew.heap.size by rw [← hB]; exact hb0.size)
  clear hW hp1 hp2 hp3 hb0 hB
  go_region_held (fun w' => Trio w' B ax ay bx by' cx cy ∧ (w'.cell? ⟨B, 0, none⟩ = some (.int .i64 ax) ∧ w'.cell? ⟨B, 1, none⟩ = some (.int .i64 ay) ∧ w'.cell? ⟨B + 1, 0, none⟩ = some (.int .i64 bx) ∧ w'.cell? ⟨B + 1, 1, none⟩ = some (.int .i64 by') ∧ w'.cell? ⟨B + 1 + 1, 0, none⟩ = some (.int .i64 cx) ∧ w'.cell? ⟨B + 1 + 1, 1, none⟩ = some (.int .i64 cy)) ∧
    w'.frozen? ⟨B, 0, none⟩ = false ∧ w'.frozen? ⟨B, 1, none⟩ = false ∧ w'.frozen? ⟨B + 1, 0, none⟩ = false ∧ w'.frozen? ⟨B + 1, 1, none⟩ = false ∧ w'.frozen? ⟨B + 1 + 1, 0, none⟩ = false ∧ w'.frozen? ⟨B + 1 + 1, 1, none⟩ = false)
    (with_reducible first | exact Trio.all ht0 | exact Trio.all (Trio.below ht0 HC.out) | exact Trio.all (Trio.put1 (Trio.below ht0 HC.out)) | exact Trio.all (Trio.put2 (Trio.put1 (Trio.below ht0 HC.out))) | exact Trio.all (Trio.put3 (Trio.put2 (Trio.put1 (Trio.below ht0 HC.out)))))
    (first
      | (go_at_call 38; (with_reducible refine (near_at H1.out H2.out _).mono ?_); rintro e w3 ⟨rfl, hb1⟩; have HC := hid1 (HC.out.trans (hb1.mono HC.out.size)); clear hb1)
      | (go_at_call 38; (with_reducible refine (near_at H3.out H4.out _).mono ?_); rintro e w3 ⟨rfl, hb2⟩; have HC := hid1 (HC.out.trans (hb2.mono HC.out.size)); clear hb2)
      | (go_at_call 38; (with_reducible refine (near_at H5.out H6.out _).mono ?_); rintro e w3 ⟨rfl, hb3⟩; have HC := hid1 (HC.out.trans (hb3.mono HC.out.size)); clear hb3))
  all_goals
    obtain ⟨_, ⟨k0, k1, k2, k3, k4, k5⟩, _⟩ := Trio.all (Trio.put3 (Trio.put2 (Trio.put1 (Trio.below ht0 HC.out))))
    have hb9 := (((((((HB0.out.trans (HC.out.mono HSZ.out)).setCell (p := ⟨B, 0, none⟩) (Nat.le_refl _) (.int .i64 ax)).setCell (p := ⟨B, 1, none⟩) (Nat.le_refl _) (.int .i64 ay)).setCell (p := ⟨B + 1, 0, none⟩) (by simp) (.int .i64 bx)).setCell (p := ⟨B + 1, 1, none⟩) (by simp) (.int .i64 by')).setCell (p := ⟨B + 1 + 1, 0, none⟩) (by simp; omega) (.int .i64 cx)).setCell (p := ⟨B + 1 + 1, 1, none⟩) (by simp; omega) (.int .i64 cy))
    have HB9 := hid1 hb9
    clear ht0 hb9
    have h1 := H1.out
    have h2 := H2.out
    have h3 := H3.out
    have h4 := H4.out
    have h5 := H5.out
    have h6 := H6.out
    unfold Close at h1 h2 h3 h4 h5 h6
    have p1 := mul_bd (a := bx - ax) (b := cy - ay) (m := 32768) (n := 32768) (by omega) (by omega)
    have p2 := mul_bd (a := by' - ay) (b := cx - ax) (m := 32768) (n := 32768) (by omega) (by omega)
    have q1 : IntKind.i64.wrap ((bx - ax) * (cy - ay)) = (bx - ax) * (cy - ay) := IntWalk.i64_in _ (by omega)
    have q2 : IntKind.i64.wrap ((by' - ay) * (cx - ax)) = (by' - ay) * (cx - ax) := IntWalk.i64_in _ (by omega)
    have q3 : IntKind.i64.wrap ((bx - ax) * (cy - ay) - (by' - ay) * (cx - ax)) = (bx - ax) * (cy - ay) - (by' - ay) * (cx - ax) := IntWalk.i64_in _ (by omega)
    clear p1 p2
    go_wp2
    go_ret
    exact ⟨rfl, by rw [HBE.out]; exact HB9.out⟩
end Go.Proofs.Ytmholpploaecgaa
