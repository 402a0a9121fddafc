/-
  The reader of bytes: what it is in memory, what it tells (plain), and its calls.
-/
import Derived.Test.YtmholpploaecgaaWire
import Derived.BigRegion
import Derived.BigQuiet
import Derived.Deep.QuietTactic
import Derived.OpenShut
namespace Go.Proofs.Ytmholpploaecgaa
open Go.RowKit

/-- How far a reader is, and its error. -/
structure Rs where
  at_ : Nat
  err : Int
def rFail (s : Rs) (e : Int) : Rs := if s.err = 0 then ⟨s.at_, e⟩ else s
def rLeft (bs : List UInt8) (s : Rs) : Nat := if s.err = 0 then bs.length - s.at_ else 0
def rByte (bs : List UInt8) (s : Rs) : Nat × Rs := if rLeft bs s = 0 then (0, rFail s 3) else ((bs.getD s.at_ 0).toNat, ⟨s.at_ + 1, s.err⟩)

/-- A reader in block g of the bytes bs; S: its blocks. -/
def Rd (w : World) (g : Nat) (S : List Nat) (bs : List UInt8) (s : Rs) : Prop :=
  ∃ T a cap, w.heap[g]? = some (.cells #[.slice a bs.length cap, .int .i64 s.at_, .int .i64 s.err] T (0, 0)) ∧ Bytes w a bs.length cap bs ∧ (∀ p, a = some p → p.block ≠ g ∧ p.block ∈ S) ∧ g ∈ S ∧ s.at_ ≤ bs.length ∧ bs.length ≤ 1000000

theorem Rd.fr {S S' : List Nat} {w w' : World} {g : Nat} {bs : List UInt8} {s : Rs} (h : Rd w g S bs s) (hf : Fr S' w w') (hn : ∀ k ∈ S, k ∉ S') : Rd w' g S bs s := by
  obtain ⟨T, a, cap, h1, h2, h3, h4, h5⟩ := h
  exact ⟨T, a, cap, hf.heap h1 (hn _ h4), Sl.fr h2 hf (fun p hp => hn _ (h3 p hp).2), h3, h4, h5⟩
theorem Rd.len {S : List Nat} {w : World} {g : Nat} {bs : List UInt8} {s : Rs} (h : Rd w g S bs s) : bs.length ≤ 1000000 := by
  obtain ⟨T, a, cap, h1, h2, h3, h4, h5, h6⟩ := h
  exact h6
theorem Rd.drewN {S : List Nat} {w : World} {g : Nat} {bs : List UInt8} {s : Rs} (h : Rd w g S bs s) (n : Nat) : Rd (w.drewN n) g S bs s := h.fr (S' := []) ((Fr.refl _ _).drewN n) (fun _ _ h => by cases h)

/-- A store into the reader's second or third cell. -/
theorem Rd.set {S : List Nat} {w : World} {g : Nat} {bs : List UInt8} {T : TypeId} {a : Option Addr} {cap : Nat} {x y : Value} (s' : Rs) (h1 : w.heap[g]? = some (.cells #[.slice a bs.length cap, x, y] T (0, 0))) (h2 : Bytes w a bs.length cap bs)
    (h3 : ∀ p, a = some p → p.block ≠ g ∧ p.block ∈ S) (h4 : g ∈ S) (h5 : s'.at_ ≤ bs.length) (h6 : bs.length ≤ 1000000) (i : Nat) (u : Value)
    (hc : (#[.slice a bs.length cap, x, y] : Array Value).setIfInBounds i u = #[.slice a bs.length cap, .int .i64 s'.at_, .int .i64 s'.err]) :
    Rd (w.setCell ⟨g, i, none⟩ u) g S bs s' ∧ Fr [g] w (w.setCell ⟨g, i, none⟩ u) := by
  have hf : Fr [g] w (w.setCell ⟨g, i, none⟩ u) := Fr.set (Fr.refl _ _) _ (.inl (by simp)) _
  refine ⟨⟨T, a, cap, ?_, Sl.fr h2 hf (fun p hp => by simpa using (h3 p hp).1), h3, h4, h5, h6⟩, hf⟩
  rw [← hc]
  exact heap_set h1 rfl u

theorem rfail_calls {w : World} {g : Nat} {S : List Nat} {bs : List UInt8} {s : Rs} (h : Rd w g S bs s) (e : Int) :
    Calls Try.prog 32 #[.pointer (some ⟨g, 0, none⟩), .int .i64 e] w fun x w' => x = .returned (.tuple #[]) ∧ Rd w' g S bs (rFail s e) ∧ Fr [g] w w' := by
  obtain ⟨sat, serr⟩ := s
  have h0 := h
  obtain ⟨T, a, cap, h1, h2, h3, h4, h5, h6⟩ := h
  have c2 := cell_at h1 2
  have f2 := free_at h1 2
  have lt := heap_lt h1
  by_cases hs : serr = 0
  · subst hs
    have HE : Hid (rFail ⟨sat, 0⟩ e = ⟨sat, e⟩) := rfl
    go_enter Try.func32, Try.ntmps32
    go_wp2
    go_end0
    rw [HE.out]
    exact ⟨rfl, Rd.set ⟨sat, e⟩ h1 h2 h3 h4 h5 h6 2 _ rfl⟩
  · have HE : Hid (rFail ⟨sat, serr⟩ e = ⟨sat, serr⟩) := by show _ = _; unfold rFail; rw [if_neg hs]
    have b0 : (serr == 0) = false := by rw [beq_eq_false_iff_ne]; exact hs
    clear hs
    go_enter Try.func32, Try.ntmps32
    go_wp2
    go_end0
    rw [HE.out]
    exact ⟨rfl, h0, Fr.refl _ _⟩

theorem rerr_calls {w : World} {g : Nat} {S : List Nat} {bs : List UInt8} {s : Rs} (h : Rd w g S bs s) :
    Calls Try.prog 19 #[.pointer (some ⟨g, 0, none⟩)] w fun x w' => x = .returned (.int .i64 s.err) ∧ w' = w := by
  obtain ⟨T, a, cap, h1, h2, h3, h4, h5, h6⟩ := h
  have c2 := cell_at h1 2
  go_enter Try.func19, Try.ntmps19
  go_wp2
  go_ret
  exact ⟨rfl, rfl⟩

theorem rat_calls {w : World} {g : Nat} {S : List Nat} {bs : List UInt8} {s : Rs} (h : Rd w g S bs s) :
    Calls Try.prog 20 #[.pointer (some ⟨g, 0, none⟩)] w fun x w' => x = .returned (.int .i64 s.at_) ∧ w' = w := by
  obtain ⟨T, a, cap, h1, h2, h3, h4, h5, h6⟩ := h
  have c1 := cell_at h1 1
  go_enter Try.func20, Try.ntmps20
  go_wp2
  go_ret
  exact ⟨rfl, rfl⟩

theorem rleft_calls {w : World} {g : Nat} {S : List Nat} {bs : List UInt8} {s : Rs} (h : Rd w g S bs s) :
    Calls Try.prog 40 #[.pointer (some ⟨g, 0, none⟩)] w fun x w' => x = .returned (.int .i64 (rLeft bs s)) ∧ ∃ q, w' = w.drewN q := by
  obtain ⟨sat, serr⟩ := s
  obtain ⟨T, a, cap, h1, h2, h3, h4, h5, h6⟩ := h
  have c0 := cell_at h1 0
  have c1 := cell_at h1 1
  have c2 := cell_at h1 2
  simp only at h5
  by_cases hs : serr = 0
  · subst hs
    have HE : Hid ((rLeft bs ⟨sat, 0⟩ : Nat) = (bs.length : Int) - (sat : Int)) := by show _ = _; unfold rLeft; rw [if_pos rfl]; simp only; omega
    go_enter Try.func40, Try.ntmps40
    go_wp2
    go_quiet (fail)
    go_wp2
    go_ret
    exact ⟨by rw [HE.out]; rfl, _, rfl⟩
  · have HE : Hid (rLeft bs ⟨sat, serr⟩ = 0) := by show _ = _; unfold rLeft; rw [if_neg hs]
    have b0 : (serr != 0) = true := by rw [bne_iff_ne]; exact hs
    clear hs
    go_enter Try.func40, Try.ntmps40
    go_wp2
    go_ret
    exact ⟨by rw [HE.out]; rfl, 0, rfl⟩

set_option maxRecDepth 10000 in
set_option maxHeartbeats 1000000 in
theorem rbyte_calls {w : World} {g : Nat} {S : List Nat} {bs : List UInt8} {s : Rs} (h : Rd w g S bs s) :
    Calls Try.prog 39 #[.pointer (some ⟨g, 0, none⟩)] w fun x w' => x = .returned (.int .u8 ((rByte bs s).1 : Nat)) ∧ Rd w' g S bs (rByte bs s).2 ∧ Fr [g] w w' := by
  by_cases hs : rLeft bs s = 0
  · have HE : Hid (rByte bs s = (0, rFail s 3)) := by show _ = _; unfold rByte; rw [if_pos hs]
    go_enter Try.func39, Try.ntmps39
    go_wp2_with (first
      | (go_at_call 40; refine (rleft_calls h).mono ?_; rintro x w1 ⟨rfl, q, rfl⟩; rw [hs])
      | (go_at_call 32; refine (rfail_calls (h.drewN q) 3).mono ?_; rintro x w2 ⟨rfl, hr, hf⟩))
    go_ret
    rw [HE.out]
    exact ⟨rfl, hr, Fr.trans ((Fr.refl _ _).drewN q) hf (Grows.refl _ _)⟩
  · obtain ⟨sat, serr⟩ := s
    have he : serr = 0 := by
      unfold rLeft at hs
      by_cases h0 : serr = 0
      · exact h0
      · rw [if_neg h0] at hs; exact absurd rfl hs
    subst he
    have hl : sat < bs.length := by
      unfold rLeft at hs; rw [if_pos rfl] at hs; simp only at hs; omega
    have HE : Hid (rByte bs ⟨sat, 0⟩ = ((bs.getD sat 0).toNat, ⟨sat + 1, 0⟩)) := by show _ = _; unfold rByte; rw [if_neg hs]
    have b0 : (((rLeft bs ⟨sat, 0⟩ : Nat) : Int) == 0) = false := by rw [beq_eq_false_iff_ne]; omega
    go_enter Try.func39, Try.ntmps39
    go_wp2_with (first
      | (go_at_call 40; refine (rleft_calls h).mono ?_; rintro x w1 ⟨rfl, q, rfl⟩; obtain ⟨T, a, cap, h1, h2, h3, h4, h5, h6⟩ := h.drewN q; have c0 := cell_at h1 0; have c1 := cell_at h1 1; have f1 := free_at h1 1))
    obtain ⟨hr, hf⟩ := Rd.set ⟨sat + 1, 0⟩ h1 h2 h3 h4 hl h6 1 (.int .i64 ((sat : Int) + 1)) (by simp)
    have HR := hr
    obtain ⟨T', a', cap', g1, g2, g3, g4, g5, g6⟩ := hr
    obtain ⟨b, off, rfl, k0⟩ := g2.at sat hl
    have k1 := cell_at g1 0
    have k2 := cell_at g1 1
    have hle := Sl.le g2
    have hbig := Sl.big g2
    obtain ⟨y, hy⟩ : ∃ y, y = (bs[sat].toNat : Int) := ⟨_, rfl⟩
    rw [← hy] at k0
    have HY : Hid (((bs.getD sat 0).toNat : Int) = y) := by show _ = _; rw [hy]; simp [List.getD, hl]
    clear hy g1 g2 g3 g4 g5 g6 h1 h2 h3 h4 h5 h6 c0 c1 f1
    obtain ⟨w3, hw3⟩ : ∃ w3, w3 = (w.drewN q).setCell ⟨g, 1, none⟩ (.int .i64 ((sat : Int) + 1)) := ⟨_, rfl⟩
    rw [← hw3] at HR hf k0 k1 k2 ⊢
    clear hw3
    have n1 : (sat : Int) < (bs.length : Int) := by omega
    have n2 : IntKind.i64.wrap ((sat : Int) + 1 - 1) = (sat : Int) := by rw [IntWalk.i64_in _ (by omega)]; omega
    have n3 : IntKind.i64.wrap (((sat + 1 : Nat) : Int) - 1) = (sat : Int) := by rw [IntWalk.i64_in _ (by omega)]; omega
    have n4 : (0 : Int) ≤ (sat : Int) := by omega
    go_quiet (fail)
    go_wp2
    go_ret
    rw [HE.out]
    exact ⟨by rw [HY.out]; rfl, HR.drewN _, Fr.trans ((Fr.refl _ _).drewN q) (hf.drewN _) (Grows.refl _ _)⟩
end Go.Proofs.Ytmholpploaecgaa
