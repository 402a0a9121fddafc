/-
  Records as bytes: Put.
-/
import Derived.Test.YtmholpploaecgaaTriNum
import Derived.Test.YtmholpploaecgaaWireNew
namespace Go.Proofs.Ytmholpploaecgaa
open Go.RowKit
set_option linter.unusedVariables false

theorem Try.infoRec : (Try.prog.info? 44).map (·.size) = some 26 := by kernel_rfl
def last (x : Nat → Int) (i k : Nat) : Int := if i = 0 then 0 else num x (i - 1) k
def dif (x : Nat → Int) (i k : Nat) : Int := num x i k - last x i k
def cornerBytes (x : Nat → Int) (i k : Nat) : List UInt8 := ((List.range k).map (fun r => encN (zig (dif x i r)))).flatten
def triBytes (x : Nat → Int) (i : Nat) : List UInt8 := ((List.range i).map (fun r => cornerBytes x r 8)).flatten
def recBytes (a : Int) (s : Bool) (x : Nat → Int) : List UInt8 := if s = true then encN (2 * a + 1).toNat ++ triBytes x 3 else encN (2 * a).toNat
theorem cornerBytes_succ (x : Nat → Int) (i k : Nat) : cornerBytes x i (k + 1) = cornerBytes x i k ++ encN (zig (dif x i k)) := by simp [cornerBytes, List.range_succ]
theorem triBytes_succ (x : Nat → Int) (i : Nat) : triBytes x (i + 1) = triBytes x i ++ cornerBytes x i 8 := by simp [triBytes, List.range_succ]
theorem num_bd {x : Nat → Int} (h : chkTri x = 0) {i k : Nat} (hi : i < 3) (hk : k < 8) : -65536 ≤ num x i k ∧ num x i k ≤ 65536 := by
  have hc : okC x i := by
    unfold chkTri at h
    split at h
    · rename_i h1
      rcases (show i = 0 ∨ i = 1 ∨ i = 2 by omega) with rfl | rfl | rfl
      · exact h1.1
      · exact h1.2.1
      · exact h1.2.2
    · omega
  unfold okC Close at hc
  unfold num
  rcases (show k = 0 ∨ k = 1 ∨ k = 2 ∨ k = 3 ∨ k = 4 ∨ k = 5 ∨ k = 6 ∨ k = 7 by omega) with rfl | rfl | rfl | rfl | rfl | rfl | rfl | rfl <;> simp <;> (try rw [show 8 + 4 * i + 4 = 12 + 4 * i by omega]) <;> (try rw [show 8 + 4 * i + 5 = 13 + 4 * i by omega]) <;> (try rw [show 8 + 4 * i + 6 = 14 + 4 * i by omega]) <;> (try rw [show 8 + 4 * i + 7 = 15 + 4 * i by omega]) <;> omega
theorem last_bd {x : Nat → Int} (h : chkTri x = 0) {i k : Nat} (hi : i < 3) (hk : k < 8) : -65536 ≤ last x i k ∧ last x i k ≤ 65536 := by
  unfold last
  split
  · omega
  · exact num_bd h (by omega) hk
theorem dif_bd {x : Nat → Int} (h : chkTri x = 0) {i k : Nat} (hi : i < 3) (hk : k < 8) : -131072 ≤ dif x i k ∧ dif x i k ≤ 131072 := by
  have := num_bd h hi hk
  have := last_bd h hi hk
  unfold dif; omega
theorem enc1 {n : Nat} (h : n < 128) : (encN n).length = 1 := by rw [encN_lo h]; rfl
theorem enc2 {n : Nat} (h : n < 16384) : (encN n).length ≤ 2 := by
  by_cases h1 : n < 128
  · rw [enc1 h1]; omega
  · rw [encN_hi h1, List.length_cons, enc1 (by omega)]; omega
theorem enc3 {n : Nat} (h : n < 2097152) : (encN n).length ≤ 3 := by
  by_cases h1 : n < 128
  · rw [enc1 h1]; omega
  · rw [encN_hi h1, List.length_cons]; have := enc2 (n := n / 128) (by omega); omega
theorem enc_dif {x : Nat → Int} (h : chkTri x = 0) {i k : Nat} (hi : i < 3) (hk : k < 8) : (encN (zig (dif x i k))).length ≤ 3 := by
  have := dif_bd h hi hk
  refine enc3 ?_
  unfold zig
  split <;> omega
theorem corner_len {x : Nat → Int} (h : chkTri x = 0) {i : Nat} (hi : i < 3) : ∀ k, k ≤ 8 → (cornerBytes x i k).length ≤ 3 * k
  | 0, _ => by simp [cornerBytes]
  | k + 1, hk => by
    have := corner_len h hi k (by omega)
    have := enc_dif h hi (show k < 8 by omega)
    rw [cornerBytes_succ, List.length_append]; omega
theorem tri_len {x : Nat → Int} (h : chkTri x = 0) : ∀ i, i ≤ 3 → (triBytes x i).length ≤ 24 * i
  | 0, _ => by simp [triBytes]
  | i + 1, hi => by
    have := tri_len h i (by omega)
    have := corner_len h (show i < 3 by omega) 8 (by omega)
    rw [triBytes_succ, List.length_append]; omega

set_option maxRecDepth 10000 in
set_option maxHeartbeats 1000000 in
/-- A record that may not be is not put. -/
theorem recput_no {w : World} {g : Nat} (a : Int) (s : Bool) (x : Nat → Int) (hc : chkRec a s x ≠ 0) :
    Calls Try.prog 10 #[.agg #[.int .i64 a, .bool s, .int .i64 (x 0), .int .i64 (x 1), .int .i64 (x 2), .int .i64 (x 3), .int .i64 (x 4), .int .i64 (x 5), .int .i64 (x 6), .int .i64 (x 7), .int .i64 (x 8), .int .i64 (x 9), .int .i64 (x 10), .int .i64 (x 11), .int .i64 (x 12), .int .i64 (x 13), .int .i64 (x 14), .int .i64 (x 15), .int .i64 (x 16), .int .i64 (x 17), .int .i64 (x 18), .int .i64 (x 19), .int .i64 (x 20), .int .i64 (x 21), .int .i64 (x 22), .int .i64 (x 23)], .pointer (some ⟨g, 0, none⟩)] w fun e w' => e = .returned (.int .i64 (chkRec a s x)) ∧ Below w.heap.size w w' := by
  obtain ⟨r, hr⟩ : ∃ r, chkRec a s x = r := ⟨_, rfl⟩
  have HC := fun w => recchk_calls a s x w
  rw [hr] at hc HC ⊢
  have b0 : (r != 0) = true := by rw [bne_iff_ne]; exact hc
  have hl := heap_new w (.cells #[.int .i64 a, .bool s, .int .i64 (x 0), .int .i64 (x 1), .int .i64 (x 2), .int .i64 (x 3), .int .i64 (x 4), .int .i64 (x 5), .int .i64 (x 6), .int .i64 (x 7), .int .i64 (x 8), .int .i64 (x 9), .int .i64 (x 10), .int .i64 (x 11), .int .i64 (x 12), .int .i64 (x 13), .int .i64 (x 14), .int .i64 (x 15), .int .i64 (x 16), .int .i64 (x 17), .int .i64 (x 18), .int .i64 (x 19), .int .i64 (x 20), .int .i64 (x 21), .int .i64 (x 22), .int .i64 (x 23)] 44)
  have hb := (Below.refl w.heap.size w).alloc (Nat.le_refl _) (.cells #[.int .i64 a, .bool s, .int .i64 (x 0), .int .i64 (x 1), .int .i64 (x 2), .int .i64 (x 3), .int .i64 (x 4), .int .i64 (x 5), .int .i64 (x 6), .int .i64 (x 7), .int .i64 (x 8), .int .i64 (x 9), .int .i64 (x 10), .int .i64 (x 11), .int .i64 (x 12), .int .i64 (x 13), .int .i64 (x 14), .int .i64 (x 15), .int .i64 (x 16), .int .i64 (x 17), .int .i64 (x 18), .int .i64 (x 19), .int .i64 (x 20), .int .i64 (x 21), .int .i64 (x 22), .int .i64 (x 23)] 44)
  have hi : (Try.prog.info? 44).map (·.size) = some (Array.size (#[.int .i64 a, .bool s, .int .i64 (x 0), .int .i64 (x 1), .int .i64 (x 2), .int .i64 (x 3), .int .i64 (x 4), .int .i64 (x 5), .int .i64 (x 6), .int .i64 (x 7), .int .i64 (x 8), .int .i64 (x 9), .int .i64 (x 10), .int .i64 (x 11), .int .i64 (x 12), .int .i64 (x 13), .int .i64 (x 14), .int .i64 (x 15), .int .i64 (x 16), .int .i64 (x 17), .int .i64 (x 18), .int .i64 (x 19), .int .i64 (x 20), .int .i64 (x 21), .int .i64 (x 22), .int .i64 (x 23)] : Array Value)) := Try.infoRec
  have HC2 := hid1 HC
  have HL := hid1 hl
  have HB := hid1 hb
  have HI := hid1 hi
  clear hc hr HC hl hb hi
  go_enter Try.func10, Try.ntmps10
  go_wp2_with (first
    | (with_reducible refine wpList_load_row rfl 44 (.tmp 2) rfl w.heap.size rfl _ _ _ _ HL.out Try.underlying44 rfl HI.out ?_)
    | (go_at_call 11; refine (HC2.out _).mono ?_; rintro e w1 ⟨rfl, hb1⟩))
  go_ret
  exact ⟨rfl, HB.out.trans (hb1.mono HB.out.size)⟩
set_option maxRecDepth 10000 in
set_option maxHeartbeats 1000000 in
/-- No writer. -/
theorem recput_nil {w : World} (a : Int) (s : Bool) (x : Nat → Int) :
    Calls Try.prog 10 #[.agg #[.int .i64 a, .bool s, .int .i64 (x 0), .int .i64 (x 1), .int .i64 (x 2), .int .i64 (x 3), .int .i64 (x 4), .int .i64 (x 5), .int .i64 (x 6), .int .i64 (x 7), .int .i64 (x 8), .int .i64 (x 9), .int .i64 (x 10), .int .i64 (x 11), .int .i64 (x 12), .int .i64 (x 13), .int .i64 (x 14), .int .i64 (x 15), .int .i64 (x 16), .int .i64 (x 17), .int .i64 (x 18), .int .i64 (x 19), .int .i64 (x 20), .int .i64 (x 21), .int .i64 (x 22), .int .i64 (x 23)], .pointer none] w fun e w' => e = .returned (.int .i64 1) ∧ Below w.heap.size w w' := by
  go_enter Try.func10, Try.ntmps10
  go_wp2
  go_ret
  exact ⟨rfl, (Below.refl w.heap.size w).alloc (Nat.le_refl _) _⟩
theorem chkRec_ok {a : Int} {s : Bool} {x : Nat → Int} (h : chkRec a s x = 0) : (0 ≤ a ∧ a < 32) ∧ (s = true → chkTri x = 0) ∧ (s = false → zero24 x) := by
  unfold chkRec at h
  split at h
  · omega
  · refine ⟨by omega, fun hs => ?_, fun hs => ?_⟩
    · rw [if_pos hs] at h; exact h
    · rw [if_neg (by rw [hs]; decide)] at h
      split at h
      · assumption
      · omega
set_option maxRecDepth 10000 in
set_option maxHeartbeats 1000000 in
/-- A record without a triangle. -/
theorem recput_plain {w : World} {g : Nat} {S : List Nat} {bs : List UInt8} (h : Wr w g S bs) (hl : bs.length ≤ 800000) (a : Int) (x : Nat → Int) (hc : chkRec a false x = 0) :
    Calls Try.prog 10 #[.agg #[.int .i64 a, .bool false, .int .i64 (x 0), .int .i64 (x 1), .int .i64 (x 2), .int .i64 (x 3), .int .i64 (x 4), .int .i64 (x 5), .int .i64 (x 6), .int .i64 (x 7), .int .i64 (x 8), .int .i64 (x 9), .int .i64 (x 10), .int .i64 (x 11), .int .i64 (x 12), .int .i64 (x 13), .int .i64 (x 14), .int .i64 (x 15), .int .i64 (x 16), .int .i64 (x 17), .int .i64 (x 18), .int .i64 (x 19), .int .i64 (x 20), .int .i64 (x 21), .int .i64 (x 22), .int .i64 (x 23)], .pointer (some ⟨g, 0, none⟩)] w fun e w' => e = .returned (.int .i64 0) ∧ ∃ S', Wr w' g S' (bs ++ recBytes a false x) ∧ Grows S w S' ∧ Fr S w w' := by
  have ha := (chkRec_ok hc).1
  have HC := fun w => recchk_calls a false x w
  rw [hc] at HC
  have hl2 := heap_new w (.cells #[.int .i64 a, .bool false, .int .i64 (x 0), .int .i64 (x 1), .int .i64 (x 2), .int .i64 (x 3), .int .i64 (x 4), .int .i64 (x 5), .int .i64 (x 6), .int .i64 (x 7), .int .i64 (x 8), .int .i64 (x 9), .int .i64 (x 10), .int .i64 (x 11), .int .i64 (x 12), .int .i64 (x 13), .int .i64 (x 14), .int .i64 (x 15), .int .i64 (x 16), .int .i64 (x 17), .int .i64 (x 18), .int .i64 (x 19), .int .i64 (x 20), .int .i64 (x 21), .int .i64 (x 22), .int .i64 (x 23)] 44)
  have hf := (Fr.refl S w).alloc (.cells #[.int .i64 a, .bool false, .int .i64 (x 0), .int .i64 (x 1), .int .i64 (x 2), .int .i64 (x 3), .int .i64 (x 4), .int .i64 (x 5), .int .i64 (x 6), .int .i64 (x 7), .int .i64 (x 8), .int .i64 (x 9), .int .i64 (x 10), .int .i64 (x 11), .int .i64 (x 12), .int .i64 (x 13), .int .i64 (x 14), .int .i64 (x 15), .int .i64 (x 16), .int .i64 (x 17), .int .i64 (x 18), .int .i64 (x 19), .int .i64 (x 20), .int .i64 (x 21), .int .i64 (x 22), .int .i64 (x 23)] 44)
  have hi : (Try.prog.info? 44).map (·.size) = some (Array.size (#[.int .i64 a, .bool false, .int .i64 (x 0), .int .i64 (x 1), .int .i64 (x 2), .int .i64 (x 3), .int .i64 (x 4), .int .i64 (x 5), .int .i64 (x 6), .int .i64 (x 7), .int .i64 (x 8), .int .i64 (x 9), .int .i64 (x 10), .int .i64 (x 11), .int .i64 (x 12), .int .i64 (x 13), .int .i64 (x 14), .int .i64 (x 15), .int .i64 (x 16), .int .i64 (x 17), .int .i64 (x 18), .int .i64 (x 19), .int .i64 (x 20), .int .i64 (x 21), .int .i64 (x 22), .int .i64 (x 23)] : Array Value)) := Try.infoRec
  have hw := h.fr (S' := []) ((Fr.refl [] w).alloc (.cells #[.int .i64 a, .bool false, .int .i64 (x 0), .int .i64 (x 1), .int .i64 (x 2), .int .i64 (x 3), .int .i64 (x 4), .int .i64 (x 5), .int .i64 (x 6), .int .i64 (x 7), .int .i64 (x 8), .int .i64 (x 9), .int .i64 (x 10), .int .i64 (x 11), .int .i64 (x 12), .int .i64 (x 13), .int .i64 (x 14), .int .i64 (x 15), .int .i64 (x 16), .int .i64 (x 17), .int .i64 (x 18), .int .i64 (x 19), .int .i64 (x 20), .int .i64 (x 21), .int .i64 (x 22), .int .i64 (x 23)] 44)) (fun _ _ h => by cases h)
  have HRB := hid1 (show bs ++ recBytes a false x = bs ++ encN (2 * a).toNat from rfl)
  have HC2 := hid1 HC
  have HL := hid1 hl2
  have HF := hid1 hf
  have HI := hid1 hi
  have HW := hid1 hw
  have HBL := hid1 hl
  have n1 : IntKind.i64.wrap (2 * a) = 2 * a := IntWalk.i64_in _ (by omega)
  clear hc HC hl2 hf hi hw h hl
  go_enter Try.func10, Try.ntmps10
  go_wp2_with (first
    | (with_reducible refine wpList_load_row rfl 44 (.tmp 2) rfl w.heap.size rfl _ _ _ _ HL.out Try.underlying44 rfl HI.out ?_)
    | (go_at_call 11; refine (HC2.out _).mono ?_; rintro e w1 ⟨rfl, hb1⟩; have hx1 := (Fr.ofBelow hb1).heap HL.out (by simp); have c0 := cell_at hx1 0; have c1 := cell_at hx1 1; have HW1 := hid1 (HW.out.fr (Fr.ofBelow hb1) (by simp)); have HF1 := hid1 (HF.out.trans (Fr.ofBelow hb1) (fun _ h => by cases h)); clear hb1 hx1)
    | (go_at_call 22; refine (count_calls HW1.out (2 * a) (by omega) (by have := HBL.out; omega)).mono ?_; rintro e w2 ⟨rfl, S2, hw2, hg2, hf2⟩))
  go_ret
  exact ⟨rfl, S2, by rw [HRB.out]; exact hw2, fun k hk => (hg2 k hk).imp id (Nat.le_trans HF1.out.size), HF1.out.trans hf2 (Grows.refl _ _)⟩
end Go.Proofs.Ytmholpploaecgaa
