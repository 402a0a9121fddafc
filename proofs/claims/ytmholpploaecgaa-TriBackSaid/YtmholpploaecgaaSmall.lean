/-
  A triangle by small numbers: what the laws make of it.
-/
import Derived.Test.YtmholpploaecgaaRecTake2
import Derived.BigRegion
namespace Go.Proofs.Ytmholpploaecgaa
open Go.RowKit
set_option linter.unusedVariables false
set_option linter.unusedSimpArgs false

/-- The small numbers. -/
structure SmOk (p : Nat → Int) : Prop where
  pt : ∀ n, n < 6 → -128 ≤ p n ∧ p n ≤ 127
  mid : ∀ n, 6 ≤ n → n < 24 → 0 ≤ p n ∧ p n ≤ 65535
  size : 0 ≤ p 24 ∧ p 24 ≤ 255
set_option maxRecDepth 10000 in
set_option maxHeartbeats 1000000 in
theorem small03_calls {p : Nat → Int} (hp : SmOk p) (w : World) :
    Calls Try.prog 33 #[.agg #[.int .i8 (p 0), .int .i8 (p 1), .int .i8 (p 2), .int .i8 (p 3), .int .i8 (p 4), .int .i8 (p 5)]] w fun e w' => e = .returned (.agg #[.int .i64 (p 0), .int .i64 (p 1), .int .i64 (p 2), .int .i64 (p 3), .int .i64 (p 4), .int .i64 (p 5)]) ∧ Below w.heap.size w w' := by
  have n0 : IntKind.i64.wrap (p 0) = p 0 := IntWalk.i64_in _ (by have := hp.pt 0 (by omega); omega)
  have n1 : IntKind.i64.wrap (p 1) = p 1 := IntWalk.i64_in _ (by have := hp.pt 1 (by omega); omega)
  have n2 : IntKind.i64.wrap (p 2) = p 2 := IntWalk.i64_in _ (by have := hp.pt 2 (by omega); omega)
  have n3 : IntKind.i64.wrap (p 3) = p 3 := IntWalk.i64_in _ (by have := hp.pt 3 (by omega); omega)
  have n4 : IntKind.i64.wrap (p 4) = p 4 := IntWalk.i64_in _ (by have := hp.pt 4 (by omega); omega)
  have n5 : IntKind.i64.wrap (p 5) = p 5 := IntWalk.i64_in _ (by have := hp.pt 5 (by omega); omega)
  have i0 : ∀ w, (Instr.index 25 (.agg #[.int .i8 (p 0), .int .i8 (p 1), .int .i8 (p 2), .int .i8 (p 3), .int .i8 (p 4), .int .i8 (p 5)]) (.int .i64 0)).run Try.prog w = .ok (.agg #[.int .i8 (p 0), .int .i8 (p 1)]) w := fun _ => by kernel_rfl
  have i1 : ∀ w, (Instr.index 25 (.agg #[.int .i8 (p 0), .int .i8 (p 1), .int .i8 (p 2), .int .i8 (p 3), .int .i8 (p 4), .int .i8 (p 5)]) (.int .i64 1)).run Try.prog w = .ok (.agg #[.int .i8 (p 2), .int .i8 (p 3)]) w := fun _ => by kernel_rfl
  have i2 : ∀ w, (Instr.index 25 (.agg #[.int .i8 (p 0), .int .i8 (p 1), .int .i8 (p 2), .int .i8 (p 3), .int .i8 (p 4), .int .i8 (p 5)]) (.int .i64 2)).run Try.prog w = .ok (.agg #[.int .i8 (p 4), .int .i8 (p 5)]) w := fun _ => by kernel_rfl
  clear hp
  go_enter Try.func33, Try.ntmps33
  go_wp2
  go_rounds 4
  refine bodyPost_ret (v := .agg #[.int .i64 (p 0), .int .i64 (p 1), .int .i64 (p 2), .int .i64 (p 3), .int .i64 (p 4), .int .i64 (p 5)]) (by simp [results, Try.results33, go_sem]) rfl ⟨rfl, ?_⟩
  trace_state
  repeat' (first | exact Below.refl _ _ | refine Below.alloc ?_ (by simp <;> omega) _)

/-- The cells of a triangle by small numbers. -/
def smRow (p : Nat → Int) : Array Value := #[.int .i8 (p 0), .int .i8 (p 1), .int .i8 (p 2), .int .i8 (p 3), .int .i8 (p 4), .int .i8 (p 5), .int .u16 (p 6), .int .u16 (p 7), .int .u16 (p 8), .int .u16 (p 9), .int .u16 (p 10), .int .u16 (p 11), .int .u16 (p 12), .int .u16 (p 13), .int .u16 (p 14), .int .u16 (p 15), .int .u16 (p 16), .int .u16 (p 17), .int .u16 (p 18), .int .u16 (p 19), .int .u16 (p 20), .int .u16 (p 21), .int .u16 (p 22), .int .u16 (p 23), .int .u8 (p 24)]
/-- A triangle's cells. -/
def triRow (x : Nat → Int) : Array Value := #[.int .i64 (x 0), .int .i64 (x 1), .int .i64 (x 2), .int .i64 (x 3), .int .i64 (x 4), .int .i64 (x 5), .int .i64 (x 6), .int .i64 (x 7), .int .i64 (x 8), .int .i64 (x 9), .int .i64 (x 10), .int .i64 (x 11), .int .i64 (x 12), .int .i64 (x 13), .int .i64 (x 14), .int .i64 (x 15), .int .i64 (x 16), .int .i64 (x 17), .int .i64 (x 18), .int .i64 (x 19), .int .i64 (x 20), .int .i64 (x 21), .int .i64 (x 22), .int .i64 (x 23)]
theorem Try.infoSm (p : Nat → Int) : (Try.prog.info? 31).map (·.size) = some (smRow p).size := by kernel_rfl
theorem Try.infoTri (x : Nat → Int) : (Try.prog.info? 41).map (·.size) = some (triRow x).size := by kernel_rfl
theorem Try.infoPts (p : Nat → Int) : (Try.prog.info? 25).map (·.size) = some ([.int .i8 (p 0), .int .i8 (p 1), .int .i8 (p 2), .int .i8 (p 3), .int .i8 (p 4), .int .i8 (p 5)] : List Value).length := by kernel_rfl
theorem triRow_one (x : Nat → Int) : (triRow x).all (·.oneCell') = true := by simp [triRow, Value.oneCell']
/-- Which corner a cell is of. -/
def cornerOf (n : Nat) : Nat := if n < 6 then n / 2 else if n < 9 then n - 6 else if n < 12 then n - 9 else (n - 12) / 4
def smN (n : Nat) (v : Int) : Prop := if n < 6 then -412 ≤ v ∧ v ≤ 608 else if n < 9 then 0 ≤ v ∧ v ≤ 65535 else if n < 12 then 1 ≤ v ∧ v ≤ 1024 else 0 ≤ v ∧ v ≤ 65535
def upd (x : Nat → Int) (m : Nat) (v : Int) : Nat → Int := fun n => if n = m then v else x n
/-- Behind i corners, and k numbers of the next one's colour, its other numbers done. -/
def SmIn (p : Nat → Int) (i k : Nat) (x : Nat → Int) : Prop := ∀ n, n < 24 → (cornerOf n < i → smN n (x n)) ∧ (cornerOf n = i → n < 12 + 4 * i + k → smN n (x n)) ∧ (i < cornerOf n → n < 6 → x n = p n)
def SmAt (p : Nat → Int) (i : Nat) (x : Nat → Int) : Prop := ∀ n, n < 24 → (cornerOf n < i → smN n (x n)) ∧ (i ≤ cornerOf n → n < 6 → x n = p n)
theorem SmIn.next {p x : Nat → Int} {i k : Nat} (h : SmIn p i k x) (hi : i < 3) (hk : k < 4) {v : Int} (hv : 0 ≤ v ∧ v ≤ 65535) : SmIn p i (k + 1) (upd x (12 + 4 * i + k) v) := by
  intro n hn
  obtain ⟨h1, h2, h3⟩ := h n hn
  unfold upd
  by_cases he : n = 12 + 4 * i + k
  · rw [if_pos he]
    have hc : cornerOf n = i := by unfold cornerOf; rw [if_neg (by omega), if_neg (by omega), if_neg (by omega)]; omega
    have hs : smN n v := by unfold smN; rw [if_neg (by omega), if_neg (by omega), if_neg (by omega)]; exact hv
    exact ⟨fun _ => hs, fun _ _ => hs, fun h => by omega⟩
  · rw [if_neg he]
    exact ⟨h1, fun a b => h2 a (by omega), h3⟩
theorem SmIn.done {p x : Nat → Int} {i : Nat} (h : SmIn p i 4 x) : SmAt p (i + 1) x := by
  intro n hn
  obtain ⟨h1, h2, h3⟩ := h n hn
  refine ⟨fun hc => ?_, fun hc h6 => h3 (by omega) h6⟩
  by_cases he : cornerOf n = i
  · refine h2 he ?_
    have := he
    unfold cornerOf at this
    split at this
    · omega
    · split at this
      · omega
      · split at this
        · omega
        · omega
  · exact h1 (by omega)
theorem SmAt.start {p x : Nat → Int} {i : Nat} (h : SmAt p i x) (hi : i < 3) {a b c d : Int} (ha : -412 ≤ a ∧ a ≤ 608) (hb : -412 ≤ b ∧ b ≤ 608) (hc : 0 ≤ c ∧ c ≤ 65535) (hd : 1 ≤ d ∧ d ≤ 1024) :
    SmIn p i 0 (upd (upd (upd (upd x (2 * i) a) (2 * i + 1) b) (6 + i) c) (9 + i) d) := by
  intro n hn
  obtain ⟨h1, h2⟩ := h n hn
  unfold upd
  by_cases e4 : n = 9 + i
  · rw [if_pos e4]
    have hs : smN n d := by unfold smN; rw [if_neg (by omega), if_neg (by omega), if_pos (by omega)]; exact hd
    exact ⟨fun _ => hs, fun _ _ => hs, fun _ h => by omega⟩
  rw [if_neg e4]
  by_cases e3 : n = 6 + i
  · rw [if_pos e3]
    have hs : smN n c := by unfold smN; rw [if_neg (by omega), if_pos (by omega)]; exact hc
    exact ⟨fun _ => hs, fun _ _ => hs, fun _ h => by omega⟩
  rw [if_neg e3]
  by_cases e2 : n = 2 * i + 1
  · rw [if_pos e2]
    have hs : smN n b := by unfold smN; rw [if_pos (by omega)]; exact hb
    have hq : cornerOf n = i := by unfold cornerOf; rw [if_pos (by omega)]; omega
    exact ⟨fun _ => hs, fun _ _ => hs, fun h => by omega⟩
  rw [if_neg e2]
  by_cases e1 : n = 2 * i
  · rw [if_pos e1]
    have hs : smN n a := by unfold smN; rw [if_pos (by omega)]; exact ha
    have hq : cornerOf n = i := by unfold cornerOf; rw [if_pos (by omega)]; omega
    exact ⟨fun _ => hs, fun _ _ => hs, fun h => by omega⟩
  rw [if_neg e1]
  refine ⟨h1, fun he hl => ?_, fun hc h6 => h2 (by omega) h6⟩
  exfalso
  unfold cornerOf at he
  split at he
  · omega
  · split at he
    · omega
    · split at he
      · omega
      · omega
theorem SmAt.zero (p : Nat → Int) : SmAt p 0 (fun n => if n < 6 then p n else 0) := fun n _ => ⟨fun h => by omega, fun _ h6 => if_pos h6⟩
theorem SmAt.all {p x : Nat → Int} (h : SmAt p 3 x) : ∀ n, n < 24 → smN n (x n) := fun n hn => (h n hn).1 (by
  unfold cornerOf
  split
  · omega
  · split
    · omega
    · split
      · omega
      · omega)
end Go.Proofs.Ytmholpploaecgaa
