/-
  Programs in memory: Body, within, Fuel, Discards.
-/
import Derived.Test.YtnknhedhoibepaaRows
import Derived.Test.YtnknhedhoibepaaRecs
import Derived.Test.YtnknhedhoibepaaIsaP
import Derived.Test.YtnknhedhoibepaaFr
import Derived.BigRegion
import Derived.BigQuiet
import Derived.Deep.QuietTactic
import Derived.WalkLawsBesides
namespace Go.Proofs.Ytnknhedhoibepaa
open Go.RowKit Isa

theorem hid {P : Prop} (h : P) : Hid P := h
def Isa.Ins.cells (x : Ins) : List Value := [.int .u8 x.op, .int .u8 x.dst, .int .u8 x.a, .int .u8 x.b, .int .i16 x.imm]
theorem ins_sz (x : Ins) : x.cells.length = 5 := rfl
/-- A program that can be read. -/
def Prog (w : World) (a : Option Addr) (n cap : Nat) (l : List Ins) : Prop := l.length = n ∧ Sl w a n cap 5 (l.map Ins.cells).flatten ∧ ∀ x ∈ l, x.good
theorem Prog.keep {w w' : World} {a : Option Addr} {n cap : Nat} {l : List Ins} (h : Prog w a n cap l) (hb : Below w.heap.size w w') : Prog w' a n cap l := ⟨h.1, h.2.1.keep hb, h.2.2⟩
theorem Prog.drewN {w : World} {a : Option Addr} {n cap : Nat} {l : List Ins} (h : Prog w a n cap l) (k : Nat) : Prog (w.drewN k) a n cap l := h.keep (below_draws _ _ _)
theorem Prog.big {w : World} {a : Option Addr} {n cap : Nat} {l : List Ins} (h : Prog w a n cap l) : n ≤ 9223372036854775807 := Nat.le_trans h.2.1.le h.2.1.big
/-- An instruction's cells. -/
theorem Prog.at {w : World} {a : Option Addr} {n cap : Nat} {l : List Ins} (h : Prog w a n cap l) (j : Nat) (hj : j < l.length) :
    ∃ b off, a = some ⟨b, off, none⟩ ∧ w.cell? ⟨b, off + j * 5, none⟩ = some (.int .u8 l[j].op) ∧ w.cell? ⟨b, off + j * 5 + 1, none⟩ = some (.int .u8 l[j].dst) ∧ w.cell? ⟨b, off + j * 5 + 2, none⟩ = some (.int .u8 l[j].a) ∧ w.cell? ⟨b, off + j * 5 + 3, none⟩ = some (.int .u8 l[j].b) ∧ w.cell? ⟨b, off + j * 5 + 4, none⟩ = some (.int .i16 l[j].imm) := by
  obtain ⟨b, off, rfl, hc⟩ := Sl.rec_at ins_sz (by decide) h.2.1 j hj
  exact ⟨b, off, rfl, hc 0 (by decide), hc 1 (by decide), hc 2 (by decide), hc 3 (by decide), hc 4 (by decide)⟩

set_option maxRecDepth 10000 in
theorem body_calls {w : World} {a : Option Addr} {n cap : Nat} {l : List Ins} (h : Prog w a n cap l) (h6 : n ≤ 1000000) (j : Nat) (hj : j < l.length) :
    Calls Try.prog 34 #[.slice a n cap, .int .i64 j] w fun e w' => e = .returned (.tuple (if l[j].op = 12 then #[.int .i64 ((j : Int) + 1), .int .i64 ((j : Int) + 1 + l[j].b), .bool true] else #[.int .i64 0, .int .i64 0, .bool false])) ∧ ∃ q, w' = w.drewN q := by
  obtain ⟨b, off, rfl, c0, c1, c2, c3, c4⟩ := h.at j hj
  have hg := h.2.2 l[j] (List.getElem_mem hj)
  obtain ⟨x, hx⟩ : ∃ x, x = l[j] := ⟨_, rfl⟩
  rw [← hx] at c0 c3 hg ⊢
  obtain ⟨op, dst, xa, xb, imm⟩ := x
  unfold Ins.good at hg
  simp only at hg c0 c3 ⊢
  obtain ⟨g1, g2, g3, g4, g5⟩ := hg
  have hn := h.1
  have hbig := h.big
  have e1 : decide ((j : Int) < 0) = false := by simp
  have e2 : decide ((j : Int) ≥ (n : Int)) = false := by simp; omega
  have n1 : (0 : Int) ≤ (j : Int) := by omega
  have n2 : (j : Int) < (n : Int) := by omega
  have n3 : IntKind.i64.wrap ((j : Int) + 1) = (j : Int) + 1 := IntWalk.i64_in _ (by omega)
  have n4 : IntKind.i64.wrap ((j : Int) + 1 + xb) = (j : Int) + 1 + xb := IntWalk.i64_in _ (by omega)
  have n5 : IntKind.i64.wrap xb = xb := IntWalk.i64_in _ (by omega)
  clear hx hn h hj c1 c2 c4
  by_cases ho : op = 12
  · subst ho
    rw [if_pos rfl]
    go_enter Try.func34, Try.ntmps34
    go_wp2
    go_quiet (fail)
    go_wp2
    go_ret3
    exact ⟨rfl, _, rfl⟩
  · rw [if_neg ho]
    have e3 : (op != 12) = true := by rw [bne_iff_ne]; exact ho
    clear ho
    go_enter Try.func34, Try.ntmps34
    go_wp2
    go_ret3
    exact ⟨rfl, 0, rfl⟩

def wcells : Option (Int × Int) → Array Value
  | some (f, t) => #[.int .i64 f, .int .i64 t, .bool true]
  | none => #[.int .i64 0, .int .i64 0, .bool false]
def wfrom : Option (Int × Int) → Int
  | some (f, _) => f
  | none => 0
def wto : Option (Int × Int) → Int
  | some (_, t) => t
  | none => 0
theorem wcells_eq (r : Option (Int × Int)) : wcells r = #[.int .i64 (wfrom r), .int .i64 (wto r), .bool r.isSome] := by cases r <;> rfl
theorem inFrom_step {i : Int} {l : List Ins} {j : Nat} (hj : j < l.length) : inFrom i j (l.drop j) = if l[j].op = 12 ∧ (j : Int) + 1 ≤ i ∧ i < (j : Int) + 1 + l[j].b then some ((j : Int) + 1, (j : Int) + 1 + l[j].b) else inFrom i (j + 1) (l.drop (j + 1)) := by
  rw [List.drop_eq_getElem_cons hj]; rfl

set_option maxRecDepth 10000 in
theorem within_calls {w : World} {a : Option Addr} {n cap : Nat} {l : List Ins} (h : Prog w a n cap l) (h6 : n ≤ 1000000) (i : Int) :
    Calls Try.prog 29 #[.slice a n cap, .int .i64 i] w fun e w' => e = .returned (.tuple (wcells (within l i))) ∧ ∃ q, w' = w.drewN q := by
  have hn := h.1
  go_enter Try.func29, Try.ntmps29
  go_wp2
  go_loopw [13] (fun k wr => ∃ j : Nat, j ≤ l.length ∧ k = .int .i64 j ∧ Hid (inFrom i j (l.drop j) = within l i) ∧ ∃ q, wr = w.drewN q) (fun k _ => l.length - (intOf k).toNat)
  case atStart => exact ⟨0, Nat.zero_le _, rfl, rfl, 0, rfl⟩
  case round =>
    obtain ⟨j, hj, rfl, HE, q, rfl⟩ := hrel
    by_cases hlt : j < l.length
    · have HB := hid (body_calls (h.drewN q) h6 j hlt)
      have hlt2 : (j : Int) < (n : Int) := by omega
      have HS := hid (inFrom_step (i := i) hlt)
      obtain ⟨op, hop⟩ : ∃ op, l[j].op = op := ⟨_, rfl⟩
      obtain ⟨xb, hxb⟩ : ∃ xb, l[j].b = xb := ⟨_, rfl⟩
      rw [hop, hxb] at HB HS
      have HN := hid hn
      clear hop hxb h hn
      by_cases ho : op = 12
      · rw [if_pos ho] at HB
        by_cases h1 : (j : Int) + 1 ≤ i ∧ i < (j : Int) + 1 + xb
        · have HW : Hid (within l i = some ((j : Int) + 1, (j : Int) + 1 + xb)) := by show _ = _; rw [← HE.out, HS.out, if_pos ⟨ho, h1⟩]
          have d1 : decide (i ≥ (j : Int) + 1) = true := by simp; omega
          have d2 : decide (i < (j : Int) + 1 + xb) = true := by simp; omega
          clear ho h1
          go_wp2_with (go_at_call 34; refine HB.out.mono ?_; rintro e w1 ⟨rfl, q1, rfl⟩)
          go_ret3
          rw [HW.out]
          exact ⟨rfl, q + q1, by first | rfl | (rw [World.drewN_add]) | (simp [World.drewN]; omega)⟩
        · have HW : Hid (inFrom i (j + 1) (l.drop (j + 1)) = within l i) := by show _ = _; rw [← HE.out, HS.out, if_neg (fun hh => h1 hh.2)]
          obtain ⟨b1, b2, e1, e2, hw⟩ : ∃ b1 b2 : Bool, decide (i ≥ (j : Int) + 1) = b1 ∧ decide (i < (j : Int) + 1 + xb) = b2 ∧ (b1 = false ∨ (b1 = true ∧ b2 = false)) := ⟨_, _, rfl, rfl, by simp only [decide_eq_true_eq, decide_eq_false_iff_not]; omega⟩
          clear ho h1
          rcases hw with rfl | ⟨rfl, rfl⟩
          all_goals
            go_wp2_with (go_at_call 34; refine HB.out.mono ?_; rintro e w1 ⟨rfl, q1, rfl⟩)
            go_roundw
            case rel => exact ⟨j + 1, by omega, by go_num, HW, q + q1, by first | rfl | (rw [World.drewN_add]) | (simp [World.drewN]; omega)⟩
            case measure => simp [intOf]; omega
      · rw [if_neg ho] at HB
        have HW : Hid (inFrom i (j + 1) (l.drop (j + 1)) = within l i) := by show _ = _; rw [← HE.out, HS.out, if_neg (fun hh => ho hh.1)]
        clear ho
        go_wp2_with (go_at_call 34; refine HB.out.mono ?_; rintro e w1 ⟨rfl, q1, rfl⟩)
        go_roundw
        case rel => exact ⟨j + 1, by omega, by go_num, HW, q + q1, by first | rfl | (rw [World.drewN_add]) | (simp [World.drewN]; omega)⟩
        case measure => simp [intOf]; omega
    · have HW : Hid (within l i = none) := by show _ = _; rw [← HE.out, List.drop_of_length_le (by omega)]; rfl
      have hlt2 : ¬ (j : Int) < (n : Int) := by omega
      go_wp2
      go_ret3
      rw [HW.out]
      exact ⟨rfl, q, rfl⟩
end Go.Proofs.Ytnknhedhoibepaa
