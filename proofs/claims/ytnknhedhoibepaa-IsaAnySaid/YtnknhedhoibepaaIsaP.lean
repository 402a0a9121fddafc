/-
  Programs, plain: whether they may be; their fuel; the repair of the law's programs.
-/
import Derived.RowKit
namespace Go.Proofs.Ytnknhedhoibepaa.Isa

structure Ins where
  op : Int
  dst : Int
  a : Int
  b : Int
  imm : Int
def Ins.good (x : Ins) : Prop := (0 ≤ x.op ∧ x.op < 256) ∧ (0 ≤ x.dst ∧ x.dst < 256) ∧ (0 ≤ x.a ∧ x.a < 256) ∧ (0 ≤ x.b ∧ x.b < 256) ∧ -32768 ≤ x.imm ∧ x.imm < 32768
def inFrom (i : Int) : Nat → List Ins → Option (Int × Int)
  | _, [] => none
  | k, x :: l => if x.op = 12 ∧ (k : Int) + 1 ≤ i ∧ i < (k : Int) + 1 + x.b then some ((k : Int) + 1, (k : Int) + 1 + x.b) else inFrom i (k + 1) l
def within (l : List Ins) (i : Int) : Option (Int × Int) := inFrom i 0 l
def skipAt (l : List Ins) (i : Int) (x : Ins) : Int :=
  match within l i with
  | none => if x.imm < 1 ∨ (l.length : Int) < i + 1 + x.imm then 12 else match within l (i + 1 + x.imm) with
    | none => 0
    | some _ => 12
  | some (f, to) => if x.imm < 1 ∨ (l.length : Int) < i + 1 + x.imm ∨ to < i + 1 + x.imm then 12 else match within l (i + 1 + x.imm) with
    | none => 0
    | some (a, _) => if a = f then 0 else 12
def chkAt (l : List Ins) (i : Int) (x : Ins) (d : Bool) : Int :=
  if 15 ≤ x.op ∨ (x.op = 13 ∧ d = false) then 5
  else if 12 ≤ x.dst ∨ 12 ≤ x.a ∨ (x.op ≠ 12 ∧ 12 ≤ x.b) ∨ (x.op = 14 ∧ 8 < x.a) then 2
  else if x.op = 12 ∧ ((within l i).isSome = true ∨ x.b < 1 ∨ (l.length : Int) - i - 1 < x.b ∨ x.imm < 1 ∨ 8 < x.imm) then 12
  else if x.op ≠ 11 then 0
  else skipAt l i x
def chkFrom (l : List Ins) (d : Bool) : Nat → List Ins → Int
  | _, [] => 0
  | k, x :: r => if chkAt l k x d ≠ 0 then chkAt l k x d else chkFrom l d (k + 1) r
def extra : List Ins → Int
  | [] => 0
  | x :: l => (if x.op = 12 then x.b * (max x.imm 1 - 1) else 0) + extra l
def fuel (l : List Ins) : Int := (l.length : Int) + extra l
def chk (l : List Ins) (d : Bool) : Int :=
  if 24 < l.length then 7 else if chkFrom l d 0 l ≠ 0 then chkFrom l d 0 l else if 200 < fuel l then 6 else 0
def discards (l : List Ins) : Bool := l.any (fun x => x.op == 13)

theorem chkFrom_zero {l : List Ins} {d : Bool} : ∀ {r : List Ins} {k : Nat}, chkFrom l d k r = 0 ↔ ∀ j (h : j < r.length), chkAt l ((k + j : Nat) : Int) r[j] d = 0
  | [], k => by simp [chkFrom]
  | x :: r, k => by
    simp only [chkFrom]
    have ih := chkFrom_zero (l := l) (d := d) (r := r) (k := k + 1)
    constructor
    · intro h j hj
      by_cases h0 : chkAt l k x d = 0
      · rw [if_neg (by simpa using h0)] at h
        cases j with
        | zero => simpa using h0
        | succ j => have := ih.1 h j (by simpa using hj); rw [show k + 1 + j = k + (j + 1) by omega] at this; simpa using this
      · rw [if_pos h0] at h; exact absurd h h0
    · intro h
      have h0 : chkAt l k x d = 0 := by have := h 0 (by simp); simpa using this
      rw [if_neg (by simpa using h0)]
      refine ih.2 (fun j hj => ?_)
      have := h (j + 1) (by simpa using hj)
      rw [show k + 1 + j = k + (j + 1) by omega]; simpa using this
def AllOk (l : List Ins) (d : Bool) : Prop := ∀ j (h : j < l.length), chkAt l j l[j] d = 0
theorem chkFrom_all {l : List Ins} {d : Bool} : chkFrom l d 0 l = 0 ↔ AllOk l d := by
  rw [chkFrom_zero]
  constructor <;> intro h j hj <;> have := h j hj <;> simpa using this
theorem chk_zero {l : List Ins} {d : Bool} : chk l d = 0 ↔ l.length ≤ 24 ∧ AllOk l d ∧ fuel l ≤ 200 := by
  unfold chk
  rw [← chkFrom_all]
  constructor
  · intro h
    split at h
    · omega
    · split at h
      · exact absurd h ‹_›
      · split at h
        · omega
        · exact ⟨by omega, by simpa using ‹¬ chkFrom l d 0 l ≠ 0›, by omega⟩
  · rintro ⟨h1, h2, h3⟩
    rw [if_neg (by omega), if_neg (by simpa using h2), if_neg (by omega)]
theorem chk_ok {l : List Ins} {d : Bool} (h : AllOk l d) : chk l d = if 24 < l.length then 7 else if 200 < fuel l then 6 else 0 := by
  have := chkFrom_all.2 h
  unfold chk
  rw [this]; simp

theorem extra_append : ∀ (p q : List Ins), extra (p ++ q) = extra p + extra q
  | [], q => by simp [extra]
  | x :: p, q => by simp only [List.cons_append, extra, extra_append p q]; omega
theorem fuel_append (p q : List Ins) : fuel (p ++ q) = fuel p + fuel q := by unfold fuel; rw [extra_append, List.length_append]; omega
theorem discards_append (p q : List Ins) : discards (p ++ q) = (discards p || discards q) := by unfold discards; rw [List.any_append]

theorem inFrom_append (i : Int) : ∀ (k : Nat) (p q : List Ins), inFrom i k (p ++ q) = match inFrom i k p with | some r => some r | none => inFrom i (k + p.length) q
  | k, [], q => by simp [inFrom]
  | k, x :: p, q => by
    simp only [List.cons_append, inFrom]
    by_cases h : x.op = 12 ∧ (k : Int) + 1 ≤ i ∧ i < (k : Int) + 1 + x.b
    · rw [if_pos h, if_pos h]
    · rw [if_neg h, if_neg h, inFrom_append i (k + 1) p q, List.length_cons, show k + 1 + p.length = k + (p.length + 1) by omega]
theorem inFrom_none {i : Int} : ∀ {k : Nat} {p : List Ins}, (∀ j (h : j < p.length), p[j].op = 12 → i < ((k + j : Nat) : Int) + 1 ∨ ((k + j : Nat) : Int) + 1 + p[j].b ≤ i) → inFrom i k p = none
  | k, [], _ => rfl
  | k, x :: p, h => by
    simp only [inFrom]
    have h0 := h 0 (by simp)
    simp only [List.getElem_cons_zero, Nat.add_zero] at h0
    rw [if_neg (fun hh => by rcases h0 hh.1 with h1 | h1 <;> omega)]
    refine inFrom_none (fun j hj ho => ?_)
    have := h (j + 1) (by simpa using hj) (by simpa using ho)
    rw [show k + 1 + j = k + (j + 1) by omega]
    simpa using this
theorem inFrom_shift (i : Int) (s : Nat) : ∀ (k : Nat) (q : List Ins), inFrom (i + s) (k + s) q = (inFrom i k q).map (fun r : Int × Int => (r.1 + (s : Int), r.2 + (s : Int)))
  | k, [] => rfl
  | k, x :: q => by
    simp only [inFrom]
    by_cases h : x.op = 12 ∧ (k : Int) + 1 ≤ i ∧ i < (k : Int) + 1 + x.b
    · rw [if_pos h, if_pos ⟨h.1, by omega, by omega⟩]
      simp only [Option.map_some, Option.some.injEq, Prod.mk.injEq]
      omega
    · rw [if_neg h, if_neg (fun hh => h ⟨hh.1, by omega, by omega⟩), show k + s + 1 = k + 1 + s by omega, inFrom_shift i s (k + 1) q]
/-- A loop that may be has its body within the program. -/
theorem loop_in {l : List Ins} {d : Bool} (h : AllOk l d) (j : Nat) (hj : j < l.length) (ho : l[j].op = 12) : (j : Int) + 1 + l[j].b ≤ l.length := by
  have := h j hj
  unfold chkAt at this
  split at this
  · omega
  · split at this
    · omega
    · split at this
      · omega
      · rename_i h3
        rcases Int.lt_or_le ((l.length : Int) - j - 1) l[j].b with h4 | h4
        · exact absurd ⟨ho, .inr (.inr (.inl h4))⟩ h3
        · omega
theorem within_left {p q : List Ins} {i : Int} (hi : i ≤ p.length) : within (p ++ q) i = within p i := by
  unfold within
  rw [inFrom_append]
  cases inFrom i 0 p with
  | some r => rfl
  | none => simp only [Nat.zero_add]; exact inFrom_none (fun j hj _ => .inl (by omega))
theorem within_right {p q : List Ins} {d : Bool} (h : AllOk p d) {i : Int} (hi : 0 ≤ i) : within (p ++ q) (i + p.length) = (within q i).map (fun r : Int × Int => (r.1 + (p.length : Int), r.2 + (p.length : Int))) := by
  unfold within
  rw [inFrom_append, inFrom_none (fun j hj ho => .inr (by have := loop_in h j hj ho; omega))]
  simp only
  exact inFrom_shift i p.length 0 q
theorem within_end {p : List Ins} {d : Bool} (h : AllOk p d) {i : Int} (hi : (p.length : Int) ≤ i) : within p i = none :=
  inFrom_none (fun j hj ho => .inr (by have := loop_in h j hj ho; omega))

/-- Longer programs: what may be in the first part, and in the second, may be. -/
theorem chkAt_left {p q : List Ins} {d : Bool} (j : Nat) (hj : j < p.length) (x : Ins) (h : chkAt p j x d = 0) : chkAt (p ++ q) j x d = 0 := by
  unfold chkAt at h ⊢
  split at h
  · omega
  · rw [if_neg ‹_›]
    split at h
    · omega
    · rw [if_neg ‹_›]
      split at h
      · omega
      · rename_i h3
        rw [if_neg (fun hh => h3 ⟨hh.1, by
          rw [within_left (by omega)] at hh
          rcases hh.2 with h1 | h1 | h1 | h1 | h1
          · exact .inl h1
          · exact .inr (.inl h1)
          · refine .inr (.inr (.inl ?_)); have : ((p ++ q).length : Int) = p.length + q.length := by simp
            omega
          · exact .inr (.inr (.inr (.inl h1)))
          · exact .inr (.inr (.inr (.inr h1)))⟩)]
        split at h
        · rw [if_pos ‹_›]
        · rw [if_neg ‹_›]
          have hl : ((p ++ q).length : Int) = p.length + q.length := by simp
          unfold skipAt at h ⊢
          rw [within_left (by omega)]
          cases hw : within p j with
          | none =>
            rw [hw] at h
            simp only at h ⊢
            split at h
            · omega
            · rename_i h5
              rw [if_neg (by omega), within_left (by omega)]
              exact h
          | some r =>
            obtain ⟨f, to⟩ := r
            rw [hw] at h
            simp only at h ⊢
            split at h
            · omega
            · rename_i h5
              rw [if_neg (by omega), within_left (by omega)]
              exact h
theorem chkAt_right {p q : List Ins} {d : Bool} (hp : AllOk p d) (j : Nat) (_ : j < q.length) (x : Ins) (h : chkAt q j x d = 0) : chkAt (p ++ q) ((j : Int) + p.length) x d = 0 := by
  have hl : ((p ++ q).length : Int) = p.length + q.length := by simp
  unfold chkAt at h ⊢
  split at h
  · omega
  · rw [if_neg ‹_›]
    split at h
    · omega
    · rw [if_neg ‹_›]
      split at h
      · omega
      · rename_i h3
        rw [if_neg (fun hh => h3 ⟨hh.1, by
          rw [within_right hp (by omega)] at hh
          rcases hh.2 with h1 | h1 | h1 | h1 | h1
          · exact .inl (by simpa using h1)
          · exact .inr (.inl h1)
          · exact .inr (.inr (.inl (by omega)))
          · exact .inr (.inr (.inr (.inl h1)))
          · exact .inr (.inr (.inr (.inr h1)))⟩)]
        split at h
        · rw [if_pos ‹_›]
        · rw [if_neg ‹_›]
          unfold skipAt at h ⊢
          rw [within_right hp (by omega)]
          cases hw : within q j with
          | none =>
            rw [hw] at h
            simp only [Option.map_none] at h ⊢
            split at h
            · omega
            · rename_i h5
              rw [if_neg (by omega), show (j : Int) + p.length + 1 + x.imm = (j + 1 + x.imm) + p.length by omega, within_right hp (by omega)]
              cases hw2 : within q (j + 1 + x.imm) with
              | none => rfl
              | some r => rw [hw2] at h; exact absurd h (by simp)
          | some r =>
            obtain ⟨f, to⟩ := r
            rw [hw] at h
            simp only [Option.map_some] at h ⊢
            split at h
            · omega
            · rename_i h5
              rw [if_neg (by omega), show (j : Int) + p.length + 1 + x.imm = (j + 1 + x.imm) + p.length by omega, within_right hp (by omega)]
              cases hw2 : within q (j + 1 + x.imm) with
              | none => rfl
              | some r =>
                obtain ⟨a, b⟩ := r
                rw [hw2] at h
                simp only [Option.map_some] at h ⊢
                split at h
                · rw [if_pos (by omega)]
                · omega
theorem allOk_append {p q : List Ins} {d : Bool} (hp : AllOk p d) (hq : AllOk q d) : AllOk (p ++ q) d := by
  intro j hj
  by_cases h : j < p.length
  · rw [List.getElem_append_left h]
    exact chkAt_left j h _ (hp j h)
  · rw [List.getElem_append_right (by omega)]
    have hq' := hq (j - p.length) (by simp at hj; omega)
    have := chkAt_right (q := q) hp (j - p.length) (by simp at hj; omega) _ hq'
    rw [show (((j - p.length : Nat) : Int) + p.length) = j by omega] at this
    exact this

/-- An instruction that is neither a loop, nor a skip, nor a discard that may not be. -/
def ctl (d : Bool) (x : Ins) : Bool := x.op == 12 || x.op == 11 || (x.op == 13 && !d)
def Ins.low (x : Ins) : Prop := (0 ≤ x.op ∧ x.op < 15) ∧ (0 ≤ x.dst ∧ x.dst < 12) ∧ (0 ≤ x.a ∧ x.a < 9) ∧ (0 ≤ x.b ∧ x.b < 12) ∧ -32768 ≤ x.imm ∧ x.imm < 32768
theorem Ins.low.good {x : Ins} (h : x.low) : x.good := by unfold Ins.low at h; unfold Ins.good; omega
theorem chkAt_plain {l : List Ins} {i : Int} {x : Ins} {d : Bool} (hx : x.low) (hc : ctl d x = false) : chkAt l i x d = 0 := by
  unfold Ins.low at hx
  simp only [ctl, Bool.or_eq_false_iff, beq_eq_false_iff_ne, Bool.and_eq_false_iff, Bool.not_eq_false'] at hc
  obtain ⟨⟨h1, h2⟩, h3⟩ := hc
  unfold chkAt
  rw [if_neg (by rintro (h | ⟨h, h'⟩); omega; rcases h3 with h3 | h3; exact h3 h; rw [h3] at h'; cases h'), if_neg (by omega), if_neg (fun h => h1 h.1), if_pos h2]
theorem extra_plain {d : Bool} : ∀ {l : List Ins}, (∀ x ∈ l, ctl d x = false) → extra l = 0
  | [], _ => rfl
  | x :: l, h => by
    have h1 := h x (by simp)
    simp only [ctl, Bool.or_eq_false_iff, beq_eq_false_iff_ne] at h1
    simp only [extra]
    rw [if_neg h1.1.1, extra_plain (fun y hy => h y (List.mem_cons_of_mem _ hy))]
    rfl
theorem chk_plain {l : List Ins} {d : Bool} (hl : ∀ x ∈ l, x.low) (hc : ∀ x ∈ l, ctl d x = false) (h24 : l.length ≤ 24) : chk l d = 0 :=
  chk_zero.2 ⟨h24, fun j hj => chkAt_plain (hl _ (List.getElem_mem hj)) (hc _ (List.getElem_mem hj)), by unfold fuel; rw [extra_plain hc]; omega⟩

def mov : Ins := ⟨1, 0, 0, 0, 0⟩
theorem mov_low : mov.low := by unfold Ins.low mov; simp
theorem mov_ctl (d : Bool) : ctl d mov = false := by simp [ctl, mov]
def odd (p : List Ins) (d : Bool) (k : Nat) (x : Ins) : Bool := chk p d != 0 && (chk (p.set k mov) d == 0 || ctl d x)
def badFrom (p : List Ins) (d : Bool) : Nat → List Ins → Option Nat
  | _, [] => none
  | k, x :: r => if odd p d k x = true then some k else badFrom p d (k + 1) r
def repair (d : Bool) : Nat → List Ins → List Ins
  | 0, p => p
  | n + 1, p => match badFrom p d 0 p with
    | none => p
    | some i => repair d n (p.set i mov)
theorem badFrom_none {p : List Ins} {d : Bool} : ∀ {r : List Ins} {k : Nat}, badFrom p d k r = none → ∀ j (h : j < r.length), odd p d (k + j) r[j] = false
  | [], _, _, j, h => by simp at h
  | x :: r, k, hb, j, hj => by
    simp only [badFrom] at hb
    split at hb
    · cases hb
    · rename_i h0
      cases j with
      | zero => simpa using h0
      | succ j => have := badFrom_none hb j (by simpa using hj); rw [show k + 1 + j = k + (j + 1) by omega] at this; simpa using this
theorem badFrom_some {p : List Ins} {d : Bool} {i : Nat} : ∀ {r : List Ins} {k : Nat}, badFrom p d k r = some i → k ≤ i ∧ ∃ h : i - k < r.length, odd p d i r[i - k] = true
  | [], _, hb => by cases hb
  | x :: r, k, hb => by
    simp only [badFrom] at hb
    split at hb
    · cases hb
      exact ⟨Nat.le_refl _, by simp, by simpa using ‹_›⟩
    · obtain ⟨h1, h2, h3⟩ := badFrom_some hb
      refine ⟨by omega, by simp; omega, ?_⟩
      have : i - k = (i - (k + 1)) + 1 := by omega
      simp only [this, List.getElem_cons_succ]
      exact h3
theorem repair_len (d : Bool) : ∀ (n : Nat) (p : List Ins), (repair d n p).length = p.length
  | 0, p => rfl
  | n + 1, p => by
    simp only [repair]
    split
    · rfl
    · rw [repair_len d n, List.length_set]
theorem repair_low (d : Bool) : ∀ (n : Nat) (p : List Ins), (∀ x ∈ p, x.low) → ∀ x ∈ repair d n p, x.low
  | 0, p, h => h
  | n + 1, p, h => by
    simp only [repair]
    split
    · exact h
    · refine repair_low d n _ (fun x hx => ?_)
      rcases List.mem_or_eq_of_mem_set hx with h1 | h1
      · exact h x h1
      · rw [h1]; exact mov_low
theorem badFrom_ok {p : List Ins} {d : Bool} (h : chk p d = 0) : ∀ (r : List Ins) (k : Nat), badFrom p d k r = none
  | [], _ => rfl
  | x :: r, k => by
    simp only [badFrom]
    rw [if_neg (by simp [odd, h]), badFrom_ok h r (k + 1)]
theorem repair_of_ok {d : Bool} {p : List Ins} (h : chk p d = 0) : ∀ n, repair d n p = p
  | 0 => rfl
  | n + 1 => by simp only [repair]; rw [badFrom_ok h]
theorem count_set {d : Bool} : ∀ {p : List Ins} {i : Nat} (h : i < p.length), ctl d p[i] = true → (p.set i mov).countP (ctl d) + 1 = p.countP (ctl d)
  | [], i, h, _ => by simp at h
  | x :: p, 0, _, hc => by
    simp only [List.getElem_cons_zero] at hc
    simp only [List.set_cons_zero, List.countP_cons, mov_ctl, hc]
    simp
  | x :: p, i + 1, h, hc => by
    have ih := count_set (d := d) (p := p) (i := i) (by simpa using h) (by simpa using hc)
    simp only [List.set_cons_succ, List.countP_cons]
    omega
theorem repair_ok {d : Bool} : ∀ (n : Nat) (p : List Ins), (∀ x ∈ p, x.low) → p.length ≤ 24 → p.countP (ctl d) < n → chk (repair d n p) d = 0
  | 0, p, _, _, h => by omega
  | n + 1, p, hl, h24, hc => by
    simp only [repair]
    by_cases hz : chk p d = 0
    · rw [badFrom_ok hz]; exact hz
    · cases hb : badFrom p d 0 p with
      | none =>
        exfalso
        apply hz
        refine chk_plain hl (fun x hx => ?_) h24
        obtain ⟨j, hj, rfl⟩ := List.getElem_of_mem hx
        have := badFrom_none hb j hj
        rw [Nat.zero_add] at this
        unfold odd at this
        rw [show (chk p d != 0) = true by simpa using hz, Bool.true_and, Bool.or_eq_false_iff] at this
        exact this.2
      | some i =>
        simp only
        obtain ⟨_, h1, h2⟩ := badFrom_some hb
        simp only [Nat.sub_zero] at h1 h2
        unfold odd at h2
        simp only [Bool.and_eq_true, Bool.or_eq_true, beq_iff_eq] at h2
        rcases h2.2 with h3 | h3
        · rw [repair_of_ok h3]; exact h3
        · refine repair_ok n _ (fun x hx => ?_) (by simpa using h24) (by have := count_set h1 h3; omega)
          rcases List.mem_or_eq_of_mem_set hx with h1 | h1
          · exact hl x h1
          · rw [h1]; exact mov_low

/-- The law's small instructions. -/
structure Sm where
  op : Int
  dst : Int
  a : Int
  b : Int
  imm : Int
  raw : Bool
def Sm.ins (s : Sm) : Ins := if s.op % 15 = 12 ∨ s.op % 15 = 11 then ⟨s.op % 15, s.dst % 12, s.a % 9, 1 + s.b % 4, 1 + s.imm % 4⟩ else ⟨s.op % 15, s.dst % 12, s.a % 9, s.b % 12, s.imm⟩
def Sm.good (x : Sm) : Prop := (0 ≤ x.op ∧ x.op < 256) ∧ (0 ≤ x.dst ∧ x.dst < 256) ∧ (0 ≤ x.a ∧ x.a < 256) ∧ (0 ≤ x.b ∧ x.b < 256) ∧ -32768 ≤ x.imm ∧ x.imm < 32768
theorem Sm.ins_low {s : Sm} (h : s.good) : s.ins.low := by
  unfold Sm.good at h
  unfold Sm.ins Ins.low
  split <;> simp only <;> omega
def prog (l : List Sm) (d : Bool) : List Ins := repair d 60 ((l.take 20).map Sm.ins)
theorem prog_len (l : List Sm) (d : Bool) : (prog l d).length ≤ 20 ∧ (prog l d).length ≤ l.length := by
  unfold prog; rw [repair_len, List.length_map, List.length_take]; omega
theorem prog_low {l : List Sm} (d : Bool) (h : ∀ s ∈ l, s.good) : ∀ x ∈ prog l d, x.low := by
  refine repair_low d 60 _ (fun x hx => ?_)
  obtain ⟨s, hs, rfl⟩ := List.mem_map.1 hx
  exact Sm.ins_low (h s (List.mem_of_mem_take hs))
theorem prog_ok {l : List Sm} (d : Bool) (h : ∀ s ∈ l, s.good) : chk (prog l d) d = 0 := by
  refine repair_ok 60 _ (fun x hx => ?_) (by rw [List.length_map, List.length_take]; omega) ?_
  · obtain ⟨s, hs, rfl⟩ := List.mem_map.1 hx
    exact Sm.ins_low (h s (List.mem_of_mem_take hs))
  · have := List.countP_le_length (p := ctl d) (l := (l.take 20).map Sm.ins)
    rw [List.length_map, List.length_take] at this
    omega
end Go.Proofs.Ytnknhedhoibepaa.Isa
