/-
  Programs: check, Check.
-/
import Derived.Test.YtnknhedhoibepaaIsaMem
namespace Go.Proofs.Ytnknhedhoibepaa
set_option linter.unusedVariables false
set_option linter.unusedSimpArgs false
open Go.RowKit Isa

theorem ret_int {k : IntKind} {a b : Int} (h : a = b) : Ending.returned (.int k a) = .returned (.int k b) := by rw [h]
theorem chk_five {l : List Ins} {j op dst xa xb imm : Int} {d : Bool} (h : 15 ≤ op ∨ (op = 13 ∧ d = false)) : chkAt l j ⟨op, dst, xa, xb, imm⟩ d = 5 := by
  unfold chkAt; rw [if_pos h]
theorem chk_other {l : List Ins} {j op dst xa xb imm : Int} {d : Bool} (h : op < 15 ∧ (op = 13 → d = true)) (h2 : op ≠ 11 ∧ op ≠ 12) : chkAt l j ⟨op, dst, xa, xb, imm⟩ d = if 12 ≤ dst ∨ 12 ≤ xa ∨ 12 ≤ xb ∨ (op = 14 ∧ 8 < xa) then 2 else 0 := by
  unfold chkAt
  rw [if_neg (by rintro (h1 | ⟨h1, h3⟩); simp only at h1; omega; rw [h.2 h1] at h3; cases h3)]
  simp only
  by_cases hb : 12 ≤ dst ∨ 12 ≤ xa ∨ 12 ≤ xb ∨ (op = 14 ∧ 8 < xa)
  · rw [if_pos hb, if_pos (by omega)]
  · rw [if_neg hb, if_neg (by omega), if_neg (fun h => h2.2 h.1), if_pos h2.1]
theorem chk_loop {l : List Ins} {j dst xa xb imm : Int} {d : Bool} : chkAt l j ⟨12, dst, xa, xb, imm⟩ d = if 12 ≤ dst ∨ 12 ≤ xa then 2 else if (within l j).isSome = true ∨ xb < 1 ∨ (l.length : Int) - j - 1 < xb ∨ imm < 1 ∨ 8 < imm then 12 else 0 := by
  unfold chkAt
  rw [if_neg (by rintro (h1 | ⟨h1, _⟩) <;> simp only at h1 <;> omega)]
  simp only
  by_cases hb : 12 ≤ dst ∨ 12 ≤ xa
  · rw [if_pos hb, if_pos (by omega)]
  · rw [if_neg hb, if_neg (by omega)]
    by_cases hc : (within l j).isSome = true ∨ xb < 1 ∨ (l.length : Int) - j - 1 < xb ∨ imm < 1 ∨ 8 < imm
    · rw [if_pos hc, if_pos (by first | exact ⟨rfl, hc⟩ | exact ⟨trivial, hc⟩)]
    · rw [if_neg hc, if_neg (fun h => hc h.2), if_pos (by omega)]
theorem chk_skip {l : List Ins} {j dst xa xb imm : Int} {d : Bool} : chkAt l j ⟨11, dst, xa, xb, imm⟩ d = if 12 ≤ dst ∨ 12 ≤ xa ∨ 12 ≤ xb then 2 else if imm < 1 ∨ (l.length : Int) < j + 1 + imm ∨ ((within l j).isSome = true ∧ wto (within l j) < j + 1 + imm) then 12
    else if (within l (j + 1 + imm)).isSome = true ∧ ¬ ((within l j).isSome = true ∧ wfrom (within l (j + 1 + imm)) = wfrom (within l j)) then 12 else 0 := by
  unfold chkAt
  rw [if_neg (by rintro (h1 | ⟨h1, _⟩) <;> simp only at h1 <;> omega)]
  simp only
  by_cases hb : 12 ≤ dst ∨ 12 ≤ xa ∨ 12 ≤ xb
  · rw [if_pos hb, if_pos (by omega)]
  · rw [if_neg hb, if_neg (by omega), if_neg (by omega), if_neg (by omega)]
    unfold skipAt
    cases within l j with
    | none =>
      simp only [Option.isSome_none, Bool.false_eq_true, false_and, or_false, not_false_eq_true, and_true]
      by_cases h1 : imm < 1 ∨ (l.length : Int) < j + 1 + imm
      · rw [if_pos h1, if_pos h1]
      · rw [if_neg h1, if_neg h1]
        cases within l (j + 1 + imm) with
        | none => simp
        | some r => simp
    | some r =>
      obtain ⟨f, t⟩ := r
      simp only [Option.isSome_some, true_and, wto, wfrom]
      by_cases h1 : imm < 1 ∨ (l.length : Int) < j + 1 + imm ∨ t < j + 1 + imm
      · rw [if_pos h1, if_pos h1]
      · rw [if_neg h1, if_neg h1]
        cases within l (j + 1 + imm) with
        | none => simp
        | some r =>
          obtain ⟨f2, t2⟩ := r
          simp only [Option.isSome_some, true_and]
          by_cases h2 : f2 = f
          · rw [if_pos h2, if_neg (fun h => h h2)]
          · rw [if_neg h2, if_pos h2]

set_option maxRecDepth 10000 in
set_option maxHeartbeats 1000000 in
theorem check_five {w : World} {a : Option Addr} {n cap : Nat} {l : List Ins} (h : Prog w a n cap l) (h6 : n ≤ 1000000) (j : Nat) (_ : j < l.length) (op dst xa xb imm : Int) (hx : (Ins.mk op dst xa xb imm).good) (d : Bool) (ho : 15 ≤ op ∨ (op = 13 ∧ d = false)) :
    Calls Try.prog 21 #[.slice a n cap, .int .i64 j, .agg #[.int .u8 op, .int .u8 dst, .int .u8 xa, .int .u8 xb, .int .i16 imm], .bool d] w fun e w' => e = .returned (.int .i64 (chkAt l j ⟨op, dst, xa, xb, imm⟩ d)) ∧ Below w.heap.size w w' := by
  obtain rfl := h.1
  unfold Ins.good at hx
  simp only at hx
  have hb0 := (Below.refl w.heap.size w).alloc (Nat.le_refl _) (.cells #[.int .u8 op, .int .u8 dst, .int .u8 xa, .int .u8 xb, .int .i16 imm] 30)
  have hP := h.keep hb0
  have HB := within_calls hP h6 (j : Int)
  rw [wcells_eq] at HB
  obtain ⟨f1, t1, s1, hf1, ht1, hs1⟩ : ∃ f1 t1 s1, wfrom (within l (j : Int)) = f1 ∧ wto (within l (j : Int)) = t1 ∧ (within l (j : Int)).isSome = s1 := ⟨_, _, _, rfl, rfl, rfl⟩
  rw [hf1, ht1, hs1] at HB
  have HC : Hid _ := chk_five (l := l) (j := j) (dst := dst) (xa := xa) (xb := xb) (imm := imm) ho
  have d1 : (decide (op ≥ 15) = true) ∨ (decide (op ≥ 15) = false ∧ (op == 13) = true ∧ d = false) := by
    rcases ho with h1 | ⟨rfl, rfl⟩
    · left; simp; omega
    · right; exact ⟨rfl, rfl, rfl⟩
  clear hf1 ht1 hs1 ho hx
  obtain ⟨c1, c2, hc1, hc2⟩ : ∃ c1 c2 : Bool, decide (op ≥ 15) = c1 ∧ (op == 13) = c2 := ⟨_, _, rfl, rfl⟩
  rw [hc1, hc2] at d1
  rcases d1 with rfl | ⟨rfl, rfl, rfl⟩
  all_goals
   skip
   go_enter Try.func21, Try.ntmps21
   go_wp2_with (first
    | (go_at_call 29; with_reducible refine HB.mono ?_; rintro e w1 ⟨rfl, q1, rfl⟩))
   go_ret
   refine ⟨ret_int ?_, hb0.trans ((below_draws _ _ _).mono hb0.size)⟩
   rw [HC.out]
set_option maxRecDepth 10000 in
set_option maxHeartbeats 1000000 in
theorem check_other {w : World} {a : Option Addr} {n cap : Nat} {l : List Ins} (h : Prog w a n cap l) (h6 : n ≤ 1000000) (j : Nat) (_ : j < l.length) (op dst xa xb imm : Int) (hx : (Ins.mk op dst xa xb imm).good) (d : Bool) (ho : op < 15 ∧ op ≠ 11 ∧ op ≠ 12 ∧ op ≠ 13 ∧ op ≠ 14) :
    Calls Try.prog 21 #[.slice a n cap, .int .i64 j, .agg #[.int .u8 op, .int .u8 dst, .int .u8 xa, .int .u8 xb, .int .i16 imm], .bool d] w fun e w' => e = .returned (.int .i64 (chkAt l j ⟨op, dst, xa, xb, imm⟩ d)) ∧ Below w.heap.size w w' := by
  obtain rfl := h.1
  unfold Ins.good at hx
  simp only at hx
  have hb0 := (Below.refl w.heap.size w).alloc (Nat.le_refl _) (.cells #[.int .u8 op, .int .u8 dst, .int .u8 xa, .int .u8 xb, .int .i16 imm] 30)
  have hP := h.keep hb0
  have HB := within_calls hP h6 (j : Int)
  rw [wcells_eq] at HB
  obtain ⟨f1, t1, s1, hf1, ht1, hs1⟩ : ∃ f1 t1 s1, wfrom (within l (j : Int)) = f1 ∧ wto (within l (j : Int)) = t1 ∧ (within l (j : Int)).isSome = s1 := ⟨_, _, _, rfl, rfl, rfl⟩
  rw [hf1, ht1, hs1] at HB
  have HC : Hid _ := chk_other (l := l) (j := j) (dst := dst) (xa := xa) (xb := xb) (imm := imm) (d := d) (show op < 15 ∧ (op = 13 → d = true) from ⟨ho.1, fun h => absurd h ho.2.2.2.1⟩) ⟨ho.2.1, ho.2.2.1⟩
  have HO := hid ho
  have d1 : decide (op ≥ 15) = false := by simp; omega
  have d2 : (op == 13) = false := by rw [beq_eq_false_iff_ne]; omega
  have d3 : (op == 14) = false := by rw [beq_eq_false_iff_ne]; omega
  have d4 : (op != 12) = true := by rw [bne_iff_ne]; omega
  have d5 : (op == 12) = false := by rw [beq_eq_false_iff_ne]; omega
  have d6 : (op != 11) = true := by rw [bne_iff_ne]; omega
  clear hf1 ht1 hs1 ho hx
  go_enter Try.func21, Try.ntmps21
  go_wp2_with (first
    | (go_at_call 29; with_reducible refine HB.mono ?_; rintro e w1 ⟨rfl, q1, rfl⟩))
  all_goals
    go_ret
    refine ⟨ret_int ?_, hb0.trans ((below_draws _ _ _).mono hb0.size)⟩
    rw [HC.out]
    have := HO.out
    (repeat' split) <;> first | rfl | (exfalso; omega) | simp_all
set_option maxRecDepth 10000 in
set_option maxHeartbeats 1000000 in
theorem check_disc {w : World} {a : Option Addr} {n cap : Nat} {l : List Ins} (h : Prog w a n cap l) (h6 : n ≤ 1000000) (j : Nat) (_ : j < l.length) (dst xa xb imm : Int) (hx : (Ins.mk 13 dst xa xb imm).good)   :
    Calls Try.prog 21 #[.slice a n cap, .int .i64 j, .agg #[.int .u8 13, .int .u8 dst, .int .u8 xa, .int .u8 xb, .int .i16 imm], .bool true] w fun e w' => e = .returned (.int .i64 (chkAt l j ⟨13, dst, xa, xb, imm⟩ true)) ∧ Below w.heap.size w w' := by
  obtain rfl := h.1
  unfold Ins.good at hx
  simp only at hx
  have hb0 := (Below.refl w.heap.size w).alloc (Nat.le_refl _) (.cells #[.int .u8 13, .int .u8 dst, .int .u8 xa, .int .u8 xb, .int .i16 imm] 30)
  have hP := h.keep hb0
  have HB := within_calls hP h6 (j : Int)
  rw [wcells_eq] at HB
  obtain ⟨f1, t1, s1, hf1, ht1, hs1⟩ : ∃ f1 t1 s1, wfrom (within l (j : Int)) = f1 ∧ wto (within l (j : Int)) = t1 ∧ (within l (j : Int)).isSome = s1 := ⟨_, _, _, rfl, rfl, rfl⟩
  rw [hf1, ht1, hs1] at HB
  have HC : Hid _ := chk_other (l := l) (j := j) (op := 13) (dst := dst) (xa := xa) (xb := xb) (imm := imm) (d := true) ⟨by omega, fun _ => rfl⟩ ⟨by omega, by omega⟩
  clear hf1 ht1 hs1
  go_enter Try.func21, Try.ntmps21
  go_wp2_with (first
    | (go_at_call 29; with_reducible refine HB.mono ?_; rintro e w1 ⟨rfl, q1, rfl⟩))
  all_goals
    go_ret
    refine ⟨ret_int ?_, hb0.trans ((below_draws _ _ _).mono hb0.size)⟩
    rw [HC.out]
    (repeat' split) <;> first | rfl | (exfalso; omega) | simp_all
set_option maxRecDepth 10000 in
set_option maxHeartbeats 1000000 in
theorem check_mat {w : World} {a : Option Addr} {n cap : Nat} {l : List Ins} (h : Prog w a n cap l) (h6 : n ≤ 1000000) (j : Nat) (_ : j < l.length) (dst xa xb imm : Int) (hx : (Ins.mk 14 dst xa xb imm).good) (d : Bool)  :
    Calls Try.prog 21 #[.slice a n cap, .int .i64 j, .agg #[.int .u8 14, .int .u8 dst, .int .u8 xa, .int .u8 xb, .int .i16 imm], .bool d] w fun e w' => e = .returned (.int .i64 (chkAt l j ⟨14, dst, xa, xb, imm⟩ d)) ∧ Below w.heap.size w w' := by
  obtain rfl := h.1
  unfold Ins.good at hx
  simp only at hx
  have hb0 := (Below.refl w.heap.size w).alloc (Nat.le_refl _) (.cells #[.int .u8 14, .int .u8 dst, .int .u8 xa, .int .u8 xb, .int .i16 imm] 30)
  have hP := h.keep hb0
  have HB := within_calls hP h6 (j : Int)
  rw [wcells_eq] at HB
  obtain ⟨f1, t1, s1, hf1, ht1, hs1⟩ : ∃ f1 t1 s1, wfrom (within l (j : Int)) = f1 ∧ wto (within l (j : Int)) = t1 ∧ (within l (j : Int)).isSome = s1 := ⟨_, _, _, rfl, rfl, rfl⟩
  rw [hf1, ht1, hs1] at HB
  have HC : Hid _ := chk_other (l := l) (j := j) (op := 14) (dst := dst) (xa := xa) (xb := xb) (imm := imm) (d := d) ⟨by omega, fun h => absurd h (by omega)⟩ ⟨by omega, by omega⟩
  simp only [true_and] at HC
  clear hf1 ht1 hs1
  go_enter Try.func21, Try.ntmps21
  go_wp2_with (first
    | (go_at_call 29; with_reducible refine HB.mono ?_; rintro e w1 ⟨rfl, q1, rfl⟩))
  all_goals
    go_ret
    refine ⟨ret_int ?_, hb0.trans ((below_draws _ _ _).mono hb0.size)⟩
    rw [HC.out]
    (repeat' split) <;> first | rfl | (exfalso; omega) | simp_all
set_option maxRecDepth 10000 in
set_option maxHeartbeats 1000000 in
theorem check_loop {w : World} {a : Option Addr} {n cap : Nat} {l : List Ins} (h : Prog w a n cap l) (h6 : n ≤ 1000000) (j : Nat) (_ : j < l.length) (dst xa xb imm : Int) (hx : (Ins.mk 12 dst xa xb imm).good) (d : Bool)  :
    Calls Try.prog 21 #[.slice a n cap, .int .i64 j, .agg #[.int .u8 12, .int .u8 dst, .int .u8 xa, .int .u8 xb, .int .i16 imm], .bool d] w fun e w' => e = .returned (.int .i64 (chkAt l j ⟨12, dst, xa, xb, imm⟩ d)) ∧ Below w.heap.size w w' := by
  obtain rfl := h.1
  unfold Ins.good at hx
  simp only at hx
  have hb0 := (Below.refl w.heap.size w).alloc (Nat.le_refl _) (.cells #[.int .u8 12, .int .u8 dst, .int .u8 xa, .int .u8 xb, .int .i16 imm] 30)
  have hP := h.keep hb0
  have HB := within_calls hP h6 (j : Int)
  rw [wcells_eq] at HB
  obtain ⟨f1, t1, s1, hf1, ht1, hs1⟩ : ∃ f1 t1 s1, wfrom (within l (j : Int)) = f1 ∧ wto (within l (j : Int)) = t1 ∧ (within l (j : Int)).isSome = s1 := ⟨_, _, _, rfl, rfl, rfl⟩
  rw [hf1, ht1, hs1] at HB
  have HC : Hid _ := chk_loop (l := l) (j := j) (dst := dst) (xa := xa) (xb := xb) (imm := imm) (d := d)
  rw [hs1] at HC
  have n1 : IntKind.i64.wrap xb = xb := IntWalk.i64_in _ (by omega)
  clear hf1 ht1 hs1
  cases s1
  all_goals
   try simp only [Bool.false_eq_true, true_or, false_or, or_true, or_false, true_and, false_and, and_true, and_false, not_true_eq_false, not_false_eq_true, ↓reduceIte] at HC
   go_enter Try.func21, Try.ntmps21
   go_wp2_with (first
    | (go_at_call 29; with_reducible refine HB.mono ?_; rintro e w1 ⟨rfl, q1, rfl⟩))
   all_goals
    go_ret
    refine ⟨ret_int ?_, hb0.trans ((below_draws _ _ _).mono hb0.size)⟩
    rw [HC.out]
    (repeat' split) <;> first | rfl | (exfalso; omega) | simp_all
set_option maxRecDepth 10000 in
set_option maxHeartbeats 1000000 in
theorem check_skip {w : World} {a : Option Addr} {n cap : Nat} {l : List Ins} (h : Prog w a n cap l) (h6 : n ≤ 1000000) (j : Nat) (_ : j < l.length) (dst xa xb imm : Int) (hx : (Ins.mk 11 dst xa xb imm).good) (d : Bool)  :
    Calls Try.prog 21 #[.slice a n cap, .int .i64 j, .agg #[.int .u8 11, .int .u8 dst, .int .u8 xa, .int .u8 xb, .int .i16 imm], .bool d] w fun e w' => e = .returned (.int .i64 (chkAt l j ⟨11, dst, xa, xb, imm⟩ d)) ∧ Below w.heap.size w w' := by
  obtain rfl := h.1
  unfold Ins.good at hx
  simp only at hx
  have hb0 := (Below.refl w.heap.size w).alloc (Nat.le_refl _) (.cells #[.int .u8 11, .int .u8 dst, .int .u8 xa, .int .u8 xb, .int .i16 imm] 30)
  have hP := h.keep hb0
  have HB := within_calls hP h6 (j : Int)
  rw [wcells_eq] at HB
  obtain ⟨f1, t1, s1, hf1, ht1, hs1⟩ : ∃ f1 t1 s1, wfrom (within l (j : Int)) = f1 ∧ wto (within l (j : Int)) = t1 ∧ (within l (j : Int)).isSome = s1 := ⟨_, _, _, rfl, rfl, rfl⟩
  rw [hf1, ht1, hs1] at HB
  have HC : Hid _ := chk_skip (l := l) (j := j) (dst := dst) (xa := xa) (xb := xb) (imm := imm) (d := d)
  rw [hs1, ht1, hf1] at HC
  have n1 : IntKind.i64.wrap imm = imm := IntWalk.i64_in _ (by omega)
  have HB2 : ∀ q, Calls Try.prog 29 #[.slice a l.length cap, .int .i64 ((j : Int) + 1 + imm)] _ _ := fun q => within_calls (hP.drewN q) h6 ((j : Int) + 1 + imm)
  rw [wcells_eq] at HB2
  obtain ⟨f2, t2, s2, hf2, ht2, hs2⟩ : ∃ f2 t2 s2, wfrom (within l ((j : Int) + 1 + imm)) = f2 ∧ wto (within l ((j : Int) + 1 + imm)) = t2 ∧ (within l ((j : Int) + 1 + imm)).isSome = s2 := ⟨_, _, _, rfl, rfl, rfl⟩
  rw [hf2, ht2, hs2] at HB2
  rw [hs2, hf2] at HC
  clear hf1 ht1 hs1 hf2 ht2 hs2
  cases s1 <;> cases s2
  all_goals
   try simp only [Bool.false_eq_true, true_or, false_or, or_true, or_false, true_and, false_and, and_true, and_false, not_true_eq_false, not_false_eq_true, ↓reduceIte] at HC
   go_enter Try.func21, Try.ntmps21
   go_wp2_with (first
    | (go_at_call 29; with_reducible refine HB.mono ?_; rintro e w1 ⟨rfl, q1, rfl⟩)
    | (go_at_call 29; refine (HB2 _).mono ?_; rintro e w1 ⟨rfl, q2, rfl⟩))
   all_goals
    go_ret
    refine ⟨ret_int ?_, by first | exact hb0.trans ((below_draws _ _ _).mono hb0.size) | (rw [World.drewN_drewN]; exact hb0.trans ((below_draws _ _ _).mono hb0.size))⟩
    rw [HC.out]
    (repeat' split) <;> first | rfl | (exfalso; omega) | simp_all
end Go.Proofs.Ytnknhedhoibepaa
