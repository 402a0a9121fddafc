/-
  Programs: check at any instruction; Fuel, Discards, Check.
-/
import Derived.Test.YtnknhedhoibepaaIsaChk
namespace Go.Proofs.Ytnknhedhoibepaa
open Go.RowKit Isa
set_option linter.unusedVariables false

theorem check_calls {w : World} {a : Option Addr} {n cap : Nat} {l : List Ins} (h : Prog w a n cap l) (h6 : n ≤ 1000000) (j : Nat) (hj : j < l.length) (x : Ins) (hx : x.good) (d : Bool) :
    Calls Try.prog 21 #[.slice a n cap, .int .i64 j, .agg #[.int .u8 x.op, .int .u8 x.dst, .int .u8 x.a, .int .u8 x.b, .int .i16 x.imm], .bool d] w fun e w' => e = .returned (.int .i64 (chkAt l j x d)) ∧ Below w.heap.size w w' := by
  obtain ⟨op, dst, xa, xb, imm⟩ := x
  by_cases h15 : 15 ≤ op
  · exact check_five h h6 j hj op dst xa xb imm hx d (.inl h15)
  by_cases h13 : op = 13
  · subst h13
    cases d with
    | false => exact check_five h h6 j hj 13 dst xa xb imm hx false (.inr ⟨rfl, rfl⟩)
    | true => exact check_disc h h6 j hj dst xa xb imm hx
  by_cases h14 : op = 14
  · subst h14; exact check_mat h h6 j hj dst xa xb imm hx d
  by_cases h12 : op = 12
  · subst h12; exact check_loop h h6 j hj dst xa xb imm hx d
  by_cases h11 : op = 11
  · subst h11; exact check_skip h h6 j hj dst xa xb imm hx d
  exact check_other h h6 j hj op dst xa xb imm hx d ⟨by omega, h11, h12, h13, h14⟩

def term (x : Ins) : Int := if x.op = 12 then x.b * (max x.imm 1 - 1) else 0
theorem extra_one (x : Ins) : extra [x] = term x := by simp [extra, term]
theorem extra_take {l : List Ins} {j : Nat} (hj : j < l.length) : extra (l.take (j + 1)) = extra (l.take j) + term l[j] := by
  rw [List.take_succ_eq_append_getElem hj, extra_append, extra_one]
theorem term_bd {x : Ins} (h : x.good) : 0 ≤ term x ∧ term x ≤ 8355585 := by
  unfold Ins.good at h
  unfold term
  split
  · obtain ⟨m, hm⟩ : ∃ m, max x.imm 1 - 1 = m := ⟨_, rfl⟩
    rw [hm]
    have h1 : 0 ≤ m ∧ m ≤ 32766 := by omega
    have h2 := Int.mul_le_mul (show x.b ≤ 255 by omega) h1.2 h1.1 (by omega)
    exact ⟨Int.mul_nonneg (by omega) h1.1, by omega⟩
  · omega
theorem extra_bd : ∀ {l : List Ins}, (∀ x ∈ l, x.good) → 0 ≤ extra l ∧ extra l ≤ 8355585 * l.length
  | [], _ => by simp [extra]
  | x :: l, h => by
    have h1 := extra_bd (l := l) (fun y hy => h y (List.mem_cons_of_mem _ hy))
    have h2 := term_bd (h x (by simp))
    show 0 ≤ term x + extra l ∧ term x + extra l ≤ _
    rw [List.length_cons]; omega

set_option maxRecDepth 10000 in
set_option maxHeartbeats 1000000 in
theorem fuel_calls {w : World} {a : Option Addr} {n cap : Nat} {l : List Ins} (h : Prog w a n cap l) (h6 : n ≤ 1000000) :
    Calls Try.prog 10 #[.slice a n cap] w fun e w' => e = .returned (.int .i64 (fuel l)) ∧ Below w.heap.size w w' := by
  obtain rfl := h.1
  go_enter Try.func10, Try.ntmps10
  go_wp2
  go_loopw [3, 10] (fun s k wr => ∃ j : Nat, ∃ z : Int, j ≤ l.length ∧ k = .int .i64 j ∧ s = .int .i64 z ∧ Hid (z = l.length + extra (l.take j)) ∧ Below w.heap.size w wr) (fun _ k _ => l.length - (intOf k).toNat)
  case atStart => exact ⟨0, _, Nat.zero_le _, rfl, rfl, by show _ = _; simp [extra], Below.refl _ _⟩
  case round =>
    obtain ⟨j, z, hj, rfl, rfl, HZ, hb⟩ := hrel
    by_cases hlt : j < l.length
    · obtain ⟨b, off, rfl, c0, c1, c2, c3, c4⟩ := (h.keep hb).at j hlt
      have HT := hid (extra_take hlt)
      have hg := h.2.2 l[j] (List.getElem_mem hlt)
      obtain ⟨t1, t2⟩ := term_bd hg
      obtain ⟨x, hx⟩ : ∃ x, l[j] = x := ⟨_, rfl⟩
      rw [hx] at HT hg c0 c1 c2 c3 c4 t1 t2
      obtain ⟨t, ht⟩ : ∃ t, term x = t := ⟨_, rfl⟩
      rw [ht] at HT t1 t2
      have HTT := hid ht
      obtain ⟨op, dst, xa, xb, imm⟩ := x
      unfold Ins.good at hg
      simp only at hg c0 c1 c2 c3 c4
      obtain ⟨g1, g2, g3, g4, g5, g6⟩ := hg
      have e1 := extra_bd (l := l.take j) (fun y hy => h.2.2 y (List.mem_of_mem_take hy))
      have hzb : 0 ≤ z ∧ z ≤ 9000000000000 := by
        have := HZ.out; have := List.length_take_le j l; omega
      have HN := hid (show z + t = l.length + extra (l.take (j + 1)) by have := HZ.out; have := HT.out; omega)
      clear hx ht e1
      by_cases ho : op = 12
      · subst ho
        obtain ⟨m, hm, hm1⟩ : ∃ m : Int, max imm 1 = m ∧ 1 ≤ m ∧ m ≤ 32767 := ⟨_, rfl, by omega⟩
        have ht2 : xb * (m - 1) = t := by have := HTT.out; unfold term at this; rw [if_pos rfl] at this; rw [← hm]; exact this
        have n1 : IntKind.i64.wrap xb = xb := IntWalk.i64_in _ (by omega)
        have n2 : IntKind.i64.wrap imm = imm := IntWalk.i64_in _ (by omega)
        have HM := hid hm
        clear hm
        by_cases hi : imm < 1
        · have hm3 : m = 1 := by have := HM.out; omega
          subst hm3
          have ht3 : t = 0 := by rw [← ht2]; simp
          subst ht3
          have hi2 := hi
          clear ht2
          go_wp2
          go_roundw
          case rel => exact ⟨j + 1, z, by omega, by go_num, by go_num, by have := HN.out; show _ = _; omega, hb.alloc hb.size _⟩
          case measure => simp [intOf]; omega
        · have hm3 : m = imm := by have := HM.out; omega
          subst hm3
          have hi2 : ¬ (m < 1) := hi
          go_wp2
          go_roundw
          case rel => exact ⟨j + 1, z + t, by omega, by go_num, by go_num, HN, hb.alloc hb.size _⟩
          case measure => simp [intOf]; omega
      · have ht3 : t = 0 := by have := HTT.out; unfold term at this; rw [if_neg ho] at this; exact this.symm
        subst ht3
        have b0 : (op == 12) = false := by rw [beq_eq_false_iff_ne]; exact ho
        clear ho
        go_wp2
        go_roundw
        case rel => exact ⟨j + 1, z, by omega, by go_num, rfl, by have := HN.out; show _ = _; omega, hb.alloc hb.size _⟩
        case measure => simp [intOf]; omega
    · have HZ2 : Hid (z = fuel l) := by show _ = _; have := HZ.out; rw [List.take_of_length_le (by omega)] at this; exact this
      have hlt2 : ¬ (j : Int) < (l.length : Int) := by omega
      go_wp2
      go_ret
      exact ⟨ret_int HZ2.out, hb⟩

theorem discards_take {l : List Ins} {j : Nat} (hj : j < l.length) : discards (l.take (j + 1)) = (discards (l.take j) || (l[j].op == 13)) := by
  rw [List.take_succ_eq_append_getElem hj, discards_append]; simp [discards]
set_option maxRecDepth 10000 in
theorem discards_calls {w : World} {a : Option Addr} {n cap : Nat} {l : List Ins} (h : Prog w a n cap l) (h6 : n ≤ 1000000) :
    Calls Try.prog 11 #[.slice a n cap] w fun e w' => e = .returned (.bool (discards l)) ∧ Below w.heap.size w w' := by
  obtain rfl := h.1
  go_enter Try.func11, Try.ntmps11
  go_wp2
  go_loopw [7] (fun k wr => ∃ j : Nat, j ≤ l.length ∧ k = .int .i64 j ∧ Hid (discards (l.take j) = false) ∧ Below w.heap.size w wr) (fun k _ => l.length - (intOf k).toNat)
  case atStart => exact ⟨0, Nat.zero_le _, rfl, rfl, Below.refl _ _⟩
  case round =>
    obtain ⟨j, hj, rfl, HZ, hb⟩ := hrel
    by_cases hlt : j < l.length
    · obtain ⟨b, off, rfl, c0, c1, c2, c3, c4⟩ := (h.keep hb).at j hlt
      have HT := hid (discards_take hlt)
      have HIN : Hid (l[j].op = 13 → discards l = true) := fun ho => List.any_eq_true.2 ⟨_, List.getElem_mem hlt, by rw [ho]; rfl⟩
      obtain ⟨x, hx⟩ : ∃ x, l[j] = x := ⟨_, rfl⟩
      rw [hx] at HT c0 c1 c2 c3 c4 HIN
      obtain ⟨op, dst, xa, xb, imm⟩ := x
      simp only at c0 c1 c2 c3 c4
      clear hx
      by_cases ho : op = 13
      · subst ho
        have HR : Hid (discards l = true) := HIN.out rfl
        go_wp2
        go_ret
        rw [HR.out]
        exact ⟨rfl, hb.alloc hb.size _⟩
      · have b0 : (op == 13) = false := by rw [beq_eq_false_iff_ne]; exact ho
        have HR : Hid (discards (l.take (j + 1)) = false) := by show _ = _; rw [HT.out, HZ.out]; simpa using ho
        clear ho
        go_wp2
        go_roundw
        case rel => exact ⟨j + 1, by omega, by go_num, HR, hb.alloc hb.size _⟩
        case measure => simp [intOf]; omega
    · have HZ2 : Hid (discards l = false) := by show _ = _; have := HZ.out; rw [List.take_of_length_le (by omega)] at this; exact this
      have hlt2 : ¬ (j : Int) < (l.length : Int) := by omega
      go_wp2
      go_ret
      rw [HZ2.out]
      exact ⟨rfl, hb⟩

theorem chkFrom_step {l : List Ins} {d : Bool} {j : Nat} (hj : j < l.length) : chkFrom l d j (l.drop j) = if chkAt l j l[j] d ≠ 0 then chkAt l j l[j] d else chkFrom l d (j + 1) (l.drop (j + 1)) := by
  rw [List.drop_eq_getElem_cons hj]; rfl
set_option maxRecDepth 10000 in
set_option maxHeartbeats 1000000 in
theorem chk_calls {w : World} {a : Option Addr} {n cap : Nat} {l : List Ins} (h : Prog w a n cap l) (h6 : n ≤ 1000000) (d : Bool) :
    Calls Try.prog 9 #[.slice a n cap, .bool d] w fun e w' => e = .returned (.int .i64 (chk l d)) ∧ Below w.heap.size w w' := by
  obtain rfl := h.1
  by_cases h24 : 24 < l.length
  · have HC : Hid (chk l d = 7) := by show _ = _; unfold chk; rw [if_pos h24]
    have d1 : decide ((l.length : Int) > 24) = true := by simp; omega
    clear h24
    go_enter Try.func9, Try.ntmps9
    go_wp2
    go_ret
    rw [HC.out]
    exact ⟨rfl, Below.refl _ _⟩
  · have HC : Hid (chk l d = if chkFrom l d 0 l ≠ 0 then chkFrom l d 0 l else if 200 < fuel l then 6 else 0) := by show _ = _; unfold chk; rw [if_neg h24]
    have d1 : decide ((l.length : Int) > 24) = false := by simp; omega
    have H24 := hid h24
    clear h24
    go_enter Try.func9, Try.ntmps9
    go_wp2
    go_loopw [13] (fun k wr => ∃ j : Nat, j ≤ l.length ∧ k = .int .i64 j ∧ Hid (chkFrom l d j (l.drop j) = chkFrom l d 0 l) ∧ Below w.heap.size w wr) (fun k _ => l.length - (intOf k).toNat)
    case atStart => exact ⟨0, Nat.zero_le _, rfl, rfl, Below.refl _ _⟩
    case round =>
      obtain ⟨j, hj, rfl, HZ, hb⟩ := hrel
      by_cases hlt : j < l.length
      · obtain ⟨b, off, rfl, c0, c1, c2, c3, c4⟩ := (h.keep hb).at j hlt
        have HT := hid (chkFrom_step (d := d) hlt)
        have hg := h.2.2 l[j] (List.getElem_mem hlt)
        obtain ⟨x, hx⟩ : ∃ x, l[j] = x := ⟨_, rfl⟩
        rw [hx] at HT c0 c1 c2 c3 c4 hg
        have HB := hid (fun o : Obj => check_calls (h.keep (hb.alloc hb.size o)) h6 j hlt x hg d)
        obtain ⟨r, hr⟩ : ∃ r, chkAt l j x d = r := ⟨_, rfl⟩
        rw [hr] at HB HT
        obtain ⟨op, dst, xa, xb, imm⟩ := x
        simp only at c0 c1 c2 c3 c4 HB
        clear hx hr hg
        by_cases hr0 : r = 0
        · subst hr0
          have HW : Hid (chkFrom l d (j + 1) (l.drop (j + 1)) = chkFrom l d 0 l) := by show _ = _; rw [← HZ.out, HT.out, if_neg (fun h => h rfl)]
          go_wp2_with (go_at_call 21; refine (HB.out _).mono ?_; rintro e w2 ⟨rfl, hb2⟩)
          go_roundw
          case rel => exact ⟨j + 1, by omega, by go_num, HW, (hb.alloc hb.size _).trans (hb2.mono (hb.alloc hb.size _).size)⟩
          case measure => simp [intOf]; omega
        · have HW : Hid (chk l d = r) := by
            have : chkFrom l d 0 l = r := by rw [← HZ.out, HT.out, if_pos hr0]
            show _ = _
            rw [HC.out, this, if_pos hr0]
          have b0 : (r != 0) = true := by rw [bne_iff_ne]; exact hr0
          clear hr0
          go_wp2_with (go_at_call 21; refine (HB.out _).mono ?_; rintro e w2 ⟨rfl, hb2⟩)
          go_ret
          exact ⟨ret_int HW.out.symm, (hb.alloc hb.size _).trans (hb2.mono (hb.alloc hb.size _).size)⟩
      · have HZ2 : Hid (chk l d = if 200 < fuel l then 6 else 0) := by
          show _ = _
          have := HZ.out; rw [List.drop_of_length_le (by omega)] at this
          have h0 : chkFrom l d 0 l = 0 := this.symm
          rw [HC.out, h0]; rfl
        have HB := hid (fuel_calls (h.keep hb) h6)
        have hlt2 : ¬ (j : Int) < (l.length : Int) := by omega
        obtain ⟨f, hf⟩ : ∃ f, fuel l = f := ⟨_, rfl⟩
        rw [hf] at HB HZ2
        clear hf
        by_cases hf2 : 200 < f
        · have d2 : decide (f > 200) = true := by simp; omega
          rw [if_pos hf2] at HZ2
          clear hf2
          go_wp2_with (go_at_call 10; refine HB.out.mono ?_; rintro e w2 ⟨rfl, hb2⟩)
          go_ret
          exact ⟨ret_int HZ2.out.symm, hb.trans (hb2.mono hb.size)⟩
        · have d2 : decide (f > 200) = false := by simp; omega
          rw [if_neg hf2] at HZ2
          clear hf2
          go_wp2_with (go_at_call 10; refine HB.out.mono ?_; rintro e w2 ⟨rfl, hb2⟩)
          go_ret
          exact ⟨ret_int HZ2.out.symm, hb.trans (hb2.mono hb.size)⟩
end Go.Proofs.Ytnknhedhoibepaa
