/-
  A program, taken out of bytes (plain): what is put comes back; what comes was put.
-/
import Derived.Test.YtnknhedhoibepaaIsaBytes
import Derived.Test.YtnknhedhoibepaaWireTook
import Derived.Test.YtnknhedhoibepaaWireBackP
namespace Go.Proofs.Ytnknhedhoibepaa
open Go.RowKit Isa

def takeIns (bs : List UInt8) (s : Rs) : Ins × Rs :=
  let a := rByte bs s
  let b := rByte bs a.2
  let c := rByte bs b.2
  let d := rByte bs c.2
  let e := rWithin bs d.2 (-32768) 32767
  (⟨a.1, b.1, c.1, d.1, e.1⟩, e.2)
def takeFrom (bs : List UInt8) : Nat → Rs → List Ins → List Ins × Rs
  | 0, s, p => (p, s)
  | k + 1, s, p => if s.err ≠ 0 then (p, s) else takeFrom bs k (takeIns bs s).2 (p ++ [(takeIns bs s).1])
def takeRaw (bs : List UInt8) (s : Rs) : List Ins × Rs := takeFrom bs (rCount bs s 24).1 (rCount bs s 24).2 []
def takeEnd (q : List Ins × Rs) (d : Bool) : Rs := if q.2.err = 0 then (if chk q.1 d ≠ 0 then rFail q.2 (chk q.1 d) else q.2) else q.2
def takeP (bs : List UInt8) (s : Rs) (d : Bool) : List Ins × Rs := (if (takeEnd (takeRaw bs s) d).err ≠ 0 then [] else (takeRaw bs s).1, takeEnd (takeRaw bs s) d)

theorem rByte_bd (bs : List UInt8) (s : Rs) : (rByte bs s).1 < 256 := rByte_lt bs s
theorem rWithin_bd (bs : List UInt8) (s : Rs) : -32768 ≤ (rWithin bs s (-32768) 32767).1 ∧ (rWithin bs s (-32768) 32767).1 ≤ 32767 := by
  by_cases h : (rWithin bs s (-32768) 32767).2.err = 0
  · exact within_in _ _ h
  · unfold rWithin at h ⊢
    simp only at h ⊢
    rw [if_neg h]; omega
theorem takeIns_good (bs : List UInt8) (s : Rs) : (takeIns bs s).1.good := by
  have h1 := rByte_bd bs s
  have h2 := rByte_bd bs (rByte bs s).2
  have h3 := rByte_bd bs (rByte bs (rByte bs s).2).2
  have h4 := rByte_bd bs (rByte bs (rByte bs (rByte bs s).2).2).2
  have h5 := rWithin_bd bs (rByte bs (rByte bs (rByte bs (rByte bs s).2).2).2).2
  unfold Ins.good takeIns
  simp only
  omega
theorem takeFrom_good (bs : List UInt8) : ∀ (k : Nat) (s : Rs) (p : List Ins), (∀ x ∈ p, x.good) → ∀ x ∈ (takeFrom bs k s p).1, x.good
  | 0, _, _, h => h
  | k + 1, s, p, h => by
    simp only [takeFrom]
    split
    · exact h
    · refine takeFrom_good bs k _ _ (fun x hx => ?_)
      rcases List.mem_append.1 hx with h1 | h1
      · exact h x h1
      · simp at h1; rw [h1]; exact takeIns_good bs s
theorem takeFrom_len (bs : List UInt8) : ∀ (k : Nat) (s : Rs) (p : List Ins), (takeFrom bs k s p).1.length ≤ p.length + k
  | 0, _, _ => Nat.le_refl _
  | k + 1, s, p => by
    simp only [takeFrom]
    split
    · simp
    · have := takeFrom_len bs k (takeIns bs s).2 (p ++ [(takeIns bs s).1])
      rw [List.length_append] at this; simp at this; omega

theorem part_part (bs : List UInt8) (i j k : Nat) (h1 : i ≤ j) (h2 : j ≤ k) (_ : k ≤ bs.length) : part bs i j ++ part bs j k = part bs i k := by
  unfold part
  have e : bs.drop j = (bs.drop i).drop (j - i) := by rw [List.drop_drop]; congr 1; omega
  rw [e, show k - i = (j - i) + (k - j) by omega, List.take_add]
theorem by8_nat (n : Nat) : by8 (n : Int) = UInt8.ofNat n := by unfold by8; rw [Int.toNat_natCast]
theorem takeIns_ok {bs : List UInt8} {s : Rs} (hs : s.at_ ≤ bs.length) : (takeIns bs s).2.at_ ≤ bs.length ∧ ((takeIns bs s).2.err = 0 → s.err = 0 ∧ s.at_ < (takeIns bs s).2.at_ ∧ insBytes (takeIns bs s).1 = part bs s.at_ (takeIns bs s).2.at_) := by
  obtain ⟨a, sa, ha⟩ : ∃ a sa, rByte bs s = (a, sa) := ⟨_, _, rfl⟩
  have t1 := took_byte hs
  rw [ha] at t1
  obtain ⟨b, sb, hb⟩ : ∃ b sb, rByte bs sa = (b, sb) := ⟨_, _, rfl⟩
  have t2 := took_byte t1.far
  simp only at t2
  rw [hb] at t2
  obtain ⟨c, sc, hc⟩ : ∃ c sc, rByte bs sb = (c, sc) := ⟨_, _, rfl⟩
  have t3 := took_byte t2.far
  simp only at t3
  rw [hc] at t3
  obtain ⟨d, sd, hd⟩ : ∃ d sd, rByte bs sc = (d, sd) := ⟨_, _, rfl⟩
  have t4 := took_byte t3.far
  simp only at t4
  rw [hd] at t4
  obtain ⟨e, se, he⟩ : ∃ e se, rWithin bs sd (-32768) 32767 = (e, se) := ⟨_, _, rfl⟩
  have t5 := took_within (-32768) 32767 t4.far
  simp only at t5
  rw [he] at t5
  have hT : takeIns bs s = (⟨a, b, c, d, e⟩, se) := by unfold takeIns; simp only [ha, hb, hc, hd, he]
  rw [hT]
  simp only at t1 t2 t3 t4 t5 ⊢
  refine ⟨t5.far, fun h => ?_⟩
  obtain ⟨h5, l5, p5⟩ := t5.ok h
  obtain ⟨h4, l4, p4⟩ := t4.ok h5
  obtain ⟨h3, l3, p3⟩ := t3.ok h4
  obtain ⟨h2, l2, p2⟩ := t2.ok h3
  obtain ⟨h1, l1, p1⟩ := t1.ok h2
  have f1 := t1.far
  have f2 := t2.far
  have f3 := t3.far
  have f4 := t4.far
  have f5 := t5.far
  refine ⟨h1, by omega, ?_⟩
  unfold insBytes
  simp only [by8_nat]
  rw [p5]
  rw [show ([UInt8.ofNat a, UInt8.ofNat b, UInt8.ofNat c, UInt8.ofNat d] : List UInt8) = [UInt8.ofNat a] ++ ([UInt8.ofNat b] ++ ([UInt8.ofNat c] ++ [UInt8.ofNat d])) from rfl, p1, p2, p3, p4]
  simp only [List.append_assoc]
  rw [part_part bs sc.at_ sd.at_ se.at_ (by omega) (by omega) (by omega), part_part bs sb.at_ sc.at_ se.at_ (by omega) (by omega) (by omega), part_part bs sa.at_ sb.at_ se.at_ (by omega) (by omega) (by omega), part_part bs s.at_ sa.at_ se.at_ (by omega) (by omega) (by omega)]
theorem takeFrom_ok {bs : List UInt8} : ∀ (k : Nat) (s : Rs) (p : List Ins), s.at_ ≤ bs.length → (takeFrom bs k s p).2.at_ ≤ bs.length ∧
    ((takeFrom bs k s p).2.err = 0 → s.err = 0 ∧ s.at_ ≤ (takeFrom bs k s p).2.at_ ∧ ∃ r, (takeFrom bs k s p).1 = p ++ r ∧ r.length = k ∧ (r.map insBytes).flatten = part bs s.at_ (takeFrom bs k s p).2.at_)
  | 0, s, p, hs => ⟨hs, fun h => ⟨h, Nat.le_refl _, [], by simp [takeFrom], rfl, by simp [takeFrom, part_self]⟩⟩
  | k + 1, s, p, hs => by
    simp only [takeFrom]
    by_cases he : s.err = 0
    · rw [if_neg (by simpa using he)]
      obtain ⟨h1, h2⟩ := takeIns_ok (bs := bs) hs
      obtain ⟨h3, h4⟩ := takeFrom_ok k (takeIns bs s).2 (p ++ [(takeIns bs s).1]) h1
      refine ⟨h3, fun h => ?_⟩
      obtain ⟨h5, h6, r, hr, hl, hp⟩ := h4 h
      obtain ⟨_, h7, h8⟩ := h2 h5
      refine ⟨he, by omega, (takeIns bs s).1 :: r, by rw [hr]; simp, by simp [hl], ?_⟩
      simp only [List.map_cons, List.flatten_cons]
      rw [h8, hp]
      exact part_part bs _ _ _ (by omega) h6 h3
    · rw [if_pos (by simpa using he)]
      exact ⟨hs, fun h => absurd h he⟩
theorem takeEnd_at (q : List Ins × Rs) (d : Bool) : (takeEnd q d).at_ = q.2.at_ := by
  unfold takeEnd
  split
  · split
    · rw [rFail_at]
    · rfl
  · rfl
theorem takeEnd_ok {q : List Ins × Rs} {d : Bool} (h : (takeEnd q d).err = 0) : q.2.err = 0 ∧ chk q.1 d = 0 ∧ takeEnd q d = q.2 := by
  unfold takeEnd at h ⊢
  split at h
  · rename_i h0
    rw [if_pos h0]
    split at h
    · rename_i h1
      exact absurd h (rFail_err _ _ h1)
    · rename_i h1
      rw [if_neg h1]
      exact ⟨h0, by simpa using h1, rfl⟩
  · exact absurd h ‹_›
/-- A program that was taken is one, and its bytes are those that were taken. -/
theorem takeP_ok {bs : List UInt8} {s : Rs} {d : Bool} (hs : s.at_ ≤ bs.length) (h : (takeP bs s d).2.err = 0) :
    s.err = 0 ∧ s.at_ ≤ (takeP bs s d).2.at_ ∧ (takeP bs s d).2.at_ ≤ bs.length ∧ chk (takeP bs s d).1 d = 0 ∧ progBytes (takeP bs s d).1 = part bs s.at_ (takeP bs s d).2.at_ := by
  unfold takeP at h ⊢
  simp only at h ⊢
  obtain ⟨h1, h2, h3⟩ := takeEnd_ok h
  rw [if_neg (by simpa using h), h3]
  unfold takeRaw at h1 h2 ⊢
  have t := took_count (bs := bs) (s := s) 24 hs
  obtain ⟨h4, h5⟩ := takeFrom_ok (rCount bs s 24).1 (rCount bs s 24).2 [] t.far
  obtain ⟨h6, h7, r, hr, hl, hp⟩ := h5 h1
  obtain ⟨h8, h9, h10⟩ := t.ok h6
  refine ⟨h8, by omega, h4, h2, ?_⟩
  rw [hr, List.nil_append]
  unfold progBytes
  rw [hl, hp, h10]
  exact part_part bs _ _ _ (by omega) h7 h4
theorem takeP_good (bs : List UInt8) (s : Rs) (d : Bool) : ∀ x ∈ (takeP bs s d).1, x.good := by
  unfold takeP
  simp only
  split
  · intro x hx; simp at hx
  · exact takeFrom_good bs _ _ _ (fun x hx => by simp at hx)
theorem takeP_none {bs : List UInt8} {s : Rs} {d : Bool} (h : (takeP bs s d).2.err ≠ 0) : (takeP bs s d).1 = [] := by
  unfold takeP at h ⊢
  simp only at h ⊢
  rw [if_pos h]
theorem count_bd (bs : List UInt8) (s : Rs) : (rCount bs s 24).1 ≤ 24 := by have := count_in bs s 24; omega

/-- What was put comes back. -/
theorem rInt_enc {bs rest : List UInt8} {i : Nat} {n : Int} (h : bs.drop i = encN (zig n) ++ rest) (hn : -9223372036854775808 ≤ n ∧ n < 9223372036854775808) : rInt bs ⟨i, 0⟩ = (n, ⟨i + (encN (zig n)).length, 0⟩) := by
  unfold rInt
  rw [rLong_enc h (Nat.lt_of_lt_of_eq (zig_lt n hn) rfl), unzig_zig]
theorem rWithin_enc {bs rest : List UInt8} {i : Nat} {n lo hi : Int} (h : bs.drop i = encN (zig n) ++ rest) (hn : -9223372036854775808 ≤ n ∧ n < 9223372036854775808) (hb : lo ≤ n ∧ n ≤ hi) : rWithin bs ⟨i, 0⟩ lo hi = (n, ⟨i + (encN (zig n)).length, 0⟩) := by
  unfold rWithin
  rw [rInt_enc h hn]
  simp only
  have : ¬ (n < lo ∨ n > hi) := by omega
  simp [this]
theorem rCount_enc {bs rest : List UInt8} {i n : Nat} {most : Int} (h : bs.drop i = encN n ++ rest) (hn : (n : Int) ≤ max most 0) (h64 : n < 18446744073709551616) : rCount bs ⟨i, 0⟩ most = (n, ⟨i + (encN n).length, 0⟩) := by
  unfold rCount
  rw [rLong_enc h (Nat.lt_of_lt_of_eq h64 rfl)]
  rw [if_neg (by simp only; omega)]
theorem by8_toNat {z : Int} (h : 0 ≤ z ∧ z < 256) : ((by8 z).toNat : Int) = z := by
  have := u8_by8 h
  simp only [u8, Value.int.injEq, true_and] at this
  exact this
theorem takeIns_enc {bs rest : List UInt8} {i : Nat} {x : Ins} (hx : x.good) (h : bs.drop i = insBytes x ++ rest) : takeIns bs ⟨i, 0⟩ = (x, ⟨i + (insBytes x).length, 0⟩) := by
  unfold insBytes at h ⊢
  unfold Ins.good at hx
  have h1 : bs.drop i = by8 x.op :: ([by8 x.dst, by8 x.a, by8 x.b] ++ encN (zig x.imm) ++ rest) := by rw [h]; simp
  obtain ⟨_, _, h2⟩ := drop_head h1
  have h2 : bs.drop (i + 1) = by8 x.dst :: ([by8 x.a, by8 x.b] ++ encN (zig x.imm) ++ rest) := by rw [h2]; simp
  obtain ⟨_, _, h3⟩ := drop_head h2
  have h3 : bs.drop (i + 1 + 1) = by8 x.a :: ([by8 x.b] ++ encN (zig x.imm) ++ rest) := by rw [h3]; simp
  obtain ⟨_, _, h4⟩ := drop_head h3
  have h4 : bs.drop (i + 1 + 1 + 1) = by8 x.b :: (encN (zig x.imm) ++ rest) := by rw [h4]; simp
  obtain ⟨_, _, h5⟩ := drop_head h4
  unfold takeIns
  simp only [rByte_next h1, rByte_next h2, rByte_next h3, rByte_next h4, rWithin_enc h5 (by omega) (show (-32768 : Int) ≤ x.imm ∧ x.imm ≤ 32767 by omega), by8_toNat hx.1, by8_toNat hx.2.1, by8_toNat hx.2.2.1, by8_toNat hx.2.2.2.1]
  simp only [Prod.mk.injEq, true_and, Rs.mk.injEq, and_true, List.length_append, List.length_cons, List.length_nil]
  omega
theorem takeFrom_enc {bs : List UInt8} : ∀ (q : List Ins) (rest : List UInt8) (i : Nat) (p : List Ins), (∀ x ∈ q, x.good) → bs.drop i = (q.map insBytes).flatten ++ rest → takeFrom bs q.length ⟨i, 0⟩ p = (p ++ q, ⟨i + ((q.map insBytes).flatten).length, 0⟩)
  | [], rest, i, p, _, _ => by simp [takeFrom]
  | x :: q, rest, i, p, hg, h => by
    simp only [List.map_cons, List.flatten_cons, List.append_assoc] at h
    have h1 := takeIns_enc (hg x (by simp)) h
    have h2 := drop_more h
    simp only [List.length_cons, takeFrom]
    rw [if_neg (by simp), h1]
    simp only
    rw [takeFrom_enc q rest _ (p ++ [x]) (fun y hy => hg y (List.mem_cons_of_mem _ hy)) h2]
    simp only [List.append_assoc, List.singleton_append, Prod.mk.injEq, true_and, Rs.mk.injEq, and_true, List.map_cons, List.flatten_cons, List.length_append]
    omega
theorem takeP_enc {bs rest : List UInt8} {i : Nat} {p : List Ins} {d : Bool} (hg : ∀ x ∈ p, x.good) (hc : chk p d = 0) (h : bs.drop i = progBytes p ++ rest) : takeP bs ⟨i, 0⟩ d = (p, ⟨i + (progBytes p).length, 0⟩) := by
  have h24 := (chk_zero.1 hc).1
  unfold progBytes at h ⊢
  rw [List.append_assoc] at h
  have h1 := rCount_enc (most := 24) h (by omega) (by omega)
  have h2 := takeFrom_enc p rest _ [] hg (drop_more h)
  have hr : takeRaw bs ⟨i, 0⟩ = (p, ⟨i + (encN p.length).length + ((p.map insBytes).flatten).length, 0⟩) := by
    unfold takeRaw
    rw [h1]
    simp only
    rw [h2, List.nil_append]
  have he : takeEnd (takeRaw bs ⟨i, 0⟩) d = ⟨i + (encN p.length).length + ((p.map insBytes).flatten).length, 0⟩ := by
    unfold takeEnd
    rw [hr]
    simp [hc]
  unfold takeP
  rw [he, hr, List.length_append]
  simp [Nat.add_assoc]
end Go.Proofs.Ytnknhedhoibepaa
