/-
  The device: Put.
-/
import Derived.Test.YtakobldhjndeiaaDevTake
namespace Go.Proofs.Ytakobldhjndeiaa
open Go.RowKit

set_option maxRecDepth 10000 in
theorem dput_size {w : World} {g : Nat} {a : Option Addr} {n c : Nat} {bs : List UInt8} (HB : Bytes w a n c bs) (hn : n ≠ 64) :
    Calls Try.prog 28 #[.pointer (some ⟨g, 0, none⟩), .slice a n c] w fun e w' => e = .returned (.tuple #[.int .i64 0, .int .i64 6]) ∧ w' = w := by
  have hle := Sl.le HB
  have hbig := HB.big
  have d0 : ((n : Int) == 64) = false := by rw [beq_eq_false_iff_ne]; omega
  go_enter Try.func28, Try.ntmps28
  go_wp2
  go_ret2
  exact ⟨rfl, rfl⟩

def Dev.tried (d : Dev) : Dev := { d with puts := d.puts + 1 }
def Dev.put (d : Dev) (bs : List UInt8) : Dev := { d with L := d.L ++ [((d.next : Int) + 1, bs)], next := d.next + 1, most := max d.most (d.L.length + 1), puts := d.puts + 1 }

/-- The device behind a put that is counted. -/
theorem dput_counted {w : World} {g mb bb : Nat} {v1 v2 : Value} {V : List (Int × Value)} {d : Dev} (h : Dvx w g mb bb v1 v2 V d) :
    Dvx (w.setCell ⟨g, 4, none⟩ (.int .i64 ((d.puts : Int) + 1))) g mb bb v1 v2 V d.tried ∧ Fr [g, mb] w (w.setCell ⟨g, 4, none⟩ (.int .i64 ((d.puts : Int) + 1))) := by
  have ff : Fr [g, mb] w (w.setCell ⟨g, 4, none⟩ (.int .i64 ((d.puts : Int) + 1))) := Fr.set (Fr.refl _ _) ⟨g, 4, none⟩ (.inl (by simp)) _
  have f1 : Fr [g] w (w.setCell ⟨g, 4, none⟩ (.int .i64 ((d.puts : Int) + 1))) := Fr.set (Fr.refl _ _) ⟨g, 4, none⟩ (.inl (by simp)) _
  refine ⟨h.turn ff ?_ (h.map.fr f1 (by have := h.apart; simp; omega)) (Rows.frX ff h.rows) rfl rfl rfl rfl h.nums, ff⟩
  have := heap_set (a := ⟨g, 4, none⟩) h.top rfl (.int .i64 ((d.puts : Int) + 1))
  simpa [Dev.tried] using this

/-- What Put reads ahead. -/
@[reducible] def PutFacts (w : World) (g mb : Nat) (n room puts : Int) (v1 : Value) : Prop :=
  w.cell? ⟨g, 0, none⟩ = some (.map (some mb)) ∧ w.cell? ⟨g, 1, none⟩ = some (.int .i64 room) ∧ w.cell? ⟨g, 4, none⟩ = some (.int .i64 (puts + 1)) ∧ w.cell? ⟨g, 6, none⟩ = some v1 ∧ ∀ ty, (Builtin.len_ #[66] ty #[.map (some mb)]).run Try.prog w = .ok (.int .i64 n) w
theorem put_facts {w : World} {g mb bb : Nat} {v1 v2 : Value} {V : List (Int × Value)} {d : Dev} (h : Dvx w g mb bb v1 v2 V d.tried) : PutFacts w g mb d.L.length d.room d.puts v1 := by
  have hl := fun ty => h.map.len (P := Try.prog) Try.underlying66 ty
  rw [rows_len h.rows] at hl
  exact ⟨cell_at h.top 0, cell_at h.top 1, cell_at h.top 4, cell_at h.top 6, hl⟩

set_option maxRecDepth 10000 in
set_option maxHeartbeats 1000000 in
theorem dput_full {w : World} {g mb bb : Nat} {v1 v2 : Value} {V : List (Int × Value)} {d : Dev} (h : Dvx w g mb bb v1 v2 V d) {a : Option Addr} {c : Nat} (hp : d.puts < 1000000)
    (hfull : d.room ≤ d.L.length ∨ (d.puts : Int) ∈ d.fu) :
    Calls Try.prog 28 #[.pointer (some ⟨g, 0, none⟩), .slice a 64 c] w fun e w' => e = .returned (.tuple #[.int .i64 0, .int .i64 8]) ∧ Dvx w' g mb bb v1 v2 V d.tried ∧ Fr [g, mb] w w' := by
  have c4 := cell_at h.top 4
  have g4 := free_at h.top 4
  obtain ⟨h1, f1⟩ := dput_counted h
  obtain ⟨a1, n1, k1, rfl, s1, o1⟩ := h1.full
  have hI : Ints _ a1 n1 k1 d.fu := s1
  obtain ⟨b1, b2, hb1, hb2, hor⟩ : ∃ b1 b2, decide (d.room ≤ d.L.length) = b1 ∧ decide ((d.puts : Int) ∈ d.fu) = b2 ∧ (b1 = true ∨ b2 = true) := ⟨_, _, rfl, rfl, by simp only [decide_eq_true_eq]; exact hfull⟩
  have q0 : IntKind.i64.wrap (d.puts : Int) = d.puts := IntWalk.i64_in _ (by omega)
  have q1 : IntKind.i64.wrap ((d.puts : Int) + 1) = (d.puts : Int) + 1 := IntWalk.i64_in _ (by omega)
  have H1 := hid h1
  have F1 := hid f1
  clear hfull h1 f1 s1 o1 h
  go_enter Try.func28, Try.ntmps28
  go_upto_region 6 with (fail)
  obtain ⟨w2, hw2⟩ : ∃ w2, w.setCell ⟨g, 4, none⟩ (.int .i64 ((d.puts : Int) + 1)) = w2 := ⟨_, rfl⟩
  rw [hw2]
  rw [hw2] at hI H1 F1
  have hS := put_facts (H1.out.keep (Below.refl _ _).drew)
  clear hw2 c4 g4
  cases b1
  · obtain rfl : b2 = true := by simpa using hor
    go_region_held (fun w' => PutFacts w' g mb d.L.length d.room d.puts (.slice a1 n1 k1)) (exact hS) (first | (go_at_call 33; refine (damong_calls (Sl.drew hI) _).mono ?_; rintro e w3 ⟨rfl, rfl⟩))
    all_goals
      go_wp2
      go_ret2
      exact ⟨rfl, H1.out.keep (Below.refl _ _).drew, F1.out.drewN 1⟩
  · obtain ⟨e0, e1, e4, e6, el⟩ := put_facts H1.out
    obtain ⟨_, _, _, _, el2⟩ := hS
    go_region
    all_goals
      go_wp2
      go_ret2
      exact ⟨rfl, H1.out.keep (Below.refl _ _).drew, F1.out.drewN 1⟩
@[reducible] def PutNext (w : World) (g mb : Nat) (n : Nat) : Prop := w.cell? ⟨g, 0, none⟩ = some (.map (some mb)) ∧ w.cell? ⟨g, 2, none⟩ = some (.int .i64 ((n : Int) + 1))

set_option maxRecDepth 10000 in
set_option maxHeartbeats 1000000 in
theorem dput_ok {w : World} {g mb bb : Nat} {v1 v2 : Value} {V : List (Int × Value)} {d : Dev} (h : Dvx w g mb bb v1 v2 V d) {a : Option Addr} {c : Nat} {bs : List UInt8} (HB : Bytes w a 64 c bs) (ha : ∀ p, a = some p → p.block ∉ [g, mb]) (hp : d.puts < 1000000) (hnx : d.next < 1000000)
    (hroom : d.L.length < d.room) (hfu : (d.puts : Int) ∉ d.fu) :
    Calls Try.prog 28 #[.pointer (some ⟨g, 0, none⟩), .slice a 64 c] w fun e w' => e = .returned (.tuple #[.int .i64 ((d.next : Int) + 1), .int .i64 0]) ∧ (∃ q c', Dvx w' g mb bb v1 v2 (V ++ [((d.next : Int) + 1, .slice (some ⟨q, 0, none⟩) 68 c')]) (d.put bs) ∧ w.heap.size ≤ q) ∧ Fr [g, mb] w w' := by
  have c4 := cell_at h.top 4
  have g4 := free_at h.top 4
  obtain ⟨h1, f1⟩ := dput_counted h
  obtain ⟨a1, n1, k1, rfl, s1, o1⟩ := h1.full
  have hI : Ints _ a1 n1 k1 d.fu := s1
  have hb1 : decide (d.room ≤ d.L.length) = false := by simp; omega
  have hb2 : decide ((d.puts : Int) ∈ d.fu) = false := by simp [hfu]
  have q0 : IntKind.i64.wrap (d.puts : Int) = d.puts := IntWalk.i64_in _ (by omega)
  have q1 : IntKind.i64.wrap ((d.puts : Int) + 1) = (d.puts : Int) + 1 := IntWalk.i64_in _ (by omega)
  have q2 : IntKind.i64.wrap ((d.next : Int) + 1) = (d.next : Int) + 1 := IntWalk.i64_in _ (by omega)
  have H := hid h
  have HB1 := hid (Sl.fr HB f1 ha)
  have H1 := hid h1
  have F1 := hid f1
  have HRM := hid hroom
  have h64 : bs.length = 64 := HB.len
  have H64 := hid h64
  have HL68 : Hid ((bs ++ Crc.be (Crc.sum bs)).length = 68) := (by show _ = _; rw [List.length_append, be_length, h64])
  clear h1 f1 s1 o1 h hfu HB hroom h64
  go_enter Try.func28, Try.ntmps28
  go_upto_region 6 with (fail)
  obtain ⟨w2, hw2⟩ : ∃ w2, w.setCell ⟨g, 4, none⟩ (.int .i64 ((d.puts : Int) + 1)) = w2 := ⟨_, rfl⟩
  rw [hw2]
  rw [hw2] at hI H1 F1 HB1
  have hS := put_facts (H1.out.keep (Below.refl _ _).drew)
  have d2 : w2.cell? ⟨g, 2, none⟩ = some (.int .i64 (d.next : Int)) := cell_at H1.out.top 2
  have g2 := free_at H1.out.top 2
  clear hw2 c4 g4
  go_region_held (fun w' => PutFacts w' g mb d.L.length d.room d.puts (.slice a1 n1 k1)) (exact hS) (first | (go_at_call 33; refine (damong_calls (Sl.drew hI) _).mono ?_; rintro e w3 ⟨rfl, rfl⟩))
  all_goals
    clear hS hI hb1 hb2
    go_upto_region 9 with (fail)
    obtain ⟨w4, hw4⟩ : ∃ w4, (w2.setCell ⟨g, 2, none⟩ (.int .i64 ((d.next : Int) + 1))).drew = w4 := ⟨_, rfl⟩
    rw [hw4]
    have F24 : Fr [g] w2 w4 := by rw [← hw4]; exact (Fr.set (Fr.refl _ _) ⟨g, 2, none⟩ (.inl (by simp)) _).drewN 1
    have F24' : Fr [g, mb] w2 w4 := F24.mono (fun k hk => .inl (by simp at hk; simp [hk]))
    have F4 := hid (F1.out.trans F24' (Grows.refl _ _))
    have h4 : Dvx w4 g mb bb (.slice a1 n1 k1) v2 V { d.tried with next := d.next + 1 } := by
      refine H1.out.turn F24' ?_ (H1.out.map.fr F24 (by have := H1.out.apart; simp; omega)) (Rows.frX F24' H1.out.rows) rfl rfl rfl rfl (fun p hp => by have := H1.out.nums p hp; simp only [Dev.tried] at this ⊢; omega)
      rw [← hw4]
      show (w2.setCell ⟨g, 2, none⟩ (.int .i64 ((d.next : Int) + 1))).heap[g]? = _
      have := heap_set (a := ⟨g, 2, none⟩) H1.out.top rfl (.int .i64 ((d.next : Int) + 1))
      simpa [Dev.tried] using this
    have HB4 := hid (Sl.fr HB1.out F24' ha)
    have H4 := hid h4
    have hS4 : PutNext w4.drew g mb d.next := ⟨cell_at h4.top 0, cell_at h4.top 2⟩
    clear hw4 F24 F24' h4 d2 g2
    go_region_held (fun w' => PutNext w' g mb d.next) (first | exact hS4 | exact hS5 | exact hS6) (first
      | (go_at_call 18; refine (put_calls (Sl.drew HB4.out) (by omega)).mono ?_; rintro e w5 ⟨v5, rfl, ho5, hb5⟩
         obtain ⟨q5, c5, rfl, hq5, hlt5⟩ := own_some ho5 (by simp [Crc.be])
         rw [HL68.out]
         have h5 := hid (H4.out.keep ((Below.refl _ _).drew.trans hb5))
         have hS5 : PutNext w5 g mb d.next := ⟨cell_at h5.out.top 0, cell_at h5.out.top 2⟩
         obtain ⟨w6, e6, hm6, f6⟩ := h5.out.map.add (P := Try.prog) Try.underlying66 Try.underlying3 (z := (d.next : Int) + 1) (WalkArith.wf_i64 (by omega)) (rows_none h5.out.rows (fun q hq => by have := H4.out.nums q hq; have := H1.out.nums q hq; simp only [Dev.tried] at this; omega)) (.slice (some ⟨q5, 0, none⟩) 68 c5)
         have hS6 : PutNext w6 g mb d.next := ⟨cell_at (f6.heap h5.out.top (by have := h5.out.apart; simp; omega)) 0, cell_at (f6.heap h5.out.top (by have := h5.out.apart; simp; omega)) 2⟩))
    all_goals
      have f56 : Fr [g, mb] w5 w6 := f6.mono (fun k hk => .inl (by simp at hk; simp [hk]))
      have F46 : Fr [g, mb] w4 w6 := (Fr.ofBelow ((Below.refl _ _).drew.trans hb5)).nilMono.trans f56 (Grows.refl _ _)
      have hap := H4.out.apart
      have hq6 : q5 ∉ [g, mb] := by have := H4.out.lt; simp at hq5 ⊢; omega
      have hB5 : Bytes w5 (some ⟨q5, 0, none⟩) 68 c5 (bs ++ Crc.be (Crc.sum bs)) := by
        obtain ⟨a6, c6, e, hh⟩ := ho5.bytes
        rw [HL68.out] at e hh
        cases e
        exact hh
      have hB6 : BlockAt w6 [g, mb] (.slice (some ⟨q5, 0, none⟩) 68 c5) bs := ⟨q5, c5, rfl, hq6, H64.out, Sl.fr hB5 f56 (fun p hp => by cases hp; exact hq6)⟩
      have h6 : Dvx w6 g mb bb (.slice a1 n1 k1) v2 (V ++ [((d.next : Int) + 1, .slice (some ⟨q5, 0, none⟩) 68 c5)]) { d.tried with next := d.next + 1, L := d.L ++ [((d.next : Int) + 1, bs)] } := by
        refine H4.out.turn F46 ?_ hm6 (rows_snoc hB6 (Rows.frX f56 h5.out.rows)) rfl rfl rfl rfl (fun p hp => ?_)
        · exact f6.heap h5.out.top (by simp; omega)
        · rcases List.mem_append.1 hp with hp | hp
          · have := H4.out.nums p hp; simpa using this
          · simp at hp; subst hp; simp; omega
      have F6 := hid (F4.out.trans F46 (Grows.refl _ _))
      have c0 : w6.cell? ⟨g, 0, none⟩ = some (.map (some mb)) := cell_at h6.top 0
      have c3 : w6.cell? ⟨g, 3, none⟩ = some (.int .i64 (d.most : Int)) := cell_at h6.top 3
      have g3 := free_at h6.top 3
      obtain ⟨u1, hu1⟩ : ∃ u1 : Nat, u1 = d.L.length + 1 := ⟨_, rfl⟩
      have hl := fun ty => (show DictAt w6.drew mb _ from h6.map).len (P := Try.prog) Try.underlying66 ty
      rw [rows_len h6.rows, List.length_append, List.length_singleton] at hl
      simp only [← hu1] at hl
      obtain ⟨m2, hm2, hm3⟩ : ∃ m2 : Nat, (if d.most < u1 then (u1 : Int) else (d.most : Int)) = (m2 : Int) ∧ m2 = max d.most u1 := ⟨max d.most u1, by split <;> omega, rfl⟩
      have H6 := hid h6
      have HU1 := hid hu1
      have HM3 := hid hm3
      have E2 : w6.cell? ⟨g, 2, none⟩ = some (.int .i64 ((d.next : Int) + 1)) := cell_at h6.top 2
      have f2 := free_at h6.top 2
      clear hu1 hm3 h6 hB6 hB5 f56 F46 hS4 hS5 hS6 e6 f6 hm6 h5 hb5 ho5
      go_wp2
      go_region
      all_goals
        go_wp2
        go_ret2
        have ff : Fr [g, mb] w6 (w6.setCell ⟨g, 3, none⟩ (.int .i64 (m2 : Int))).drew := (Fr.set (Fr.refl _ _) ⟨g, 3, none⟩ (.inl (by simp)) _).drewN 1
        have f1 : Fr [g] w6 (w6.setCell ⟨g, 3, none⟩ (.int .i64 (m2 : Int))).drew := (Fr.set (Fr.refl _ _) ⟨g, 3, none⟩ (.inl (by simp)) _).drewN 1
        refine ⟨rfl, ⟨q5, c5, H6.out.turn (d' := d.put bs) ff ?_ (H6.out.map.fr f1 (by simp; omega)) (Rows.frX ff H6.out.rows) rfl rfl rfl rfl (fun p hp => by have := H6.out.nums p hp; simpa [Dev.put] using this), Nat.le_trans F4.out.size hq5⟩, F6.out.trans ff (Grows.refl _ _)⟩
        show (w6.setCell ⟨g, 3, none⟩ (.int .i64 (m2 : Int))).heap[g]? = _
        have := heap_set (a := ⟨g, 3, none⟩) H6.out.top rfl (.int .i64 (m2 : Int))
        have e3 : m2 = (d.put bs).most := by rw [HM3.out, HU1.out]; rfl
        rw [← e3]
        simpa [Dev.put, Dev.tried] using this
end Go.Proofs.Ytakobldhjndeiaa
