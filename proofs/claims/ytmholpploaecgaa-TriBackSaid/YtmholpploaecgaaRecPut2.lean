/-
  Records as bytes: Put of a record with a triangle.
-/
import Derived.Test.YtmholpploaecgaaRecPut
namespace Go.Proofs.Ytmholpploaecgaa
open Go.RowKit
set_option linter.unusedVariables false

theorem Try.info8 : (Try.prog.info? 71).map (·.size) = some 8 := by kernel_rfl
theorem idx_num (x : Nat → Int) {i : Nat} (hi : i < 3) : ∀ w, (Instr.index 72 (.agg #[.int .i64 (num x 0 0), .int .i64 (num x 0 1), .int .i64 (num x 0 2), .int .i64 (num x 0 3), .int .i64 (num x 0 4), .int .i64 (num x 0 5), .int .i64 (num x 0 6), .int .i64 (num x 0 7), .int .i64 (num x 1 0), .int .i64 (num x 1 1), .int .i64 (num x 1 2), .int .i64 (num x 1 3), .int .i64 (num x 1 4), .int .i64 (num x 1 5), .int .i64 (num x 1 6), .int .i64 (num x 1 7), .int .i64 (num x 2 0), .int .i64 (num x 2 1), .int .i64 (num x 2 2), .int .i64 (num x 2 3), .int .i64 (num x 2 4), .int .i64 (num x 2 5), .int .i64 (num x 2 6), .int .i64 (num x 2 7)]) (.int .i64 i)).run Try.prog w = .ok (.agg #[.int .i64 (num x i 0), .int .i64 (num x i 1), .int .i64 (num x i 2), .int .i64 (num x i 3), .int .i64 (num x i 4), .int .i64 (num x i 5), .int .i64 (num x i 6), .int .i64 (num x i 7)]) w := by
  intro w
  rcases (show i = 0 ∨ i = 1 ∨ i = 2 by omega) with rfl | rfl | rfl <;> kernel_rfl
theorem idx_8 (p : Nat → Int) {k : Nat} (hk : k < 8) : ∀ w, (Instr.index 71 (.agg #[.int .i64 (p 0), .int .i64 (p 1), .int .i64 (p 2), .int .i64 (p 3), .int .i64 (p 4), .int .i64 (p 5), .int .i64 (p 6), .int .i64 (p 7)]) (.int .i64 k)).run Try.prog w = .ok (.int .i64 (p k)) w := by
  intro w
  rcases (show k = 0 ∨ k = 1 ∨ k = 2 ∨ k = 3 ∨ k = 4 ∨ k = 5 ∨ k = 6 ∨ k = 7 by omega) with rfl | rfl | rfl | rfl | rfl | rfl | rfl | rfl <;> kernel_rfl
theorem get_8 (p : Nat → Int) {k : Nat} (hk : k < 8) : (#[.int .i64 (p 0), .int .i64 (p 1), .int .i64 (p 2), .int .i64 (p 3), .int .i64 (p 4), .int .i64 (p 5), .int .i64 (p 6), .int .i64 (p 7)] : Array Value)[k]? = some (.int .i64 (p k)) := by
  rcases (show k = 0 ∨ k = 1 ∨ k = 2 ∨ k = 3 ∨ k = 4 ∨ k = 5 ∨ k = 6 ∨ k = 7 by omega) with rfl | rfl | rfl | rfl | rfl | rfl | rfl | rfl <;> rfl
theorem last_next (x : Nat → Int) (i : Nat) : (#[.int .i64 (last x (i + 1) 0), .int .i64 (last x (i + 1) 1), .int .i64 (last x (i + 1) 2), .int .i64 (last x (i + 1) 3), .int .i64 (last x (i + 1) 4), .int .i64 (last x (i + 1) 5), .int .i64 (last x (i + 1) 6), .int .i64 (last x (i + 1) 7)] : Array Value) = #[.int .i64 (num x i 0), .int .i64 (num x i 1), .int .i64 (num x i 2), .int .i64 (num x i 3), .int .i64 (num x i 4), .int .i64 (num x i 5), .int .i64 (num x i 6), .int .i64 (num x i 7)] := by simp [last]

set_option maxRecDepth 10000 in
set_option maxHeartbeats 4000000 in
theorem recput_tri {w : World} {g : Nat} {S : List Nat} {bs : List UInt8} (h : Wr w g S bs) (hl : bs.length ≤ 800000) (a : Int) (x : Nat → Int) (hc : chkRec a true x = 0) :
    Calls Try.prog 10 #[.agg #[.int .i64 a, .bool true, .int .i64 (x 0), .int .i64 (x 1), .int .i64 (x 2), .int .i64 (x 3), .int .i64 (x 4), .int .i64 (x 5), .int .i64 (x 6), .int .i64 (x 7), .int .i64 (x 8), .int .i64 (x 9), .int .i64 (x 10), .int .i64 (x 11), .int .i64 (x 12), .int .i64 (x 13), .int .i64 (x 14), .int .i64 (x 15), .int .i64 (x 16), .int .i64 (x 17), .int .i64 (x 18), .int .i64 (x 19), .int .i64 (x 20), .int .i64 (x 21), .int .i64 (x 22), .int .i64 (x 23)], .pointer (some ⟨g, 0, none⟩)] w fun e w' => e = .returned (.int .i64 0) ∧ ∃ S', Wr w' g S' (bs ++ recBytes a true x) ∧ Grows S w S' ∧ Fr S w w' := by
  have ha := (chkRec_ok hc).1
  have HT := hid1 ((chkRec_ok hc).2.1 rfl)
  have HC := fun w => recchk_calls a true x w
  rw [hc] at HC
  have hl2 := heap_new w (.cells #[.int .i64 a, .bool true, .int .i64 (x 0), .int .i64 (x 1), .int .i64 (x 2), .int .i64 (x 3), .int .i64 (x 4), .int .i64 (x 5), .int .i64 (x 6), .int .i64 (x 7), .int .i64 (x 8), .int .i64 (x 9), .int .i64 (x 10), .int .i64 (x 11), .int .i64 (x 12), .int .i64 (x 13), .int .i64 (x 14), .int .i64 (x 15), .int .i64 (x 16), .int .i64 (x 17), .int .i64 (x 18), .int .i64 (x 19), .int .i64 (x 20), .int .i64 (x 21), .int .i64 (x 22), .int .i64 (x 23)] 44)
  have hf := (Fr.refl S w).alloc (.cells #[.int .i64 a, .bool true, .int .i64 (x 0), .int .i64 (x 1), .int .i64 (x 2), .int .i64 (x 3), .int .i64 (x 4), .int .i64 (x 5), .int .i64 (x 6), .int .i64 (x 7), .int .i64 (x 8), .int .i64 (x 9), .int .i64 (x 10), .int .i64 (x 11), .int .i64 (x 12), .int .i64 (x 13), .int .i64 (x 14), .int .i64 (x 15), .int .i64 (x 16), .int .i64 (x 17), .int .i64 (x 18), .int .i64 (x 19), .int .i64 (x 20), .int .i64 (x 21), .int .i64 (x 22), .int .i64 (x 23)] 44)
  have hi : (Try.prog.info? 44).map (·.size) = some (Array.size (#[.int .i64 a, .bool true, .int .i64 (x 0), .int .i64 (x 1), .int .i64 (x 2), .int .i64 (x 3), .int .i64 (x 4), .int .i64 (x 5), .int .i64 (x 6), .int .i64 (x 7), .int .i64 (x 8), .int .i64 (x 9), .int .i64 (x 10), .int .i64 (x 11), .int .i64 (x 12), .int .i64 (x 13), .int .i64 (x 14), .int .i64 (x 15), .int .i64 (x 16), .int .i64 (x 17), .int .i64 (x 18), .int .i64 (x 19), .int .i64 (x 20), .int .i64 (x 21), .int .i64 (x 22), .int .i64 (x 23)] : Array Value)) := Try.infoRec
  have hi2 : (Try.prog.info? 41).map (·.size) = some (List.length ([.int .i64 (x 0), .int .i64 (x 1), .int .i64 (x 2), .int .i64 (x 3), .int .i64 (x 4), .int .i64 (x 5), .int .i64 (x 6), .int .i64 (x 7), .int .i64 (x 8), .int .i64 (x 9), .int .i64 (x 10), .int .i64 (x 11), .int .i64 (x 12), .int .i64 (x 13), .int .i64 (x 14), .int .i64 (x 15), .int .i64 (x 16), .int .i64 (x 17), .int .i64 (x 18), .int .i64 (x 19), .int .i64 (x 20), .int .i64 (x 21), .int .i64 (x 22), .int .i64 (x 23)] : List Value)) := Try.infoSTri
  have hi8 : (Try.prog.info? 71).map (·.size) = some (Array.size (#[.int .i64 0, .int .i64 0, .int .i64 0, .int .i64 0, .int .i64 0, .int .i64 0, .int .i64 0, .int .i64 0] : Array Value)) := Try.info8
  have hw := h.fr (S' := []) ((Fr.refl [] w).alloc (.cells #[.int .i64 a, .bool true, .int .i64 (x 0), .int .i64 (x 1), .int .i64 (x 2), .int .i64 (x 3), .int .i64 (x 4), .int .i64 (x 5), .int .i64 (x 6), .int .i64 (x 7), .int .i64 (x 8), .int .i64 (x 9), .int .i64 (x 10), .int .i64 (x 11), .int .i64 (x 12), .int .i64 (x 13), .int .i64 (x 14), .int .i64 (x 15), .int .i64 (x 16), .int .i64 (x 17), .int .i64 (x 18), .int .i64 (x 19), .int .i64 (x 20), .int .i64 (x 21), .int .i64 (x 22), .int .i64 (x 23)] 44)) (fun _ _ h => by cases h)
  have HRB := hid1 (show bs ++ recBytes a true x = bs ++ encN (2 * a + 1).toNat ++ triBytes x 3 by rw [List.append_assoc]; rfl)
  have HC2 := hid1 HC
  have HL := hid1 hl2
  have HF := hid1 hf
  have HI := hid1 hi
  have HI2 := hid1 hi2
  have HI8 := hid1 hi8
  have HW := hid1 hw
  have HBL := hid1 hl
  have HSL := hid1 h.lt
  have n1 : IntKind.i64.wrap (2 * a) = 2 * a := IntWalk.i64_in _ (by omega)
  have n2 : IntKind.i64.wrap (2 * a + 1) = 2 * a + 1 := IntWalk.i64_in _ (by omega)
  clear hc HC hl2 hf hi hi2 hi8 hw h hl
  go_enter Try.func10, Try.ntmps10
  go_wp2_with (first
    | (with_reducible refine wpList_load_row rfl 44 (.tmp 2) rfl w.heap.size rfl _ _ _ _ HL.out Try.underlying44 rfl HI.out ?_)
    | (go_at_call 11; refine (HC2.out _).mono ?_; rintro e w1 ⟨rfl, hb1⟩; have hx1 := (Fr.ofBelow hb1).heap HL.out (by simp); have c0 := cell_at hx1 0; have c1 := cell_at hx1 1; have HX1 := hid1 hx1; have HW1 := hid1 (HW.out.fr (Fr.ofBelow hb1) (by simp)); have HF1 := hid1 (HF.out.trans (Fr.ofBelow hb1) (fun _ h => by cases h)); clear hb1 hx1)
    | (go_at_call 22; refine (count_calls HW1.out (2 * a + 1) (by omega) (by have := HBL.out; omega)).mono ?_; rintro e w2 ⟨rfl, S2, hw2, hg2, hf2⟩; have hx2 := (hf2.heap HX1.out (fun hm => by have := HSL.out _ hm; omega)); have HX2 := hid1 (range_in (heap_keep hx2 (.cells #[.int .i64 0, .int .i64 0, .int .i64 0, .int .i64 0, .int .i64 0, .int .i64 0, .int .i64 0, .int .i64 0] 71)) 2 ([.int .i64 (x 0), .int .i64 (x 1), .int .i64 (x 2), .int .i64 (x 3), .int .i64 (x 4), .int .i64 (x 5), .int .i64 (x 6), .int .i64 (x 7), .int .i64 (x 8), .int .i64 (x 9), .int .i64 (x 10), .int .i64 (x 11), .int .i64 (x 12), .int .i64 (x 13), .int .i64 (x 14), .int .i64 (x 15), .int .i64 (x 16), .int .i64 (x 17), .int .i64 (x 18), .int .i64 (x 19), .int .i64 (x 20), .int .i64 (x 21), .int .i64 (x 22), .int .i64 (x 23)] : List Value) (fun j => .inl (by rw [Nat.add_comm]; rfl))); have HN2 := hid1 (heap_new w2 (.cells #[.int .i64 0, .int .i64 0, .int .i64 0, .int .i64 0, .int .i64 0, .int .i64 0, .int .i64 0, .int .i64 0] 71)); have HW2 := hid1 (hw2.fr (fr_alloc w2 (.cells #[.int .i64 0, .int .i64 0, .int .i64 0, .int .i64 0, .int .i64 0, .int .i64 0, .int .i64 0, .int .i64 0] 71)) (fun _ _ h => by cases h)); have HG2 := hid1 (show Grows S w S2 from fun k hk => (hg2 k hk).imp id (Nat.le_trans HF1.out.size)); have HF2 := hid1 ((HF1.out.trans hf2 (Grows.refl _ _)).alloc (.cells #[.int .i64 0, .int .i64 0, .int .i64 0, .int .i64 0, .int .i64 0, .int .i64 0, .int .i64 0, .int .i64 0] 71)); have HLT2 := hid1 hw2.lt; have HSZ2 := hid1 (Nat.le_trans HF1.out.size hf2.size); clear hx2 hw2 hg2 hf2)
    | (with_reducible refine wpList_load_mid rfl 41 (.tmp 32) rfl w.heap.size 2 rfl [.int .i64 (x 0), .int .i64 (x 1), .int .i64 (x 2), .int .i64 (x 3), .int .i64 (x 4), .int .i64 (x 5), .int .i64 (x 6), .int .i64 (x 7), .int .i64 (x 8), .int .i64 (x 9), .int .i64 (x 10), .int .i64 (x 11), .int .i64 (x 12), .int .i64 (x 13), .int .i64 (x 14), .int .i64 (x 15), .int .i64 (x 16), .int .i64 (x 17), .int .i64 (x 18), .int .i64 (x 19), .int .i64 (x 20), .int .i64 (x 21), .int .i64 (x 22), .int .i64 (x 23)] _ HX2.out Try.underlying41 rfl HI2.out ?_)
    | (go_at_call 23; refine (numbers_calls x _).mono ?_; rintro e w3 ⟨rfl, hb3⟩; have HN3 := hid1 ((Fr.ofBelow hb3).heap HN2.out (by simp)); have HW3 := hid1 (HW2.out.fr (Fr.ofBelow hb3) (by simp)); have HF3 := hid1 (HF2.out.trans (Fr.ofBelow hb3) (fun _ h => by cases h)); clear hb3))
  obtain ⟨v0, hv0⟩ : ∃ v0 : Value, Value.agg #[.int .i64 a, .bool true, .int .i64 (x 0), .int .i64 (x 1), .int .i64 (x 2), .int .i64 (x 3), .int .i64 (x 4), .int .i64 (x 5), .int .i64 (x 6), .int .i64 (x 7), .int .i64 (x 8), .int .i64 (x 9), .int .i64 (x 10), .int .i64 (x 11), .int .i64 (x 12), .int .i64 (x 13), .int .i64 (x 14), .int .i64 (x 15), .int .i64 (x 16), .int .i64 (x 17), .int .i64 (x 18), .int .i64 (x 19), .int .i64 (x 20), .int .i64 (x 21), .int .i64 (x 22), .int .i64 (x 23)] = v0 := ⟨_, rfl⟩
  rw [hv0]
  clear hv0 c0 c1
  obtain ⟨Lb, hLb⟩ : ∃ Lb, w2.heap.size = Lb := ⟨_, rfl⟩
  rw [hLb] at HN3 HN2 ⊢
  have HLB := hid1 (show Lb ∉ S2 from fun hm => by have := HLT2.out _ hm; omega)
  have HLW := hid1 (show w.heap.size ≤ Lb by rw [← hLb]; exact HSZ2.out)
  have HBS := hid1 (show bs ++ encN (2 * a + 1).toNat ++ triBytes x 0 = bs ++ encN (2 * a + 1).toNat by simp [triBytes])
  have HB0L := hid1 (show (bs ++ encN (2 * a + 1).toNat).length ≤ 800100 by rw [List.length_append, enc1 (by omega)]; have := HBL.out; omega)
  obtain ⟨b0, hb0⟩ : ∃ b0, bs ++ encN (2 * a + 1).toNat = b0 := ⟨_, rfl⟩
  rw [hb0] at HW3 HBS HRB HB0L
  obtain ⟨wo, rfl⟩ : ∃ wo : World, wo = w := ⟨_, rfl⟩
  clear hb0 hLb n1 n2
  go_loopw [35] (fun k wr => ∃ (i : Nat) (S' : List Nat), i ≤ 3 ∧ k = .int .i64 i ∧ Wr wr g S' (b0 ++ triBytes x i) ∧ Hid (wr.heap[Lb]? = some (.cells #[.int .i64 (last x i 0), .int .i64 (last x i 1), .int .i64 (last x i 2), .int .i64 (last x i 3), .int .i64 (last x i 4), .int .i64 (last x i 5), .int .i64 (last x i 6), .int .i64 (last x i 7)] 71 (0, 0))) ∧ Hid (Lb ∉ S') ∧ Hid (Grows S wo S') ∧ Hid (Fr S wo wr)) (fun k _ => 3 - (intOf k).toNat)
  case atStart => exact ⟨0, S2, by omega, rfl, by rw [HBS.out]; exact HW3.out, HN3.out, HLB.out, HG2.out, HF3.out⟩
  case round =>
    clear HW3 HN3 HLB HG2 HF3 HW2 HN2 HF2 HX2 HX1 HW1 HF1 HLT2 HF HW HL
    obtain ⟨i, S', hi, rfl, hr, HN, HLB, HG, HF⟩ := hrel
    by_cases hlt : i < 3
    · have hidx := idx_num x hlt
      have HTL := hid1 (show (b0 ++ triBytes x i).length ≤ 800200 by rw [List.length_append]; have := tri_len HT.out i hi; have := HB0L.out; omega)
      have HNEW := hid1 (show b0 ++ triBytes x (i + 1) = b0 ++ triBytes x i ++ cornerBytes x i 8 by rw [triBytes_succ, List.append_assoc])
      obtain ⟨b1, hb1⟩ : ∃ b1, b0 ++ triBytes x i = b1 := ⟨_, rfl⟩
      rw [hb1] at hr HTL HNEW
      have hal : ∀ o : Obj, (wr.alloc o).heap[wr.heap.size]? = some o := fun o => heap_new wr o
      have HAL := hid1 hal
      have HR := hid1 hr
      have HSL1 := hid1 hr.lt
      have hlt3 : ((i : Nat) : Int) < 3 := by omega
      clear hb1 hr hal
      go_wp2_with (with_reducible refine wpList_load_row rfl 71 (.tmp 8) rfl wr.heap.size rfl _ _ _ _ (HAL.out _) Try.underlying71 rfl HI8.out ?_)
      obtain ⟨Nb, hNb⟩ : ∃ Nb, wr.heap.size = Nb := ⟨_, rfl⟩
      have hw1 := HAL.out (.cells #[.int .i64 (num x i 0), .int .i64 (num x i 1), .int .i64 (num x i 2), .int .i64 (num x i 3), .int .i64 (num x i 4), .int .i64 (num x i 5), .int .i64 (num x i 6), .int .i64 (num x i 7)] 71)
      have hl1 := heap_keep HN.out (.cells #[.int .i64 (num x i 0), .int .i64 (num x i 1), .int .i64 (num x i 2), .int .i64 (num x i 3), .int .i64 (num x i 4), .int .i64 (num x i 5), .int .i64 (num x i 6), .int .i64 (num x i 7)] 71)
      have hr1 := HR.out.fr (fr_alloc wr (.cells #[.int .i64 (num x i 0), .int .i64 (num x i 1), .int .i64 (num x i 2), .int .i64 (num x i 3), .int .i64 (num x i 4), .int .i64 (num x i 5), .int .i64 (num x i 6), .int .i64 (num x i 7)] 71)) (fun _ _ h => by cases h)
      have hf1 := HF.out.alloc (.cells #[.int .i64 (num x i 0), .int .i64 (num x i 1), .int .i64 (num x i 2), .int .i64 (num x i 3), .int .i64 (num x i 4), .int .i64 (num x i 5), .int .i64 (num x i 6), .int .i64 (num x i 7)] 71)
      have hnb : Nb ∉ S' := fun hm => by have := HSL1.out _ hm; omega
      have hlb : Lb ≠ Nb := by have := heap_lt HN.out; omega
      obtain ⟨W1, hW1⟩ : ∃ W1, wr.alloc (.cells #[.int .i64 (num x i 0), .int .i64 (num x i 1), .int .i64 (num x i 2), .int .i64 (num x i 3), .int .i64 (num x i 4), .int .i64 (num x i 5), .int .i64 (num x i 6), .int .i64 (num x i 7)] 71) = W1 := ⟨_, rfl⟩
      rw [hNb] at hw1 ⊢
      rw [hW1] at hw1 hl1 hr1 hf1 ⊢
      have HW1 := hid1 hw1
      have HL1 := hid1 hl1
      have HR1 := hid1 hr1
      have HF1 := hid1 hf1
      have HNB := hid1 hnb
      have HNE := hid1 hlb
      have HC0 := hid1 (show b1 ++ cornerBytes x i 0 = b1 by simp [cornerBytes])
      clear hW1 hw1 hl1 hr1 hf1 hnb hlb HAL HR HN HF HSL1 hidx hNb
      go_loopw [39] (fun k wr => ∃ (k' : Nat) (S3 : List Nat), k' ≤ 8 ∧ k = .int .i64 k' ∧ Wr wr g S3 (b1 ++ cornerBytes x i k') ∧ Hid (wr.heap[Lb]? = some (.cells #[.int .i64 (last x i 0), .int .i64 (last x i 1), .int .i64 (last x i 2), .int .i64 (last x i 3), .int .i64 (last x i 4), .int .i64 (last x i 5), .int .i64 (last x i 6), .int .i64 (last x i 7)] 71 (0, 0))) ∧ Hid (wr.heap[Nb]? = some (.cells #[.int .i64 (num x i 0), .int .i64 (num x i 1), .int .i64 (num x i 2), .int .i64 (num x i 3), .int .i64 (num x i 4), .int .i64 (num x i 5), .int .i64 (num x i 6), .int .i64 (num x i 7)] 71 (0, 0))) ∧ Hid (Lb ∉ S3) ∧ Hid (Nb ∉ S3) ∧ Hid (Grows S wo S3) ∧ Hid (Fr S wo wr)) (fun k _ => 8 - (intOf k).toNat)
      case atStart => exact ⟨0, S', by omega, rfl, by rw [HC0.out]; exact HR1.out, HL1.out, HW1.out, HLB.out, HNB.out, HG.out, HF1.out⟩
      case round =>
        clear HL1 HW1 HR1 HF1 HLB HNB HG
        obtain ⟨k, S3, hk, rfl, hr, HL, HN, HLB, HNB, HG, HF⟩ := hrel
        by_cases hk8 : k < 8
        · have idx := idx_8 (num x i) hk8
          have c0 : wr.cell? ⟨Lb, k, none⟩ = some (.int .i64 (last x i k)) := by rw [cell_at HL.out, get_8 (last x i) hk8]
          have nb := num_bd HT.out hlt hk8
          have lb := last_bd HT.out hlt hk8
          have HD := hid1 (show b1 ++ cornerBytes x i (k + 1) = b1 ++ cornerBytes x i k ++ encN (zig (num x i k - last x i k)) by rw [cornerBytes_succ, List.append_assoc]; rfl)
          have HLL := hid1 (show (b1 ++ cornerBytes x i k).length ≤ 800300 by rw [List.length_append]; have := corner_len HT.out hlt k hk; have := HTL.out; omega)
          obtain ⟨p, hp⟩ : ∃ p, num x i k = p := ⟨_, rfl⟩
          obtain ⟨q, hq⟩ : ∃ q, last x i k = q := ⟨_, rfl⟩
          rw [hp] at idx nb HD
          rw [hq] at c0 lb HD
          have n1 : IntKind.i64.wrap (p - q) = p - q := IntWalk.i64_in _ (by omega)
          have HSL3 := hid1 hr
          have hk9 : ((k : Nat) : Int) < 8 := by omega
          have HLT := hid1 (show Lb < wr.heap.size ∧ Nb < wr.heap.size from ⟨heap_lt HL.out, heap_lt HN.out⟩)
          clear hp hq hr
          go_wp2_with (go_at_call 24; refine (wint_calls HSL3.out (p - q) (by omega) (by have := HLL.out; omega)).mono ?_; rintro e w5 ⟨rfl, S5, hw5, hg5, hf5⟩; rw [← HD.out] at hw5)
          go_roundw
          case rel => exact ⟨k + 1, S5, by omega, by go_num, hw5, hf5.heap HL.out HLB.out, hf5.heap HN.out HNB.out, (fun hm => (hg5 _ hm).elim HLB.out (fun h => by have := HLT.out.1; omega)), (fun hm => (hg5 _ hm).elim HNB.out (fun h => by have := HLT.out.2; omega)), HG.out.trans hg5 HF.out.size, HF.out.trans hf5 HG.out⟩
          case measure => simp [intOf]; omega
        · obtain rfl : k = 8 := by omega
          have hk9 : ¬ (((8 : Nat) : Int) < 8) := by omega
          have HR := hid1 hr
          have HI9 := hid1 (show (Try.prog.info? 71).map (·.size) = some (Array.size (#[.int .i64 (num x i 0), .int .i64 (num x i 1), .int .i64 (num x i 2), .int .i64 (num x i 3), .int .i64 (num x i 4), .int .i64 (num x i 5), .int .i64 (num x i 6), .int .i64 (num x i 7)] : Array Value)) from Try.info8)
          have HONE := hid1 (show (#[.int .i64 (num x i 0), .int .i64 (num x i 1), .int .i64 (num x i 2), .int .i64 (num x i 3), .int .i64 (num x i 4), .int .i64 (num x i 5), .int .i64 (num x i 6), .int .i64 (num x i 7)] : Array Value).all (·.oneCell') = true by simp [Value.oneCell'])
          clear hr
          go_wp2_with (first
            | (with_reducible refine wpList_load_row rfl 71 (.tmp 8) rfl Nb rfl _ _ _ _ HN.out Try.underlying71 rfl HI9.out ?_)
            | (with_reducible refine wpList_store_row rfl 71 (.tmp 6) (.tmp 51) rfl Lb _ rfl rfl _ _ HL.out HI9.out rfl HONE.out ?_))
          go_roundw
          case rel => exact ⟨i + 1, S3, by omega, by go_num, by rw [HNEW.out]; exact HR.out.fr (fr_row wr Lb _) (fun k hk hm => by simp at hm; subst hm; exact HLB.out hk), by rw [last_next]; exact setRow_heap _ _ _ _ _ _ HL.out, HLB.out, HG.out, HF.out.trans (fr_row wr Lb _) (fun k hk => by simp at hk; subst hk; exact .inr HLW.out)⟩
          case measure => simp [intOf]; omega
    · obtain rfl : i = 3 := by omega
      have hlt3 : ¬ (((3 : Nat) : Int) < 3) := by omega
      have HR := hid1 hr
      clear hr
      go_wp2
      go_ret
      exact ⟨rfl, S', by rw [HRB.out]; exact HR.out, HG.out, HF.out⟩
end Go.Proofs.Ytmholpploaecgaa
