/-
  The law's Bytes: a record's, as they are meant.
-/
import Derived.Test.YtmholpploaecgaaRecLaw
import Derived.Test.YtmholpploaecgaaPutInt
import Derived.Test.YtmholpploaecgaaAppB
import Derived.Deep.RegionLaw
import Derived.BigRegion
import Derived.Test.YtmholpploaecgaaHeldVal
namespace Go.Proofs.Ytmholpploaecgaa
open Go.RowKit
set_option linter.unusedVariables false
set_option linter.unusedSimpArgs false

theorem refcount_at' (x : Int) (m : Nat) (hx : x = (m : Int)) (hm : m < 18446744073709551616) (w : World) :
    Calls Try.prog 28 #[.int .u64 x] w fun e w' => ∃ v, e = .returned v ∧ OwnB w' w.heap.size v (encN m) ∧ Below w.heap.size w w' := by subst hx; exact refcount_calls m hm w
theorem step_app_bytes {w : World} {ops : Array Oper} {o : Oper} {a : Act} {K : Act → World → Prop} {Q : Exit → Act → World → Prop} {E : Prop} (hgd : o.guard = none) (s x : Operand)
    (ho : o.op = .call { callee := .builtin .append, args := #[s, x], argTypes := #[49, 49] })
    {B : Nat} {v : Value} {xs : List UInt8} (hs : a.eval s = v) (hown : OwnB w B v xs)
    {ad : Option Addr} {m c : Nat} {ys : List UInt8} (hx : a.eval x = .slice ad m c) (hsl : Bytes w ad m c ys)
    (h63 : xs.length + m ≤ 1000000) (hbase : B ≤ w.heap.size)
    (h : ∀ v' w', OwnB w' B v' (xs ++ ys) → w.grownBy w' v.ownBlock → K (a.put o.dst v') w') : if Region.wanted o (yielded ops a.tmps) = true then Oper.wp Try.prog o a w K Q else E := by
  have hm := hsl.len
  subst hm
  refine step_app_sl Try.elU8 hgd s x ho hs hown hx hsl (oneCell_u8 ys) (by omega) (by omega) hbase ?_
  intro v' w' h2 h3
  refine h v' w' ?_ h3
  unfold OwnB
  rw [List.map_append, List.length_append]
  exact h2
theorem own_ne {w : World} {B L : Nat} {v : Value} {bs : List UInt8} {cs : Array Value} {T : TypeId} {f : Nat × Nat} (h : OwnB w B v bs) (hl : w.heap[L]? = some (.cells cs T f)) (hT : T ≠ 5) : L ∉ v.ownBlock.toList := by
  intro hm
  have hk : v.ownBlock = some L := by simpa using hm
  obtain ⟨_, h1⟩ := h
  rcases h1 with ⟨rfl, _⟩ | ⟨g, cap, cur, rfl, _, hg, _⟩
  · cases hk
  · have : g = L := by simpa [Value.ownBlock] using hk
    subst this
    rw [hl] at hg
    cases hg
    exact hT rfl
theorem OwnB.base {w : World} {B C : Nat} {v : Value} {bs : List UInt8} (h : OwnB w B v bs) (hC : C ≤ B) : OwnB w C v bs := by
  obtain ⟨h0, h1⟩ := h
  refine ⟨h0, ?_⟩
  rcases h1 with h1 | ⟨g, cap, cur, e, hg, rest⟩
  · exact .inl h1
  · exact .inr ⟨g, cap, cur, e, Nat.le_trans hC hg, rest⟩
theorem row8_one (q : Nat → Int) : (row8 q).all (·.oneCell') = true := by simp [row8, Value.oneCell']
theorem fr_own {w w' : World} {v : Value} (hg : w.grownBy w' v.ownBlock) : Fr v.ownBlock.toList w w' := (Fr.refl _ w).grown hg (fun g h => .inl (by simp [h]))

set_option maxRecDepth 10000 in
set_option maxHeartbeats 4000000 in
theorem lawbytes_none (a : Int) (x : Nat → Int) (hc : chkRec a false x = 0) (w : World) :
    Calls Try.prog 14 #[.agg (recRow a false x)] w fun e w' => ∃ v, e = .returned v ∧ OwnB w' w.heap.size v (recBytes a false x) ∧ Below w.heap.size w w' := by
  obtain ⟨ha, _, _⟩ := chkRec_ok hc
  have hb0 := heap_new w (.cells (recRow a false x) 44)
  have c0 : (w.alloc (.cells (recRow a false x) 44)).cell? ⟨w.heap.size, 0, none⟩ = some (.int .i64 a) := cell_at hb0 0
  have c1 : (w.alloc (.cells (recRow a false x) 44)).cell? ⟨w.heap.size, 1, none⟩ = some (.bool false) := cell_at hb0 1
  have n1 : IntKind.i64.wrap (2 * a) = 2 * a := IntWalk.i64_in _ (by omega)
  have n2 : IntKind.u64.wrap (2 * a) = 2 * a := IntWalk.u64_in _ (by omega)
  have HC := hid1 (fun w : World => refcount_at' (2 * a) (2 * a).toNat (by omega) (by omega) w)
  have HB := hid1 ((Below.refl w.heap.size w).alloc (Nat.le_refl _) (.cells (recRow a false x) 44))
  clear hb0 hc
  go_enter Try.func14, Try.ntmps14
  go_wp2_with (go_at_call 28; refine (HC.out _).mono ?_; rintro e w3 ⟨v2, rfl, hv2, hb2⟩)
  go_ret
  exact ⟨v2, rfl, hv2.base (by simp), HB.out.trans (hb2.mono HB.out.size)⟩
set_option maxRecDepth 10000 in
set_option maxHeartbeats 40000000 in
theorem lawbytes_tri (a : Int) (x : Nat → Int) (hc : chkRec a true x = 0) (w : World) :
    Calls Try.prog 14 #[.agg (recRow a true x)] w fun e w' => ∃ v, e = .returned v ∧ OwnB w' w.heap.size v (recBytes a true x) ∧ Below w.heap.size w w' := by
  obtain ⟨ha, hx, _⟩ := chkRec_ok hc
  have HX := hid1 (hx rfl)
  have hb0 := heap_new w (.cells (recRow a true x) 44)
  have c0 : (w.alloc (.cells (recRow a true x) 44)).cell? ⟨w.heap.size, 0, none⟩ = some (.int .i64 a) := cell_at hb0 0
  have c1 : (w.alloc (.cells (recRow a true x) 44)).cell? ⟨w.heap.size, 1, none⟩ = some (.bool true) := cell_at hb0 1
  have n1 : IntKind.i64.wrap (2 * a) = 2 * a := IntWalk.i64_in _ (by omega)
  have n3 : IntKind.i64.wrap (2 * a + 1) = 2 * a + 1 := IntWalk.i64_in _ (by omega)
  have n2 : IntKind.u64.wrap (2 * a + 1) = 2 * a + 1 := IntWalk.u64_in _ (by omega)
  have HC := hid1 (fun w : World => refcount_at' (2 * a + 1) (2 * a + 1).toNat (by omega) (by omega) w)
  have HB := hid1 ((Below.refl w.heap.size w).alloc (Nat.le_refl _) (.cells (recRow a true x) 44))
  have HB0 := hid1 hb0
  obtain ⟨b0, hb⟩ : ∃ b0, encN (2 * a + 1).toNat = b0 := ⟨_, rfl⟩
  have HREC := hid1 (show recBytes a true x = b0 ++ triBytes x 3 by rw [← hb]; rfl)
  have HL0 := hid1 (show b0.length = 1 by rw [← hb]; exact enc1 (by omega))
  rw [hb] at HC
  clear hb0 hc hb
  go_enter Try.func14, Try.ntmps14
  go_wp2_with (go_at_call 28; refine (HC.out _).mono ?_; rintro e w3 ⟨v0, rfl, hv2, hb2⟩; have HB3 := hid1 (heap_keep ((Fr.ofBelow hb2).heap HB0.out (by simp)) (.cells (row8 (fun _ => 0)) 71)); have HO3 := hid1 ((hv2.base (show w.heap.size ≤ _ by simp)).keep ((Below.refl w3.heap.size w3).alloc (Nat.le_refl _) (.cells (row8 (fun _ => 0)) 71))); have hsz : w.heap.size ≤ w3.heap.size := Nat.le_trans (by simp) hb2.size; have HBW3 := hid1 ((HB.out.trans (hb2.mono HB.out.size)).alloc hsz (.cells (row8 (fun _ => 0)) 71)); have HN3 := hid1 (heap_new w3 (.cells (row8 (fun _ => 0)) 71)); have HLT := hid1 (show w.heap.size < w3.heap.size from heap_lt ((Fr.ofBelow hb2).heap HB0.out (by simp))); clear hv2 hb2 hsz)
  obtain ⟨L, hL⟩ : ∃ L, w3.heap.size = L := ⟨_, rfl⟩
  have hLw : w.heap.size < L := by rw [← hL]; exact HLT.out
  rw [hL] at HN3 ⊢
  obtain ⟨wo, rfl⟩ : ∃ wo : World, wo = w := ⟨_, rfl⟩
  have HLW := hid1 (show wo.heap.size ≤ L from by have := heap_lt HB3.out; have := hLw; omega)
  have HLB := hid1 (show L ≠ wo.heap.size from by have := hLw; omega)
  have HROW0 := hid1 (show row8 (fun _ => 0) = row8 (last x 0) by unfold row8; simp [last])
  clear c0 c1 n1 n2 n3 hL
  go_loopw [4, 23] (fun v k wr => ∃ (i : Nat), i ≤ 3 ∧ k = .int .i64 i ∧ OwnB wr wo.heap.size v (b0 ++ triBytes x i) ∧ Hid (wr.heap[wo.heap.size]? = some (.cells (recRow a true x) 44 (0, 0))) ∧ Hid (wr.heap[L]? = some (.cells (row8 (last x i)) 71 (0, 0))) ∧ Hid (Below wo.heap.size wo wr)) (fun _ k _ => 3 - (intOf k).toNat)
  case atStart => exact ⟨0, by omega, rfl, by rw [show b0 ++ triBytes x 0 = b0 by simp [triBytes]]; exact HO3.out, HB3, hid1 (by rw [← HROW0.out]; exact HN3.out), HBW3⟩
  case round =>
    clear HO3 HB3 HN3 HBW3 HROW0
    obtain ⟨i, hi, rfl, ho, HB2, HL, HBW⟩ := hrel
    by_cases hlt : i < 3
    · have HTL := hid1 (show (b0 ++ triBytes x i).length ≤ 200 by rw [List.length_append]; have := tri_len HX.out i hi; have := HL0.out; omega)
      have HNEW := hid1 (show b0 ++ triBytes x (i + 1) = b0 ++ triBytes x i ++ cornerBytes x i 8 by rw [triBytes_succ, List.append_assoc])
      obtain ⟨b1, hb1⟩ : ∃ b1, b0 ++ triBytes x i = b1 := ⟨_, rfl⟩
      rw [hb1] at ho HTL HNEW
      clear hb1
      rcases (show i = 0 ∨ i = 1 ∨ i = 2 by omega) with rfl | rfl | rfl
      · have hb := HB2.out
        have q0 : wr.cell? ⟨wo.heap.size, 14, none⟩ = some (.int .i64 (x 12)) := cell_at hb 14
        have q1 : wr.cell? ⟨wo.heap.size, 15, none⟩ = some (.int .i64 (x 13)) := cell_at hb 15
        have q2 : wr.cell? ⟨wo.heap.size, 16, none⟩ = some (.int .i64 (x 14)) := cell_at hb 16
        have q3 : wr.cell? ⟨wo.heap.size, 17, none⟩ = some (.int .i64 (x 15)) := cell_at hb 17
        go_upto_region 10 with fail
        have hn1 := heap_new wr (.cells #[.int .i64 (x 12), .int .i64 (x 13), .int .i64 (x 14), .int .i64 (x 15)] 38)
        have hb1 := heap_keep hb (.cells #[.int .i64 (x 12), .int .i64 (x 13), .int .i64 (x 14), .int .i64 (x 15)] 38)
        have hl1 := heap_keep HL.out (.cells #[.int .i64 (x 12), .int .i64 (x 13), .int .i64 (x 14), .int .i64 (x 15)] 38)
        have ho1 := ho.keep ((Below.refl wr.heap.size wr).alloc (Nat.le_refl _) (.cells #[.int .i64 (x 12), .int .i64 (x 13), .int .i64 (x 14), .int .i64 (x 15)] 38))
        have hw1 := HBW.out.alloc (Nat.le_of_lt (heap_lt hb)) (.cells #[.int .i64 (x 12), .int .i64 (x 13), .int .i64 (x 14), .int .i64 (x 15)] 38)
        obtain ⟨C, hC⟩ : ∃ C, wr.heap.size = C := ⟨_, rfl⟩
        rw [hC] at hn1 ⊢
        obtain ⟨W1, hW1⟩ : ∃ W1, wr.alloc (.cells #[.int .i64 (x 12), .int .i64 (x 13), .int .i64 (x 14), .int .i64 (x 15)] 38) = W1 := ⟨_, rfl⟩
        rw [hW1] at hn1 hb1 hl1 ho1 hw1 ⊢
        have p0 : W1.cell? ⟨wo.heap.size, 2, none⟩ = some (.int .i64 (x 0)) := cell_at hb1 2
        have p1 : W1.cell? ⟨wo.heap.size, 3, none⟩ = some (.int .i64 (x 1)) := cell_at hb1 3
        have p2 : W1.cell? ⟨wo.heap.size, 8, none⟩ = some (.int .i64 (x 6)) := cell_at hb1 8
        have p3 : W1.cell? ⟨wo.heap.size, 11, none⟩ = some (.int .i64 (x 9)) := cell_at hb1 11
        have v0 : W1.cell? ⟨C, 0, none⟩ = some (.int .i64 (x 12)) := cell_at hn1 0
        have v1 : W1.cell? ⟨C, 1, none⟩ = some (.int .i64 (x 13)) := cell_at hn1 1
        have v2 : W1.cell? ⟨C, 2, none⟩ = some (.int .i64 (x 14)) := cell_at hn1 2
        have v3 : W1.cell? ⟨C, 3, none⟩ = some (.int .i64 (x 15)) := cell_at hn1 3
        have pa0 : (W1.alloc (.cells #[.int .i64 0, .int .i64 0, .int .i64 0, .int .i64 0, .int .i64 0, .int .i64 0, .int .i64 0, .int .i64 0] 71)).cell? ⟨wo.heap.size, 2, none⟩ = some (.int .i64 (x 0)) := cell_at (heap_keep hb1 _) 2
        have pa1 : (W1.alloc (.cells #[.int .i64 0, .int .i64 0, .int .i64 0, .int .i64 0, .int .i64 0, .int .i64 0, .int .i64 0, .int .i64 0] 71)).cell? ⟨wo.heap.size, 3, none⟩ = some (.int .i64 (x 1)) := cell_at (heap_keep hb1 _) 3
        have pa2 : (W1.alloc (.cells #[.int .i64 0, .int .i64 0, .int .i64 0, .int .i64 0, .int .i64 0, .int .i64 0, .int .i64 0, .int .i64 0] 71)).cell? ⟨wo.heap.size, 8, none⟩ = some (.int .i64 (x 6)) := cell_at (heap_keep hb1 _) 8
        have pa3 : (W1.alloc (.cells #[.int .i64 0, .int .i64 0, .int .i64 0, .int .i64 0, .int .i64 0, .int .i64 0, .int .i64 0, .int .i64 0] 71)).cell? ⟨wo.heap.size, 11, none⟩ = some (.int .i64 (x 9)) := cell_at (heap_keep hb1 _) 11
        have va0 : (W1.alloc (.cells #[.int .i64 0, .int .i64 0, .int .i64 0, .int .i64 0, .int .i64 0, .int .i64 0, .int .i64 0, .int .i64 0] 71)).cell? ⟨C, 0, none⟩ = some (.int .i64 (x 12)) := cell_at (heap_keep hn1 _) 0
        have va1 : (W1.alloc (.cells #[.int .i64 0, .int .i64 0, .int .i64 0, .int .i64 0, .int .i64 0, .int .i64 0, .int .i64 0, .int .i64 0] 71)).cell? ⟨C, 1, none⟩ = some (.int .i64 (x 13)) := cell_at (heap_keep hn1 _) 1
        have va2 : (W1.alloc (.cells #[.int .i64 0, .int .i64 0, .int .i64 0, .int .i64 0, .int .i64 0, .int .i64 0, .int .i64 0, .int .i64 0] 71)).cell? ⟨C, 2, none⟩ = some (.int .i64 (x 14)) := cell_at (heap_keep hn1 _) 2
        have va3 : (W1.alloc (.cells #[.int .i64 0, .int .i64 0, .int .i64 0, .int .i64 0, .int .i64 0, .int .i64 0, .int .i64 0, .int .i64 0] 71)).cell? ⟨C, 3, none⟩ = some (.int .i64 (x 15)) := cell_at (heap_keep hn1 _) 3
        have HB1 := hid1 hb1
        have HL1 := hid1 hl1
        have HO1 := hid1 ho1
        have HW1 := hid1 hw1
        have HC1 := hid1 hn1
        clear hb hn1 hb1 hl1 ho1 hw1 hC hW1 ho HB2 HL HBW q0 q1 q2 q3
        refine wp_region_held (S := fun w' => w'.heap[wo.heap.size]? = some (.cells (recRow a true x) 44 (0, 0)) ∧ w'.heap[C]? = some (.cells #[.int .i64 (x 12), .int .i64 (x 13), .int .i64 (x 14), .int .i64 (x 15)] 38 (0, 0))) (by kernel_rfl) ?_
        change wpAnyH _ _ _ _ _ 33 (Array.replicate 33 false) _ W1.drew
        have HS0 := hid1 (show W1.drew.heap[wo.heap.size]? = some (.cells (recRow a true x) 44 (0, 0)) ∧ W1.drew.heap[C]? = some (.cells #[.int .i64 (x 12), .int .i64 (x 13), .int .i64 (x 14), .int .i64 (x 15)] 38 (0, 0)) from ⟨HB1.out, HC1.out⟩)
        refine held_take (i := 0) rfl rfl (some 31) rfl (.int .i64 0) (by kernel_rfl) (by kernel_rfl) (by kernel_rfl) (fun _ _ _ _ h => h) HS0.out (fun w' hw => by go_simp) ?_
        simp only [Act.put, List.setIfInBounds_toArray, List.set_cons_succ, List.set_cons_zero]
        refine held_take (i := 1) rfl rfl (some 32) rfl (.pointer (some ⟨wo.heap.size, 2, none⟩)) (by kernel_rfl) (by kernel_rfl) (by kernel_rfl) (fun _ _ _ _ h => h) HS0.out (fun w' hw => by go_simp) ?_
        simp only [Act.put, List.setIfInBounds_toArray, List.set_cons_succ, List.set_cons_zero]
        refine held_take (i := 2) rfl rfl (some 33) rfl (.pointer (some ⟨wo.heap.size, 2, none⟩)) (by kernel_rfl) (by kernel_rfl) (by kernel_rfl) (fun _ _ _ _ h => h) HS0.out (fun w' hw => by go_simp) ?_
        simp only [Act.put, List.setIfInBounds_toArray, List.set_cons_succ, List.set_cons_zero]
        refine held_take (i := 3) rfl rfl (some 34) rfl (.pointer (some ⟨wo.heap.size, 2, none⟩)) (by kernel_rfl) (by kernel_rfl) (by kernel_rfl) (fun _ _ _ _ h => h) HS0.out (fun w' hw => by go_simp) ?_
        simp only [Act.put, List.setIfInBounds_toArray, List.set_cons_succ, List.set_cons_zero]
        refine held_take (i := 4) rfl rfl (some 35) rfl (.pointer (some ⟨wo.heap.size, 2, none⟩)) (by kernel_rfl) (by kernel_rfl) (by kernel_rfl) (fun _ _ _ _ h => h) HS0.out (fun w' hw => by go_simp) ?_
        simp only [Act.put, List.setIfInBounds_toArray, List.set_cons_succ, List.set_cons_zero]
        refine held_take (i := 5) rfl rfl (some 36) rfl (.int .i64 (x 0)) (by kernel_rfl) (by kernel_rfl) (by kernel_rfl) (fun _ _ _ _ h => h) HS0.out (fun w' hw => by have c : w'.cell? ⟨wo.heap.size, 2, none⟩ = some (.int .i64 (x 0)) := cell_at hw.1 2; go_simp) ?_
        simp only [Act.put, List.setIfInBounds_toArray, List.set_cons_succ, List.set_cons_zero]
        refine held_take (i := 6) rfl rfl (some 37) rfl (.int .i64 0) (by kernel_rfl) (by kernel_rfl) (by kernel_rfl) (fun _ _ _ _ h => h) HS0.out (fun w' hw => by go_simp) ?_
        simp only [Act.put, List.setIfInBounds_toArray, List.set_cons_succ, List.set_cons_zero]
        refine held_take (i := 7) rfl rfl (some 38) rfl (.pointer (some ⟨wo.heap.size, 2, none⟩)) (by kernel_rfl) (by kernel_rfl) (by kernel_rfl) (fun _ _ _ _ h => h) HS0.out (fun w' hw => by go_simp) ?_
        simp only [Act.put, List.setIfInBounds_toArray, List.set_cons_succ, List.set_cons_zero]
        refine held_take (i := 8) rfl rfl (some 39) rfl (.pointer (some ⟨wo.heap.size, 2, none⟩)) (by kernel_rfl) (by kernel_rfl) (by kernel_rfl) (fun _ _ _ _ h => h) HS0.out (fun w' hw => by go_simp) ?_
        simp only [Act.put, List.setIfInBounds_toArray, List.set_cons_succ, List.set_cons_zero]
        refine held_take (i := 9) rfl rfl (some 40) rfl (.pointer (some ⟨wo.heap.size, 2, none⟩)) (by kernel_rfl) (by kernel_rfl) (by kernel_rfl) (fun _ _ _ _ h => h) HS0.out (fun w' hw => by go_simp) ?_
        simp only [Act.put, List.setIfInBounds_toArray, List.set_cons_succ, List.set_cons_zero]
        refine held_take (i := 10) rfl rfl (some 41) rfl (.pointer (some ⟨wo.heap.size, 3, none⟩)) (by kernel_rfl) (by kernel_rfl) (by kernel_rfl) (fun _ _ _ _ h => h) HS0.out (fun w' hw => by go_simp) ?_
        simp only [Act.put, List.setIfInBounds_toArray, List.set_cons_succ, List.set_cons_zero]
        refine held_take (i := 11) rfl rfl (some 42) rfl (.int .i64 (x 1)) (by kernel_rfl) (by kernel_rfl) (by kernel_rfl) (fun _ _ _ _ h => h) HS0.out (fun w' hw => by have c : w'.cell? ⟨wo.heap.size, 3, none⟩ = some (.int .i64 (x 1)) := cell_at hw.1 3; go_simp) ?_
        simp only [Act.put, List.setIfInBounds_toArray, List.set_cons_succ, List.set_cons_zero]
        refine held_take (i := 12) rfl rfl (some 43) rfl (.int .i64 0) (by kernel_rfl) (by kernel_rfl) (by kernel_rfl) (fun _ _ _ _ h => h) HS0.out (fun w' hw => by go_simp) ?_
        simp only [Act.put, List.setIfInBounds_toArray, List.set_cons_succ, List.set_cons_zero]
        refine held_take (i := 13) rfl rfl (some 44) rfl (.pointer (some ⟨wo.heap.size, 2, none⟩)) (by kernel_rfl) (by kernel_rfl) (by kernel_rfl) (fun _ _ _ _ h => h) HS0.out (fun w' hw => by go_simp) ?_
        simp only [Act.put, List.setIfInBounds_toArray, List.set_cons_succ, List.set_cons_zero]
        refine held_take (i := 14) rfl rfl (some 45) rfl (.pointer (some ⟨wo.heap.size, 8, none⟩)) (by kernel_rfl) (by kernel_rfl) (by kernel_rfl) (fun _ _ _ _ h => h) HS0.out (fun w' hw => by go_simp) ?_
        simp only [Act.put, List.setIfInBounds_toArray, List.set_cons_succ, List.set_cons_zero]
        refine held_take (i := 15) rfl rfl (some 46) rfl (.pointer (some ⟨wo.heap.size, 8, none⟩)) (by kernel_rfl) (by kernel_rfl) (by kernel_rfl) (fun _ _ _ _ h => h) HS0.out (fun w' hw => by go_simp) ?_
        simp only [Act.put, List.setIfInBounds_toArray, List.set_cons_succ, List.set_cons_zero]
        refine held_take (i := 16) rfl rfl (some 47) rfl (.int .i64 (x 6)) (by kernel_rfl) (by kernel_rfl) (by kernel_rfl) (fun _ _ _ _ h => h) HS0.out (fun w' hw => by have c : w'.cell? ⟨wo.heap.size, 8, none⟩ = some (.int .i64 (x 6)) := cell_at hw.1 8; go_simp) ?_
        simp only [Act.put, List.setIfInBounds_toArray, List.set_cons_succ, List.set_cons_zero]
        refine held_take (i := 17) rfl rfl (some 48) rfl (.int .i64 0) (by kernel_rfl) (by kernel_rfl) (by kernel_rfl) (fun _ _ _ _ h => h) HS0.out (fun w' hw => by go_simp) ?_
        simp only [Act.put, List.setIfInBounds_toArray, List.set_cons_succ, List.set_cons_zero]
        refine held_take (i := 18) rfl rfl (some 49) rfl (.pointer (some ⟨wo.heap.size, 2, none⟩)) (by kernel_rfl) (by kernel_rfl) (by kernel_rfl) (fun _ _ _ _ h => h) HS0.out (fun w' hw => by go_simp) ?_
        simp only [Act.put, List.setIfInBounds_toArray, List.set_cons_succ, List.set_cons_zero]
        refine held_take (i := 19) rfl rfl (some 50) rfl (.pointer (some ⟨wo.heap.size, 11, none⟩)) (by kernel_rfl) (by kernel_rfl) (by kernel_rfl) (fun _ _ _ _ h => h) HS0.out (fun w' hw => by go_simp) ?_
        simp only [Act.put, List.setIfInBounds_toArray, List.set_cons_succ, List.set_cons_zero]
        refine held_take (i := 20) rfl rfl (some 51) rfl (.pointer (some ⟨wo.heap.size, 11, none⟩)) (by kernel_rfl) (by kernel_rfl) (by kernel_rfl) (fun _ _ _ _ h => h) HS0.out (fun w' hw => by go_simp) ?_
        simp only [Act.put, List.setIfInBounds_toArray, List.set_cons_succ, List.set_cons_zero]
        refine held_take (i := 21) rfl rfl (some 52) rfl (.int .i64 (x 9)) (by kernel_rfl) (by kernel_rfl) (by kernel_rfl) (fun _ _ _ _ h => h) HS0.out (fun w' hw => by have c : w'.cell? ⟨wo.heap.size, 11, none⟩ = some (.int .i64 (x 9)) := cell_at hw.1 11; go_simp) ?_
        simp only [Act.put, List.setIfInBounds_toArray, List.set_cons_succ, List.set_cons_zero]
        refine held_take (i := 22) rfl rfl (some 53) rfl (.pointer (some ⟨C, 0, none⟩)) (by kernel_rfl) (by kernel_rfl) (by kernel_rfl) (fun _ _ _ _ h => h) HS0.out (fun w' hw => by go_simp) ?_
        simp only [Act.put, List.setIfInBounds_toArray, List.set_cons_succ, List.set_cons_zero]
        refine held_take (i := 23) rfl rfl (some 54) rfl (.int .i64 (x 12)) (by kernel_rfl) (by kernel_rfl) (by kernel_rfl) (fun _ _ _ _ h => h) HS0.out (fun w' hw => by have c : w'.cell? ⟨C, 0, none⟩ = some (.int .i64 (x 12)) := cell_at hw.2 0; go_simp) ?_
        simp only [Act.put, List.setIfInBounds_toArray, List.set_cons_succ, List.set_cons_zero]
        refine held_take (i := 24) rfl rfl (some 55) rfl (.pointer (some ⟨C, 1, none⟩)) (by kernel_rfl) (by kernel_rfl) (by kernel_rfl) (fun _ _ _ _ h => h) HS0.out (fun w' hw => by go_simp) ?_
        simp only [Act.put, List.setIfInBounds_toArray, List.set_cons_succ, List.set_cons_zero]
        refine held_take (i := 25) rfl rfl (some 56) rfl (.int .i64 (x 13)) (by kernel_rfl) (by kernel_rfl) (by kernel_rfl) (fun _ _ _ _ h => h) HS0.out (fun w' hw => by have c : w'.cell? ⟨C, 1, none⟩ = some (.int .i64 (x 13)) := cell_at hw.2 1; go_simp) ?_
        simp only [Act.put, List.setIfInBounds_toArray, List.set_cons_succ, List.set_cons_zero]
        refine held_take (i := 26) rfl rfl (some 57) rfl (.pointer (some ⟨C, 2, none⟩)) (by kernel_rfl) (by kernel_rfl) (by kernel_rfl) (fun _ _ _ _ h => h) HS0.out (fun w' hw => by go_simp) ?_
        simp only [Act.put, List.setIfInBounds_toArray, List.set_cons_succ, List.set_cons_zero]
        refine held_take (i := 27) rfl rfl (some 58) rfl (.int .i64 (x 14)) (by kernel_rfl) (by kernel_rfl) (by kernel_rfl) (fun _ _ _ _ h => h) HS0.out (fun w' hw => by have c : w'.cell? ⟨C, 2, none⟩ = some (.int .i64 (x 14)) := cell_at hw.2 2; go_simp) ?_
        simp only [Act.put, List.setIfInBounds_toArray, List.set_cons_succ, List.set_cons_zero]
        refine held_take (i := 28) rfl rfl (some 59) rfl (.pointer (some ⟨C, 3, none⟩)) (by kernel_rfl) (by kernel_rfl) (by kernel_rfl) (fun _ _ _ _ h => h) HS0.out (fun w' hw => by go_simp) ?_
        simp only [Act.put, List.setIfInBounds_toArray, List.set_cons_succ, List.set_cons_zero]
        refine held_take (i := 29) rfl rfl (some 60) rfl (.int .i64 (x 15)) (by kernel_rfl) (by kernel_rfl) (by kernel_rfl) (fun _ _ _ _ h => h) HS0.out (fun w' hw => by have c : w'.cell? ⟨C, 3, none⟩ = some (.int .i64 (x 15)) := cell_at hw.2 3; go_simp) ?_
        simp only [Act.put, List.setIfInBounds_toArray, List.set_cons_succ, List.set_cons_zero]
        refine held_take (i := 30) rfl rfl (some 61) rfl (.agg #[.int .i64 (x 0), .int .i64 (x 1), .int .i64 (x 6), .int .i64 (x 9), .int .i64 (x 12), .int .i64 (x 13), .int .i64 (x 14), .int .i64 (x 15)]) (by kernel_rfl) (by kernel_rfl) (by kernel_rfl) (fun _ _ _ _ h => h) HS0.out (fun w' hw => by go_simp) ?_
        simp only [Act.put, List.setIfInBounds_toArray, List.set_cons_succ, List.set_cons_zero]
        have HS1 := hid1 (show (W1.drew.alloc (.cells #[.int .i64 0, .int .i64 0, .int .i64 0, .int .i64 0, .int .i64 0, .int .i64 0, .int .i64 0, .int .i64 0] 71)).heap[wo.heap.size]? = some (.cells (recRow a true x) 44 (0, 0)) ∧ (W1.drew.alloc (.cells #[.int .i64 0, .int .i64 0, .int .i64 0, .int .i64 0, .int .i64 0, .int .i64 0, .int .i64 0, .int .i64 0] 71)).heap[C]? = some (.cells #[.int .i64 (x 12), .int .i64 (x 13), .int .i64 (x 14), .int .i64 (x 15)] 38 (0, 0)) from ⟨heap_keep HS0.out.1 _, heap_keep HS0.out.2 _⟩)
        refine held_val (i := 31) rfl rfl (some 8) rfl (by kernel_rfl) (.pointer (some ⟨W1.drew.heap.size, 0, none⟩)) (W1.drew.alloc (.cells #[.int .i64 0, .int .i64 0, .int .i64 0, .int .i64 0, .int .i64 0, .int .i64 0, .int .i64 0, .int .i64 0] 71)) (by go_simp) HS1.out ?_
        simp only [Act.put, List.setIfInBounds_toArray, List.set_cons_succ, List.set_cons_zero]
        have hbz : wo.heap.size < W1.drew.heap.size := heap_lt HS0.out.1
        have hcz : C < W1.drew.heap.size := heap_lt HS0.out.2
        have hfz := fr_row (W1.drew.alloc (.cells #[.int .i64 0, .int .i64 0, .int .i64 0, .int .i64 0, .int .i64 0, .int .i64 0, .int .i64 0, .int .i64 0] 71)) W1.drew.heap.size (row8 (num x 0))
        have HS2 := hid1 (And.intro (hfz.heap HS1.out.1 (fun hm => by have := List.mem_singleton.1 hm; omega)) (hfz.heap HS1.out.2 (fun hm => by have := List.mem_singleton.1 hm; omega)))
        have HNZ := hid1 (setRow_heap _ _ _ (row8 (num x 0)) _ _ (heap_new W1.drew (.cells #[.int .i64 0, .int .i64 0, .int .i64 0, .int .i64 0, .int .i64 0, .int .i64 0, .int .i64 0, .int .i64 0] 71)))
        have hlz : L < W1.drew.heap.size := heap_lt (HL1.out : W1.drew.heap[L]? = _)
        have HLZ := hid1 (hfz.heap (heap_keep (HL1.out : W1.drew.heap[L]? = _) (.cells #[.int .i64 0, .int .i64 0, .int .i64 0, .int .i64 0, .int .i64 0, .int .i64 0, .int .i64 0, .int .i64 0] 71)) (fun hm => by have := List.mem_singleton.1 hm; omega))
        have hxz : Below W1.heap.size W1 ((W1.drew.alloc (.cells #[.int .i64 0, .int .i64 0, .int .i64 0, .int .i64 0, .int .i64 0, .int .i64 0, .int .i64 0, .int .i64 0] 71)).setRow W1.drew.heap.size (row8 (num x 0))) := Fr.below ((below_draws _ W1 1).alloc (Nat.le_refl _) (.cells #[.int .i64 0, .int .i64 0, .int .i64 0, .int .i64 0, .int .i64 0, .int .i64 0, .int .i64 0, .int .i64 0] 71)) hfz (fun k hk => by have := List.mem_singleton.1 hk; subst this; exact Nat.le_refl _) (by show W1.heap.size ≤ _; rw [World.size_alloc]; exact Nat.le_succ _)
        refine held_store_row (i := 32) rfl rfl none rfl 71 (.tmp 8) (.tmp 61) rfl (by kernel_rfl) W1.drew.heap.size (row8 (num x 0)) rfl rfl _ _ (heap_new W1.drew (.cells #[.int .i64 0, .int .i64 0, .int .i64 0, .int .i64 0, .int .i64 0, .int .i64 0, .int .i64 0, .int .i64 0] 71)) (Try.infoRow8 _) rfl (row8_one _) HS2.out ?_
        simp only [Act.put, List.setIfInBounds_toArray, List.set_cons_succ, List.set_cons_zero]
        refine wpAnyH_done (by kernel_rfl) ?_ _
        obtain ⟨Wz, hWz⟩ : ∃ Wz, (W1.drew.alloc (.cells #[.int .i64 0, .int .i64 0, .int .i64 0, .int .i64 0, .int .i64 0, .int .i64 0, .int .i64 0, .int .i64 0] 71)).setRow W1.drew.heap.size (row8 (num x 0)) = Wz := ⟨_, rfl⟩
        rw [hWz] at HS2 HNZ HLZ hxz ⊢
        obtain ⟨Nb, hNb⟩ : ∃ Nb, W1.drew.heap.size = Nb := ⟨_, rfl⟩
        rw [hNb] at HNZ ⊢
        have HN1 := HNZ
        have HB2 := hid1 HS2.out.1
        have HL2 := HLZ
        have HO2 := hid1 (HO1.out.keep hxz)
        have HW2 := hid1 (HW1.out.trans (hxz.mono (Nat.le_of_lt (heap_lt HB1.out))))
        clear hbz hcz hfz hlz hxz hWz hNb HS0 HS1 HS2 HB1 HL1 HO1 HW1 HC1
        go_wp2
        have zc : ((0 : Nat) : Int) = 0 := rfl
        rw [zc]
        clear zc
        go_loopw [4, 62] (fun v k wr => ∃ (k' : Nat), k' ≤ 8 ∧ k = .int .i64 k' ∧ OwnB wr wo.heap.size v (b1 ++ cornerBytes x 0 k') ∧ Hid (wr.heap[wo.heap.size]? = some (.cells (recRow a true x) 44 (0, 0))) ∧ Hid (wr.heap[L]? = some (.cells (row8 (last x 0)) 71 (0, 0))) ∧ Hid (wr.heap[Nb]? = some (.cells (row8 (num x 0)) 71 (0, 0))) ∧ Hid (Below wo.heap.size wo wr)) (fun _ k _ => 8 - (intOf k).toNat)
        case atStart => exact ⟨0, by omega, rfl, by rw [show b1 ++ cornerBytes x 0 0 = b1 by simp [cornerBytes]]; exact HO2.out, HB2, HL2, HN1, HW2⟩
        case round =>
          clear HO2 HB2 HL2 HN1 HW2
          obtain ⟨k, hk, rfl, ho, HB2, HL, HN, HBW⟩ := hrel
          by_cases hk8 : k < 8
          · have c0 : wr.cell? ⟨Nb, k, none⟩ = some (.int .i64 (num x 0 k)) := by rw [cell_at HN.out, row8_get _ hk8]
            have c1 : wr.cell? ⟨L, k, none⟩ = some (.int .i64 (last x 0 k)) := by rw [cell_at HL.out, row8_get _ hk8]
            have nb := num_bd HX.out (show 0 < 3 by omega) hk8
            have lb := last_bd HX.out (show 0 < 3 by omega) hk8
            have HD := hid1 (show b1 ++ cornerBytes x 0 (k + 1) = b1 ++ cornerBytes x 0 k ++ encN (zig (num x 0 k - last x 0 k)) by rw [cornerBytes_succ, List.append_assoc]; rfl)
            have HLL := hid1 (show (b1 ++ cornerBytes x 0 k).length ≤ 1000 by rw [List.length_append]; have := corner_len HX.out (show 0 < 3 by omega) k hk; have := HTL.out; omega)
            obtain ⟨p, hp⟩ : ∃ p, num x 0 k = p := ⟨_, rfl⟩
            obtain ⟨q, hq⟩ : ∃ q, last x 0 k = q := ⟨_, rfl⟩
            rw [hp] at c0 nb HD
            rw [hq] at c1 lb HD
            have n1 : IntKind.i64.wrap (p - q) = p - q := IntWalk.i64_in _ (by omega)
            have HE := hid1 (show (encN (zig (p - q))).length ≤ 3 from enc3 (by unfold zig; split <;> omega))
            have HINT := hid1 (fun w : World => refint_calls (p - q) (by omega) w)
            have HO := hid1 ho
            have hk9 : ((k : Nat) : Int) < 8 := by omega
            clear hp hq ho nb lb
            go_wp2
            go_region_law (first
              | (refine step_app_bytes rfl (.tmp 65) (.tmp 73) rfl rfl HO3.out rfl HY3.out (by have := HLL.out; have := HE.out; omega) HS3.out ?_; intro v1 w1 ho1 hg1)
              | (go_simp; go_at_call 29; refine (HINT.out _).mono ?_; rintro e w3 ⟨v2, rfl, hv2, hb2⟩; obtain ⟨ay, cy, rfl, hy⟩ := hv2.bytes; have hb3 : Below wr.heap.size wr w3 := (below_draws _ wr 1).trans hb2; have HY3 := hid1 hy; have HO3 := hid1 (HO.out.keep hb3); have HB3 := hid1 ((Fr.ofBelow hb3).heap HB2.out (by simp)); have HL3 := hid1 ((Fr.ofBelow hb3).heap HL.out (by simp)); have HN3 := hid1 ((Fr.ofBelow hb3).heap HN.out (by simp)); have HW3 := hid1 (HBW.out.trans (hb3.mono (Nat.le_of_lt (heap_lt HB2.out)))); have HS3 := hid1 (show wo.heap.size ≤ w3.heap.size from Nat.le_trans (Nat.le_of_lt (heap_lt HB2.out)) hb3.size); clear hv2 hb2 hb3 hy))
            all_goals
              go_wp2
              go_roundw
              case rel => exact ⟨k + 1, by omega, by go_num, by rw [HD.out]; exact ho1, hid1 ((fr_own hg1).heap HB3.out (own_ne HO3.out HB3.out (by decide))), hid1 ((fr_own hg1).heap HL3.out (own_ne HO3.out HL3.out (by decide))), hid1 ((fr_own hg1).heap HN3.out (own_ne HO3.out HN3.out (by decide))), hid1 (HO3.out.below HW3.out hg1 (Nat.le_refl _) HS3.out)⟩
              case measure => simp [intOf]; omega
          · obtain rfl : k = 8 := by omega
            have hk9 : ¬ (((8 : Nat) : Int) < 8) := by omega
            have HO := hid1 ho
            clear ho
            go_wp2_with (first
              | (with_reducible refine wpList_load_row rfl 71 (.tmp 8) rfl Nb rfl _ _ _ _ HN.out Try.underlying71 rfl (Try.infoRow8 _) ?_)
              | (with_reducible refine wpList_store_row rfl 71 (.tmp 5) (.tmp 76) rfl L (row8 (num x 0)) rfl rfl _ _ HL.out (Try.infoRow8 _) rfl (row8_one _) ?_))
            go_roundw
            case rel =>
              have hfr := fr_row wr L (row8 (num x 0))
              have hne := own_ne HO.out HL.out (by decide)
              have hbl : L ≠ wo.heap.size := HLB.out
              exact ⟨0 + 1, by omega, by go_num, by rw [HNEW.out]; exact own_fr HO.out hfr (fun g hg hm => by have := List.mem_singleton.1 hm; subst this; exact hne (by simp [hg])), hid1 (hfr.heap HB2.out (fun hm => hbl (List.mem_singleton.1 hm).symm)), hid1 (by rw [show row8 (last x (0 + 1)) = row8 (num x 0) by unfold row8; simp [last]]; exact setRow_heap _ _ _ _ _ _ HL.out), hid1 (Fr.below HBW.out hfr (fun k hk => by have := List.mem_singleton.1 hk; subst this; exact HLW.out) (Nat.le_of_lt (heap_lt HB2.out)))⟩
            case measure => simp [intOf]
      · have hb := HB2.out
        have q0 : wr.cell? ⟨wo.heap.size, 18, none⟩ = some (.int .i64 (x 16)) := cell_at hb 18
        have q1 : wr.cell? ⟨wo.heap.size, 19, none⟩ = some (.int .i64 (x 17)) := cell_at hb 19
        have q2 : wr.cell? ⟨wo.heap.size, 20, none⟩ = some (.int .i64 (x 18)) := cell_at hb 20
        have q3 : wr.cell? ⟨wo.heap.size, 21, none⟩ = some (.int .i64 (x 19)) := cell_at hb 21
        go_upto_region 10 with fail
        have hn1 := heap_new wr (.cells #[.int .i64 (x 16), .int .i64 (x 17), .int .i64 (x 18), .int .i64 (x 19)] 38)
        have hb1 := heap_keep hb (.cells #[.int .i64 (x 16), .int .i64 (x 17), .int .i64 (x 18), .int .i64 (x 19)] 38)
        have hl1 := heap_keep HL.out (.cells #[.int .i64 (x 16), .int .i64 (x 17), .int .i64 (x 18), .int .i64 (x 19)] 38)
        have ho1 := ho.keep ((Below.refl wr.heap.size wr).alloc (Nat.le_refl _) (.cells #[.int .i64 (x 16), .int .i64 (x 17), .int .i64 (x 18), .int .i64 (x 19)] 38))
        have hw1 := HBW.out.alloc (Nat.le_of_lt (heap_lt hb)) (.cells #[.int .i64 (x 16), .int .i64 (x 17), .int .i64 (x 18), .int .i64 (x 19)] 38)
        obtain ⟨C, hC⟩ : ∃ C, wr.heap.size = C := ⟨_, rfl⟩
        rw [hC] at hn1 ⊢
        obtain ⟨W1, hW1⟩ : ∃ W1, wr.alloc (.cells #[.int .i64 (x 16), .int .i64 (x 17), .int .i64 (x 18), .int .i64 (x 19)] 38) = W1 := ⟨_, rfl⟩
        rw [hW1] at hn1 hb1 hl1 ho1 hw1 ⊢
        have p0 : W1.cell? ⟨wo.heap.size, 4, none⟩ = some (.int .i64 (x 2)) := cell_at hb1 4
        have p1 : W1.cell? ⟨wo.heap.size, 5, none⟩ = some (.int .i64 (x 3)) := cell_at hb1 5
        have p2 : W1.cell? ⟨wo.heap.size, 9, none⟩ = some (.int .i64 (x 7)) := cell_at hb1 9
        have p3 : W1.cell? ⟨wo.heap.size, 12, none⟩ = some (.int .i64 (x 10)) := cell_at hb1 12
        have v0 : W1.cell? ⟨C, 0, none⟩ = some (.int .i64 (x 16)) := cell_at hn1 0
        have v1 : W1.cell? ⟨C, 1, none⟩ = some (.int .i64 (x 17)) := cell_at hn1 1
        have v2 : W1.cell? ⟨C, 2, none⟩ = some (.int .i64 (x 18)) := cell_at hn1 2
        have v3 : W1.cell? ⟨C, 3, none⟩ = some (.int .i64 (x 19)) := cell_at hn1 3
        have pa0 : (W1.alloc (.cells #[.int .i64 0, .int .i64 0, .int .i64 0, .int .i64 0, .int .i64 0, .int .i64 0, .int .i64 0, .int .i64 0] 71)).cell? ⟨wo.heap.size, 4, none⟩ = some (.int .i64 (x 2)) := cell_at (heap_keep hb1 _) 4
        have pa1 : (W1.alloc (.cells #[.int .i64 0, .int .i64 0, .int .i64 0, .int .i64 0, .int .i64 0, .int .i64 0, .int .i64 0, .int .i64 0] 71)).cell? ⟨wo.heap.size, 5, none⟩ = some (.int .i64 (x 3)) := cell_at (heap_keep hb1 _) 5
        have pa2 : (W1.alloc (.cells #[.int .i64 0, .int .i64 0, .int .i64 0, .int .i64 0, .int .i64 0, .int .i64 0, .int .i64 0, .int .i64 0] 71)).cell? ⟨wo.heap.size, 9, none⟩ = some (.int .i64 (x 7)) := cell_at (heap_keep hb1 _) 9
        have pa3 : (W1.alloc (.cells #[.int .i64 0, .int .i64 0, .int .i64 0, .int .i64 0, .int .i64 0, .int .i64 0, .int .i64 0, .int .i64 0] 71)).cell? ⟨wo.heap.size, 12, none⟩ = some (.int .i64 (x 10)) := cell_at (heap_keep hb1 _) 12
        have va0 : (W1.alloc (.cells #[.int .i64 0, .int .i64 0, .int .i64 0, .int .i64 0, .int .i64 0, .int .i64 0, .int .i64 0, .int .i64 0] 71)).cell? ⟨C, 0, none⟩ = some (.int .i64 (x 16)) := cell_at (heap_keep hn1 _) 0
        have va1 : (W1.alloc (.cells #[.int .i64 0, .int .i64 0, .int .i64 0, .int .i64 0, .int .i64 0, .int .i64 0, .int .i64 0, .int .i64 0] 71)).cell? ⟨C, 1, none⟩ = some (.int .i64 (x 17)) := cell_at (heap_keep hn1 _) 1
        have va2 : (W1.alloc (.cells #[.int .i64 0, .int .i64 0, .int .i64 0, .int .i64 0, .int .i64 0, .int .i64 0, .int .i64 0, .int .i64 0] 71)).cell? ⟨C, 2, none⟩ = some (.int .i64 (x 18)) := cell_at (heap_keep hn1 _) 2
        have va3 : (W1.alloc (.cells #[.int .i64 0, .int .i64 0, .int .i64 0, .int .i64 0, .int .i64 0, .int .i64 0, .int .i64 0, .int .i64 0] 71)).cell? ⟨C, 3, none⟩ = some (.int .i64 (x 19)) := cell_at (heap_keep hn1 _) 3
        have HB1 := hid1 hb1
        have HL1 := hid1 hl1
        have HO1 := hid1 ho1
        have HW1 := hid1 hw1
        have HC1 := hid1 hn1
        clear hb hn1 hb1 hl1 ho1 hw1 hC hW1 ho HB2 HL HBW q0 q1 q2 q3
        refine wp_region_held (S := fun w' => w'.heap[wo.heap.size]? = some (.cells (recRow a true x) 44 (0, 0)) ∧ w'.heap[C]? = some (.cells #[.int .i64 (x 16), .int .i64 (x 17), .int .i64 (x 18), .int .i64 (x 19)] 38 (0, 0))) (by kernel_rfl) ?_
        change wpAnyH _ _ _ _ _ 33 (Array.replicate 33 false) _ W1.drew
        have HS0 := hid1 (show W1.drew.heap[wo.heap.size]? = some (.cells (recRow a true x) 44 (0, 0)) ∧ W1.drew.heap[C]? = some (.cells #[.int .i64 (x 16), .int .i64 (x 17), .int .i64 (x 18), .int .i64 (x 19)] 38 (0, 0)) from ⟨HB1.out, HC1.out⟩)
        refine held_take (i := 0) rfl rfl (some 31) rfl (.int .i64 1) (by kernel_rfl) (by kernel_rfl) (by kernel_rfl) (fun _ _ _ _ h => h) HS0.out (fun w' hw => by go_simp) ?_
        simp only [Act.put, List.setIfInBounds_toArray, List.set_cons_succ, List.set_cons_zero]
        refine held_take (i := 1) rfl rfl (some 32) rfl (.pointer (some ⟨wo.heap.size, 2, none⟩)) (by kernel_rfl) (by kernel_rfl) (by kernel_rfl) (fun _ _ _ _ h => h) HS0.out (fun w' hw => by go_simp) ?_
        simp only [Act.put, List.setIfInBounds_toArray, List.set_cons_succ, List.set_cons_zero]
        refine held_take (i := 2) rfl rfl (some 33) rfl (.pointer (some ⟨wo.heap.size, 2, none⟩)) (by kernel_rfl) (by kernel_rfl) (by kernel_rfl) (fun _ _ _ _ h => h) HS0.out (fun w' hw => by go_simp) ?_
        simp only [Act.put, List.setIfInBounds_toArray, List.set_cons_succ, List.set_cons_zero]
        refine held_take (i := 3) rfl rfl (some 34) rfl (.pointer (some ⟨wo.heap.size, 4, none⟩)) (by kernel_rfl) (by kernel_rfl) (by kernel_rfl) (fun _ _ _ _ h => h) HS0.out (fun w' hw => by go_simp) ?_
        simp only [Act.put, List.setIfInBounds_toArray, List.set_cons_succ, List.set_cons_zero]
        refine held_take (i := 4) rfl rfl (some 35) rfl (.pointer (some ⟨wo.heap.size, 4, none⟩)) (by kernel_rfl) (by kernel_rfl) (by kernel_rfl) (fun _ _ _ _ h => h) HS0.out (fun w' hw => by go_simp) ?_
        simp only [Act.put, List.setIfInBounds_toArray, List.set_cons_succ, List.set_cons_zero]
        refine held_take (i := 5) rfl rfl (some 36) rfl (.int .i64 (x 2)) (by kernel_rfl) (by kernel_rfl) (by kernel_rfl) (fun _ _ _ _ h => h) HS0.out (fun w' hw => by have c : w'.cell? ⟨wo.heap.size, 4, none⟩ = some (.int .i64 (x 2)) := cell_at hw.1 4; go_simp) ?_
        simp only [Act.put, List.setIfInBounds_toArray, List.set_cons_succ, List.set_cons_zero]
        refine held_take (i := 6) rfl rfl (some 37) rfl (.int .i64 1) (by kernel_rfl) (by kernel_rfl) (by kernel_rfl) (fun _ _ _ _ h => h) HS0.out (fun w' hw => by go_simp) ?_
        simp only [Act.put, List.setIfInBounds_toArray, List.set_cons_succ, List.set_cons_zero]
        refine held_take (i := 7) rfl rfl (some 38) rfl (.pointer (some ⟨wo.heap.size, 2, none⟩)) (by kernel_rfl) (by kernel_rfl) (by kernel_rfl) (fun _ _ _ _ h => h) HS0.out (fun w' hw => by go_simp) ?_
        simp only [Act.put, List.setIfInBounds_toArray, List.set_cons_succ, List.set_cons_zero]
        refine held_take (i := 8) rfl rfl (some 39) rfl (.pointer (some ⟨wo.heap.size, 2, none⟩)) (by kernel_rfl) (by kernel_rfl) (by kernel_rfl) (fun _ _ _ _ h => h) HS0.out (fun w' hw => by go_simp) ?_
        simp only [Act.put, List.setIfInBounds_toArray, List.set_cons_succ, List.set_cons_zero]
        refine held_take (i := 9) rfl rfl (some 40) rfl (.pointer (some ⟨wo.heap.size, 4, none⟩)) (by kernel_rfl) (by kernel_rfl) (by kernel_rfl) (fun _ _ _ _ h => h) HS0.out (fun w' hw => by go_simp) ?_
        simp only [Act.put, List.setIfInBounds_toArray, List.set_cons_succ, List.set_cons_zero]
        refine held_take (i := 10) rfl rfl (some 41) rfl (.pointer (some ⟨wo.heap.size, 5, none⟩)) (by kernel_rfl) (by kernel_rfl) (by kernel_rfl) (fun _ _ _ _ h => h) HS0.out (fun w' hw => by go_simp) ?_
        simp only [Act.put, List.setIfInBounds_toArray, List.set_cons_succ, List.set_cons_zero]
        refine held_take (i := 11) rfl rfl (some 42) rfl (.int .i64 (x 3)) (by kernel_rfl) (by kernel_rfl) (by kernel_rfl) (fun _ _ _ _ h => h) HS0.out (fun w' hw => by have c : w'.cell? ⟨wo.heap.size, 5, none⟩ = some (.int .i64 (x 3)) := cell_at hw.1 5; go_simp) ?_
        simp only [Act.put, List.setIfInBounds_toArray, List.set_cons_succ, List.set_cons_zero]
        refine held_take (i := 12) rfl rfl (some 43) rfl (.int .i64 1) (by kernel_rfl) (by kernel_rfl) (by kernel_rfl) (fun _ _ _ _ h => h) HS0.out (fun w' hw => by go_simp) ?_
        simp only [Act.put, List.setIfInBounds_toArray, List.set_cons_succ, List.set_cons_zero]
        refine held_take (i := 13) rfl rfl (some 44) rfl (.pointer (some ⟨wo.heap.size, 2, none⟩)) (by kernel_rfl) (by kernel_rfl) (by kernel_rfl) (fun _ _ _ _ h => h) HS0.out (fun w' hw => by go_simp) ?_
        simp only [Act.put, List.setIfInBounds_toArray, List.set_cons_succ, List.set_cons_zero]
        refine held_take (i := 14) rfl rfl (some 45) rfl (.pointer (some ⟨wo.heap.size, 8, none⟩)) (by kernel_rfl) (by kernel_rfl) (by kernel_rfl) (fun _ _ _ _ h => h) HS0.out (fun w' hw => by go_simp) ?_
        simp only [Act.put, List.setIfInBounds_toArray, List.set_cons_succ, List.set_cons_zero]
        refine held_take (i := 15) rfl rfl (some 46) rfl (.pointer (some ⟨wo.heap.size, 9, none⟩)) (by kernel_rfl) (by kernel_rfl) (by kernel_rfl) (fun _ _ _ _ h => h) HS0.out (fun w' hw => by go_simp) ?_
        simp only [Act.put, List.setIfInBounds_toArray, List.set_cons_succ, List.set_cons_zero]
        refine held_take (i := 16) rfl rfl (some 47) rfl (.int .i64 (x 7)) (by kernel_rfl) (by kernel_rfl) (by kernel_rfl) (fun _ _ _ _ h => h) HS0.out (fun w' hw => by have c : w'.cell? ⟨wo.heap.size, 9, none⟩ = some (.int .i64 (x 7)) := cell_at hw.1 9; go_simp) ?_
        simp only [Act.put, List.setIfInBounds_toArray, List.set_cons_succ, List.set_cons_zero]
        refine held_take (i := 17) rfl rfl (some 48) rfl (.int .i64 1) (by kernel_rfl) (by kernel_rfl) (by kernel_rfl) (fun _ _ _ _ h => h) HS0.out (fun w' hw => by go_simp) ?_
        simp only [Act.put, List.setIfInBounds_toArray, List.set_cons_succ, List.set_cons_zero]
        refine held_take (i := 18) rfl rfl (some 49) rfl (.pointer (some ⟨wo.heap.size, 2, none⟩)) (by kernel_rfl) (by kernel_rfl) (by kernel_rfl) (fun _ _ _ _ h => h) HS0.out (fun w' hw => by go_simp) ?_
        simp only [Act.put, List.setIfInBounds_toArray, List.set_cons_succ, List.set_cons_zero]
        refine held_take (i := 19) rfl rfl (some 50) rfl (.pointer (some ⟨wo.heap.size, 11, none⟩)) (by kernel_rfl) (by kernel_rfl) (by kernel_rfl) (fun _ _ _ _ h => h) HS0.out (fun w' hw => by go_simp) ?_
        simp only [Act.put, List.setIfInBounds_toArray, List.set_cons_succ, List.set_cons_zero]
        refine held_take (i := 20) rfl rfl (some 51) rfl (.pointer (some ⟨wo.heap.size, 12, none⟩)) (by kernel_rfl) (by kernel_rfl) (by kernel_rfl) (fun _ _ _ _ h => h) HS0.out (fun w' hw => by go_simp) ?_
        simp only [Act.put, List.setIfInBounds_toArray, List.set_cons_succ, List.set_cons_zero]
        refine held_take (i := 21) rfl rfl (some 52) rfl (.int .i64 (x 10)) (by kernel_rfl) (by kernel_rfl) (by kernel_rfl) (fun _ _ _ _ h => h) HS0.out (fun w' hw => by have c : w'.cell? ⟨wo.heap.size, 12, none⟩ = some (.int .i64 (x 10)) := cell_at hw.1 12; go_simp) ?_
        simp only [Act.put, List.setIfInBounds_toArray, List.set_cons_succ, List.set_cons_zero]
        refine held_take (i := 22) rfl rfl (some 53) rfl (.pointer (some ⟨C, 0, none⟩)) (by kernel_rfl) (by kernel_rfl) (by kernel_rfl) (fun _ _ _ _ h => h) HS0.out (fun w' hw => by go_simp) ?_
        simp only [Act.put, List.setIfInBounds_toArray, List.set_cons_succ, List.set_cons_zero]
        refine held_take (i := 23) rfl rfl (some 54) rfl (.int .i64 (x 16)) (by kernel_rfl) (by kernel_rfl) (by kernel_rfl) (fun _ _ _ _ h => h) HS0.out (fun w' hw => by have c : w'.cell? ⟨C, 0, none⟩ = some (.int .i64 (x 16)) := cell_at hw.2 0; go_simp) ?_
        simp only [Act.put, List.setIfInBounds_toArray, List.set_cons_succ, List.set_cons_zero]
        refine held_take (i := 24) rfl rfl (some 55) rfl (.pointer (some ⟨C, 1, none⟩)) (by kernel_rfl) (by kernel_rfl) (by kernel_rfl) (fun _ _ _ _ h => h) HS0.out (fun w' hw => by go_simp) ?_
        simp only [Act.put, List.setIfInBounds_toArray, List.set_cons_succ, List.set_cons_zero]
        refine held_take (i := 25) rfl rfl (some 56) rfl (.int .i64 (x 17)) (by kernel_rfl) (by kernel_rfl) (by kernel_rfl) (fun _ _ _ _ h => h) HS0.out (fun w' hw => by have c : w'.cell? ⟨C, 1, none⟩ = some (.int .i64 (x 17)) := cell_at hw.2 1; go_simp) ?_
        simp only [Act.put, List.setIfInBounds_toArray, List.set_cons_succ, List.set_cons_zero]
        refine held_take (i := 26) rfl rfl (some 57) rfl (.pointer (some ⟨C, 2, none⟩)) (by kernel_rfl) (by kernel_rfl) (by kernel_rfl) (fun _ _ _ _ h => h) HS0.out (fun w' hw => by go_simp) ?_
        simp only [Act.put, List.setIfInBounds_toArray, List.set_cons_succ, List.set_cons_zero]
        refine held_take (i := 27) rfl rfl (some 58) rfl (.int .i64 (x 18)) (by kernel_rfl) (by kernel_rfl) (by kernel_rfl) (fun _ _ _ _ h => h) HS0.out (fun w' hw => by have c : w'.cell? ⟨C, 2, none⟩ = some (.int .i64 (x 18)) := cell_at hw.2 2; go_simp) ?_
        simp only [Act.put, List.setIfInBounds_toArray, List.set_cons_succ, List.set_cons_zero]
        refine held_take (i := 28) rfl rfl (some 59) rfl (.pointer (some ⟨C, 3, none⟩)) (by kernel_rfl) (by kernel_rfl) (by kernel_rfl) (fun _ _ _ _ h => h) HS0.out (fun w' hw => by go_simp) ?_
        simp only [Act.put, List.setIfInBounds_toArray, List.set_cons_succ, List.set_cons_zero]
        refine held_take (i := 29) rfl rfl (some 60) rfl (.int .i64 (x 19)) (by kernel_rfl) (by kernel_rfl) (by kernel_rfl) (fun _ _ _ _ h => h) HS0.out (fun w' hw => by have c : w'.cell? ⟨C, 3, none⟩ = some (.int .i64 (x 19)) := cell_at hw.2 3; go_simp) ?_
        simp only [Act.put, List.setIfInBounds_toArray, List.set_cons_succ, List.set_cons_zero]
        refine held_take (i := 30) rfl rfl (some 61) rfl (.agg #[.int .i64 (x 2), .int .i64 (x 3), .int .i64 (x 7), .int .i64 (x 10), .int .i64 (x 16), .int .i64 (x 17), .int .i64 (x 18), .int .i64 (x 19)]) (by kernel_rfl) (by kernel_rfl) (by kernel_rfl) (fun _ _ _ _ h => h) HS0.out (fun w' hw => by go_simp) ?_
        simp only [Act.put, List.setIfInBounds_toArray, List.set_cons_succ, List.set_cons_zero]
        have HS1 := hid1 (show (W1.drew.alloc (.cells #[.int .i64 0, .int .i64 0, .int .i64 0, .int .i64 0, .int .i64 0, .int .i64 0, .int .i64 0, .int .i64 0] 71)).heap[wo.heap.size]? = some (.cells (recRow a true x) 44 (0, 0)) ∧ (W1.drew.alloc (.cells #[.int .i64 0, .int .i64 0, .int .i64 0, .int .i64 0, .int .i64 0, .int .i64 0, .int .i64 0, .int .i64 0] 71)).heap[C]? = some (.cells #[.int .i64 (x 16), .int .i64 (x 17), .int .i64 (x 18), .int .i64 (x 19)] 38 (0, 0)) from ⟨heap_keep HS0.out.1 _, heap_keep HS0.out.2 _⟩)
        refine held_val (i := 31) rfl rfl (some 8) rfl (by kernel_rfl) (.pointer (some ⟨W1.drew.heap.size, 0, none⟩)) (W1.drew.alloc (.cells #[.int .i64 0, .int .i64 0, .int .i64 0, .int .i64 0, .int .i64 0, .int .i64 0, .int .i64 0, .int .i64 0] 71)) (by go_simp) HS1.out ?_
        simp only [Act.put, List.setIfInBounds_toArray, List.set_cons_succ, List.set_cons_zero]
        have hbz : wo.heap.size < W1.drew.heap.size := heap_lt HS0.out.1
        have hcz : C < W1.drew.heap.size := heap_lt HS0.out.2
        have hfz := fr_row (W1.drew.alloc (.cells #[.int .i64 0, .int .i64 0, .int .i64 0, .int .i64 0, .int .i64 0, .int .i64 0, .int .i64 0, .int .i64 0] 71)) W1.drew.heap.size (row8 (num x 1))
        have HS2 := hid1 (And.intro (hfz.heap HS1.out.1 (fun hm => by have := List.mem_singleton.1 hm; omega)) (hfz.heap HS1.out.2 (fun hm => by have := List.mem_singleton.1 hm; omega)))
        have HNZ := hid1 (setRow_heap _ _ _ (row8 (num x 1)) _ _ (heap_new W1.drew (.cells #[.int .i64 0, .int .i64 0, .int .i64 0, .int .i64 0, .int .i64 0, .int .i64 0, .int .i64 0, .int .i64 0] 71)))
        have hlz : L < W1.drew.heap.size := heap_lt (HL1.out : W1.drew.heap[L]? = _)
        have HLZ := hid1 (hfz.heap (heap_keep (HL1.out : W1.drew.heap[L]? = _) (.cells #[.int .i64 0, .int .i64 0, .int .i64 0, .int .i64 0, .int .i64 0, .int .i64 0, .int .i64 0, .int .i64 0] 71)) (fun hm => by have := List.mem_singleton.1 hm; omega))
        have hxz : Below W1.heap.size W1 ((W1.drew.alloc (.cells #[.int .i64 0, .int .i64 0, .int .i64 0, .int .i64 0, .int .i64 0, .int .i64 0, .int .i64 0, .int .i64 0] 71)).setRow W1.drew.heap.size (row8 (num x 1))) := Fr.below ((below_draws _ W1 1).alloc (Nat.le_refl _) (.cells #[.int .i64 0, .int .i64 0, .int .i64 0, .int .i64 0, .int .i64 0, .int .i64 0, .int .i64 0, .int .i64 0] 71)) hfz (fun k hk => by have := List.mem_singleton.1 hk; subst this; exact Nat.le_refl _) (by show W1.heap.size ≤ _; rw [World.size_alloc]; exact Nat.le_succ _)
        refine held_store_row (i := 32) rfl rfl none rfl 71 (.tmp 8) (.tmp 61) rfl (by kernel_rfl) W1.drew.heap.size (row8 (num x 1)) rfl rfl _ _ (heap_new W1.drew (.cells #[.int .i64 0, .int .i64 0, .int .i64 0, .int .i64 0, .int .i64 0, .int .i64 0, .int .i64 0, .int .i64 0] 71)) (Try.infoRow8 _) rfl (row8_one _) HS2.out ?_
        simp only [Act.put, List.setIfInBounds_toArray, List.set_cons_succ, List.set_cons_zero]
        refine wpAnyH_done (by kernel_rfl) ?_ _
        obtain ⟨Wz, hWz⟩ : ∃ Wz, (W1.drew.alloc (.cells #[.int .i64 0, .int .i64 0, .int .i64 0, .int .i64 0, .int .i64 0, .int .i64 0, .int .i64 0, .int .i64 0] 71)).setRow W1.drew.heap.size (row8 (num x 1)) = Wz := ⟨_, rfl⟩
        rw [hWz] at HS2 HNZ HLZ hxz ⊢
        obtain ⟨Nb, hNb⟩ : ∃ Nb, W1.drew.heap.size = Nb := ⟨_, rfl⟩
        rw [hNb] at HNZ ⊢
        have HN1 := HNZ
        have HB2 := hid1 HS2.out.1
        have HL2 := HLZ
        have HO2 := hid1 (HO1.out.keep hxz)
        have HW2 := hid1 (HW1.out.trans (hxz.mono (Nat.le_of_lt (heap_lt HB1.out))))
        clear hbz hcz hfz hlz hxz hWz hNb HS0 HS1 HS2 HB1 HL1 HO1 HW1 HC1
        go_wp2
        have zc : ((1 : Nat) : Int) = 1 := rfl
        rw [zc]
        clear zc
        go_loopw [4, 62] (fun v k wr => ∃ (k' : Nat), k' ≤ 8 ∧ k = .int .i64 k' ∧ OwnB wr wo.heap.size v (b1 ++ cornerBytes x 1 k') ∧ Hid (wr.heap[wo.heap.size]? = some (.cells (recRow a true x) 44 (0, 0))) ∧ Hid (wr.heap[L]? = some (.cells (row8 (last x 1)) 71 (0, 0))) ∧ Hid (wr.heap[Nb]? = some (.cells (row8 (num x 1)) 71 (0, 0))) ∧ Hid (Below wo.heap.size wo wr)) (fun _ k _ => 8 - (intOf k).toNat)
        case atStart => exact ⟨0, by omega, rfl, by rw [show b1 ++ cornerBytes x 1 0 = b1 by simp [cornerBytes]]; exact HO2.out, HB2, HL2, HN1, HW2⟩
        case round =>
          clear HO2 HB2 HL2 HN1 HW2
          obtain ⟨k, hk, rfl, ho, HB2, HL, HN, HBW⟩ := hrel
          by_cases hk8 : k < 8
          · have c0 : wr.cell? ⟨Nb, k, none⟩ = some (.int .i64 (num x 1 k)) := by rw [cell_at HN.out, row8_get _ hk8]
            have c1 : wr.cell? ⟨L, k, none⟩ = some (.int .i64 (last x 1 k)) := by rw [cell_at HL.out, row8_get _ hk8]
            have nb := num_bd HX.out (show 1 < 3 by omega) hk8
            have lb := last_bd HX.out (show 1 < 3 by omega) hk8
            have HD := hid1 (show b1 ++ cornerBytes x 1 (k + 1) = b1 ++ cornerBytes x 1 k ++ encN (zig (num x 1 k - last x 1 k)) by rw [cornerBytes_succ, List.append_assoc]; rfl)
            have HLL := hid1 (show (b1 ++ cornerBytes x 1 k).length ≤ 1000 by rw [List.length_append]; have := corner_len HX.out (show 1 < 3 by omega) k hk; have := HTL.out; omega)
            obtain ⟨p, hp⟩ : ∃ p, num x 1 k = p := ⟨_, rfl⟩
            obtain ⟨q, hq⟩ : ∃ q, last x 1 k = q := ⟨_, rfl⟩
            rw [hp] at c0 nb HD
            rw [hq] at c1 lb HD
            have n1 : IntKind.i64.wrap (p - q) = p - q := IntWalk.i64_in _ (by omega)
            have HE := hid1 (show (encN (zig (p - q))).length ≤ 3 from enc3 (by unfold zig; split <;> omega))
            have HINT := hid1 (fun w : World => refint_calls (p - q) (by omega) w)
            have HO := hid1 ho
            have hk9 : ((k : Nat) : Int) < 8 := by omega
            clear hp hq ho nb lb
            go_wp2
            go_region_law (first
              | (refine step_app_bytes rfl (.tmp 65) (.tmp 73) rfl rfl HO3.out rfl HY3.out (by have := HLL.out; have := HE.out; omega) HS3.out ?_; intro v1 w1 ho1 hg1)
              | (go_simp; go_at_call 29; refine (HINT.out _).mono ?_; rintro e w3 ⟨v2, rfl, hv2, hb2⟩; obtain ⟨ay, cy, rfl, hy⟩ := hv2.bytes; have hb3 : Below wr.heap.size wr w3 := (below_draws _ wr 1).trans hb2; have HY3 := hid1 hy; have HO3 := hid1 (HO.out.keep hb3); have HB3 := hid1 ((Fr.ofBelow hb3).heap HB2.out (by simp)); have HL3 := hid1 ((Fr.ofBelow hb3).heap HL.out (by simp)); have HN3 := hid1 ((Fr.ofBelow hb3).heap HN.out (by simp)); have HW3 := hid1 (HBW.out.trans (hb3.mono (Nat.le_of_lt (heap_lt HB2.out)))); have HS3 := hid1 (show wo.heap.size ≤ w3.heap.size from Nat.le_trans (Nat.le_of_lt (heap_lt HB2.out)) hb3.size); clear hv2 hb2 hb3 hy))
            all_goals
              go_wp2
              go_roundw
              case rel => exact ⟨k + 1, by omega, by go_num, by rw [HD.out]; exact ho1, hid1 ((fr_own hg1).heap HB3.out (own_ne HO3.out HB3.out (by decide))), hid1 ((fr_own hg1).heap HL3.out (own_ne HO3.out HL3.out (by decide))), hid1 ((fr_own hg1).heap HN3.out (own_ne HO3.out HN3.out (by decide))), hid1 (HO3.out.below HW3.out hg1 (Nat.le_refl _) HS3.out)⟩
              case measure => simp [intOf]; omega
          · obtain rfl : k = 8 := by omega
            have hk9 : ¬ (((8 : Nat) : Int) < 8) := by omega
            have HO := hid1 ho
            clear ho
            go_wp2_with (first
              | (with_reducible refine wpList_load_row rfl 71 (.tmp 8) rfl Nb rfl _ _ _ _ HN.out Try.underlying71 rfl (Try.infoRow8 _) ?_)
              | (with_reducible refine wpList_store_row rfl 71 (.tmp 5) (.tmp 76) rfl L (row8 (num x 1)) rfl rfl _ _ HL.out (Try.infoRow8 _) rfl (row8_one _) ?_))
            go_roundw
            case rel =>
              have hfr := fr_row wr L (row8 (num x 1))
              have hne := own_ne HO.out HL.out (by decide)
              have hbl : L ≠ wo.heap.size := HLB.out
              exact ⟨1 + 1, by omega, by go_num, by rw [HNEW.out]; exact own_fr HO.out hfr (fun g hg hm => by have := List.mem_singleton.1 hm; subst this; exact hne (by simp [hg])), hid1 (hfr.heap HB2.out (fun hm => hbl (List.mem_singleton.1 hm).symm)), hid1 (by rw [show row8 (last x (1 + 1)) = row8 (num x 1) by unfold row8; simp [last]]; exact setRow_heap _ _ _ _ _ _ HL.out), hid1 (Fr.below HBW.out hfr (fun k hk => by have := List.mem_singleton.1 hk; subst this; exact HLW.out) (Nat.le_of_lt (heap_lt HB2.out)))⟩
            case measure => simp [intOf]
      · have hb := HB2.out
        have q0 : wr.cell? ⟨wo.heap.size, 22, none⟩ = some (.int .i64 (x 20)) := cell_at hb 22
        have q1 : wr.cell? ⟨wo.heap.size, 23, none⟩ = some (.int .i64 (x 21)) := cell_at hb 23
        have q2 : wr.cell? ⟨wo.heap.size, 24, none⟩ = some (.int .i64 (x 22)) := cell_at hb 24
        have q3 : wr.cell? ⟨wo.heap.size, 25, none⟩ = some (.int .i64 (x 23)) := cell_at hb 25
        go_upto_region 10 with fail
        have hn1 := heap_new wr (.cells #[.int .i64 (x 20), .int .i64 (x 21), .int .i64 (x 22), .int .i64 (x 23)] 38)
        have hb1 := heap_keep hb (.cells #[.int .i64 (x 20), .int .i64 (x 21), .int .i64 (x 22), .int .i64 (x 23)] 38)
        have hl1 := heap_keep HL.out (.cells #[.int .i64 (x 20), .int .i64 (x 21), .int .i64 (x 22), .int .i64 (x 23)] 38)
        have ho1 := ho.keep ((Below.refl wr.heap.size wr).alloc (Nat.le_refl _) (.cells #[.int .i64 (x 20), .int .i64 (x 21), .int .i64 (x 22), .int .i64 (x 23)] 38))
        have hw1 := HBW.out.alloc (Nat.le_of_lt (heap_lt hb)) (.cells #[.int .i64 (x 20), .int .i64 (x 21), .int .i64 (x 22), .int .i64 (x 23)] 38)
        obtain ⟨C, hC⟩ : ∃ C, wr.heap.size = C := ⟨_, rfl⟩
        rw [hC] at hn1 ⊢
        obtain ⟨W1, hW1⟩ : ∃ W1, wr.alloc (.cells #[.int .i64 (x 20), .int .i64 (x 21), .int .i64 (x 22), .int .i64 (x 23)] 38) = W1 := ⟨_, rfl⟩
        rw [hW1] at hn1 hb1 hl1 ho1 hw1 ⊢
        have p0 : W1.cell? ⟨wo.heap.size, 6, none⟩ = some (.int .i64 (x 4)) := cell_at hb1 6
        have p1 : W1.cell? ⟨wo.heap.size, 7, none⟩ = some (.int .i64 (x 5)) := cell_at hb1 7
        have p2 : W1.cell? ⟨wo.heap.size, 10, none⟩ = some (.int .i64 (x 8)) := cell_at hb1 10
        have p3 : W1.cell? ⟨wo.heap.size, 13, none⟩ = some (.int .i64 (x 11)) := cell_at hb1 13
        have v0 : W1.cell? ⟨C, 0, none⟩ = some (.int .i64 (x 20)) := cell_at hn1 0
        have v1 : W1.cell? ⟨C, 1, none⟩ = some (.int .i64 (x 21)) := cell_at hn1 1
        have v2 : W1.cell? ⟨C, 2, none⟩ = some (.int .i64 (x 22)) := cell_at hn1 2
        have v3 : W1.cell? ⟨C, 3, none⟩ = some (.int .i64 (x 23)) := cell_at hn1 3
        have pa0 : (W1.alloc (.cells #[.int .i64 0, .int .i64 0, .int .i64 0, .int .i64 0, .int .i64 0, .int .i64 0, .int .i64 0, .int .i64 0] 71)).cell? ⟨wo.heap.size, 6, none⟩ = some (.int .i64 (x 4)) := cell_at (heap_keep hb1 _) 6
        have pa1 : (W1.alloc (.cells #[.int .i64 0, .int .i64 0, .int .i64 0, .int .i64 0, .int .i64 0, .int .i64 0, .int .i64 0, .int .i64 0] 71)).cell? ⟨wo.heap.size, 7, none⟩ = some (.int .i64 (x 5)) := cell_at (heap_keep hb1 _) 7
        have pa2 : (W1.alloc (.cells #[.int .i64 0, .int .i64 0, .int .i64 0, .int .i64 0, .int .i64 0, .int .i64 0, .int .i64 0, .int .i64 0] 71)).cell? ⟨wo.heap.size, 10, none⟩ = some (.int .i64 (x 8)) := cell_at (heap_keep hb1 _) 10
        have pa3 : (W1.alloc (.cells #[.int .i64 0, .int .i64 0, .int .i64 0, .int .i64 0, .int .i64 0, .int .i64 0, .int .i64 0, .int .i64 0] 71)).cell? ⟨wo.heap.size, 13, none⟩ = some (.int .i64 (x 11)) := cell_at (heap_keep hb1 _) 13
        have va0 : (W1.alloc (.cells #[.int .i64 0, .int .i64 0, .int .i64 0, .int .i64 0, .int .i64 0, .int .i64 0, .int .i64 0, .int .i64 0] 71)).cell? ⟨C, 0, none⟩ = some (.int .i64 (x 20)) := cell_at (heap_keep hn1 _) 0
        have va1 : (W1.alloc (.cells #[.int .i64 0, .int .i64 0, .int .i64 0, .int .i64 0, .int .i64 0, .int .i64 0, .int .i64 0, .int .i64 0] 71)).cell? ⟨C, 1, none⟩ = some (.int .i64 (x 21)) := cell_at (heap_keep hn1 _) 1
        have va2 : (W1.alloc (.cells #[.int .i64 0, .int .i64 0, .int .i64 0, .int .i64 0, .int .i64 0, .int .i64 0, .int .i64 0, .int .i64 0] 71)).cell? ⟨C, 2, none⟩ = some (.int .i64 (x 22)) := cell_at (heap_keep hn1 _) 2
        have va3 : (W1.alloc (.cells #[.int .i64 0, .int .i64 0, .int .i64 0, .int .i64 0, .int .i64 0, .int .i64 0, .int .i64 0, .int .i64 0] 71)).cell? ⟨C, 3, none⟩ = some (.int .i64 (x 23)) := cell_at (heap_keep hn1 _) 3
        have HB1 := hid1 hb1
        have HL1 := hid1 hl1
        have HO1 := hid1 ho1
        have HW1 := hid1 hw1
        have HC1 := hid1 hn1
        clear hb hn1 hb1 hl1 ho1 hw1 hC hW1 ho HB2 HL HBW q0 q1 q2 q3
        refine wp_region_held (S := fun w' => w'.heap[wo.heap.size]? = some (.cells (recRow a true x) 44 (0, 0)) ∧ w'.heap[C]? = some (.cells #[.int .i64 (x 20), .int .i64 (x 21), .int .i64 (x 22), .int .i64 (x 23)] 38 (0, 0))) (by kernel_rfl) ?_
        change wpAnyH _ _ _ _ _ 33 (Array.replicate 33 false) _ W1.drew
        have HS0 := hid1 (show W1.drew.heap[wo.heap.size]? = some (.cells (recRow a true x) 44 (0, 0)) ∧ W1.drew.heap[C]? = some (.cells #[.int .i64 (x 20), .int .i64 (x 21), .int .i64 (x 22), .int .i64 (x 23)] 38 (0, 0)) from ⟨HB1.out, HC1.out⟩)
        refine held_take (i := 0) rfl rfl (some 31) rfl (.int .i64 2) (by kernel_rfl) (by kernel_rfl) (by kernel_rfl) (fun _ _ _ _ h => h) HS0.out (fun w' hw => by go_simp) ?_
        simp only [Act.put, List.setIfInBounds_toArray, List.set_cons_succ, List.set_cons_zero]
        refine held_take (i := 1) rfl rfl (some 32) rfl (.pointer (some ⟨wo.heap.size, 2, none⟩)) (by kernel_rfl) (by kernel_rfl) (by kernel_rfl) (fun _ _ _ _ h => h) HS0.out (fun w' hw => by go_simp) ?_
        simp only [Act.put, List.setIfInBounds_toArray, List.set_cons_succ, List.set_cons_zero]
        refine held_take (i := 2) rfl rfl (some 33) rfl (.pointer (some ⟨wo.heap.size, 2, none⟩)) (by kernel_rfl) (by kernel_rfl) (by kernel_rfl) (fun _ _ _ _ h => h) HS0.out (fun w' hw => by go_simp) ?_
        simp only [Act.put, List.setIfInBounds_toArray, List.set_cons_succ, List.set_cons_zero]
        refine held_take (i := 3) rfl rfl (some 34) rfl (.pointer (some ⟨wo.heap.size, 6, none⟩)) (by kernel_rfl) (by kernel_rfl) (by kernel_rfl) (fun _ _ _ _ h => h) HS0.out (fun w' hw => by go_simp) ?_
        simp only [Act.put, List.setIfInBounds_toArray, List.set_cons_succ, List.set_cons_zero]
        refine held_take (i := 4) rfl rfl (some 35) rfl (.pointer (some ⟨wo.heap.size, 6, none⟩)) (by kernel_rfl) (by kernel_rfl) (by kernel_rfl) (fun _ _ _ _ h => h) HS0.out (fun w' hw => by go_simp) ?_
        simp only [Act.put, List.setIfInBounds_toArray, List.set_cons_succ, List.set_cons_zero]
        refine held_take (i := 5) rfl rfl (some 36) rfl (.int .i64 (x 4)) (by kernel_rfl) (by kernel_rfl) (by kernel_rfl) (fun _ _ _ _ h => h) HS0.out (fun w' hw => by have c : w'.cell? ⟨wo.heap.size, 6, none⟩ = some (.int .i64 (x 4)) := cell_at hw.1 6; go_simp) ?_
        simp only [Act.put, List.setIfInBounds_toArray, List.set_cons_succ, List.set_cons_zero]
        refine held_take (i := 6) rfl rfl (some 37) rfl (.int .i64 2) (by kernel_rfl) (by kernel_rfl) (by kernel_rfl) (fun _ _ _ _ h => h) HS0.out (fun w' hw => by go_simp) ?_
        simp only [Act.put, List.setIfInBounds_toArray, List.set_cons_succ, List.set_cons_zero]
        refine held_take (i := 7) rfl rfl (some 38) rfl (.pointer (some ⟨wo.heap.size, 2, none⟩)) (by kernel_rfl) (by kernel_rfl) (by kernel_rfl) (fun _ _ _ _ h => h) HS0.out (fun w' hw => by go_simp) ?_
        simp only [Act.put, List.setIfInBounds_toArray, List.set_cons_succ, List.set_cons_zero]
        refine held_take (i := 8) rfl rfl (some 39) rfl (.pointer (some ⟨wo.heap.size, 2, none⟩)) (by kernel_rfl) (by kernel_rfl) (by kernel_rfl) (fun _ _ _ _ h => h) HS0.out (fun w' hw => by go_simp) ?_
        simp only [Act.put, List.setIfInBounds_toArray, List.set_cons_succ, List.set_cons_zero]
        refine held_take (i := 9) rfl rfl (some 40) rfl (.pointer (some ⟨wo.heap.size, 6, none⟩)) (by kernel_rfl) (by kernel_rfl) (by kernel_rfl) (fun _ _ _ _ h => h) HS0.out (fun w' hw => by go_simp) ?_
        simp only [Act.put, List.setIfInBounds_toArray, List.set_cons_succ, List.set_cons_zero]
        refine held_take (i := 10) rfl rfl (some 41) rfl (.pointer (some ⟨wo.heap.size, 7, none⟩)) (by kernel_rfl) (by kernel_rfl) (by kernel_rfl) (fun _ _ _ _ h => h) HS0.out (fun w' hw => by go_simp) ?_
        simp only [Act.put, List.setIfInBounds_toArray, List.set_cons_succ, List.set_cons_zero]
        refine held_take (i := 11) rfl rfl (some 42) rfl (.int .i64 (x 5)) (by kernel_rfl) (by kernel_rfl) (by kernel_rfl) (fun _ _ _ _ h => h) HS0.out (fun w' hw => by have c : w'.cell? ⟨wo.heap.size, 7, none⟩ = some (.int .i64 (x 5)) := cell_at hw.1 7; go_simp) ?_
        simp only [Act.put, List.setIfInBounds_toArray, List.set_cons_succ, List.set_cons_zero]
        refine held_take (i := 12) rfl rfl (some 43) rfl (.int .i64 2) (by kernel_rfl) (by kernel_rfl) (by kernel_rfl) (fun _ _ _ _ h => h) HS0.out (fun w' hw => by go_simp) ?_
        simp only [Act.put, List.setIfInBounds_toArray, List.set_cons_succ, List.set_cons_zero]
        refine held_take (i := 13) rfl rfl (some 44) rfl (.pointer (some ⟨wo.heap.size, 2, none⟩)) (by kernel_rfl) (by kernel_rfl) (by kernel_rfl) (fun _ _ _ _ h => h) HS0.out (fun w' hw => by go_simp) ?_
        simp only [Act.put, List.setIfInBounds_toArray, List.set_cons_succ, List.set_cons_zero]
        refine held_take (i := 14) rfl rfl (some 45) rfl (.pointer (some ⟨wo.heap.size, 8, none⟩)) (by kernel_rfl) (by kernel_rfl) (by kernel_rfl) (fun _ _ _ _ h => h) HS0.out (fun w' hw => by go_simp) ?_
        simp only [Act.put, List.setIfInBounds_toArray, List.set_cons_succ, List.set_cons_zero]
        refine held_take (i := 15) rfl rfl (some 46) rfl (.pointer (some ⟨wo.heap.size, 10, none⟩)) (by kernel_rfl) (by kernel_rfl) (by kernel_rfl) (fun _ _ _ _ h => h) HS0.out (fun w' hw => by go_simp) ?_
        simp only [Act.put, List.setIfInBounds_toArray, List.set_cons_succ, List.set_cons_zero]
        refine held_take (i := 16) rfl rfl (some 47) rfl (.int .i64 (x 8)) (by kernel_rfl) (by kernel_rfl) (by kernel_rfl) (fun _ _ _ _ h => h) HS0.out (fun w' hw => by have c : w'.cell? ⟨wo.heap.size, 10, none⟩ = some (.int .i64 (x 8)) := cell_at hw.1 10; go_simp) ?_
        simp only [Act.put, List.setIfInBounds_toArray, List.set_cons_succ, List.set_cons_zero]
        refine held_take (i := 17) rfl rfl (some 48) rfl (.int .i64 2) (by kernel_rfl) (by kernel_rfl) (by kernel_rfl) (fun _ _ _ _ h => h) HS0.out (fun w' hw => by go_simp) ?_
        simp only [Act.put, List.setIfInBounds_toArray, List.set_cons_succ, List.set_cons_zero]
        refine held_take (i := 18) rfl rfl (some 49) rfl (.pointer (some ⟨wo.heap.size, 2, none⟩)) (by kernel_rfl) (by kernel_rfl) (by kernel_rfl) (fun _ _ _ _ h => h) HS0.out (fun w' hw => by go_simp) ?_
        simp only [Act.put, List.setIfInBounds_toArray, List.set_cons_succ, List.set_cons_zero]
        refine held_take (i := 19) rfl rfl (some 50) rfl (.pointer (some ⟨wo.heap.size, 11, none⟩)) (by kernel_rfl) (by kernel_rfl) (by kernel_rfl) (fun _ _ _ _ h => h) HS0.out (fun w' hw => by go_simp) ?_
        simp only [Act.put, List.setIfInBounds_toArray, List.set_cons_succ, List.set_cons_zero]
        refine held_take (i := 20) rfl rfl (some 51) rfl (.pointer (some ⟨wo.heap.size, 13, none⟩)) (by kernel_rfl) (by kernel_rfl) (by kernel_rfl) (fun _ _ _ _ h => h) HS0.out (fun w' hw => by go_simp) ?_
        simp only [Act.put, List.setIfInBounds_toArray, List.set_cons_succ, List.set_cons_zero]
        refine held_take (i := 21) rfl rfl (some 52) rfl (.int .i64 (x 11)) (by kernel_rfl) (by kernel_rfl) (by kernel_rfl) (fun _ _ _ _ h => h) HS0.out (fun w' hw => by have c : w'.cell? ⟨wo.heap.size, 13, none⟩ = some (.int .i64 (x 11)) := cell_at hw.1 13; go_simp) ?_
        simp only [Act.put, List.setIfInBounds_toArray, List.set_cons_succ, List.set_cons_zero]
        refine held_take (i := 22) rfl rfl (some 53) rfl (.pointer (some ⟨C, 0, none⟩)) (by kernel_rfl) (by kernel_rfl) (by kernel_rfl) (fun _ _ _ _ h => h) HS0.out (fun w' hw => by go_simp) ?_
        simp only [Act.put, List.setIfInBounds_toArray, List.set_cons_succ, List.set_cons_zero]
        refine held_take (i := 23) rfl rfl (some 54) rfl (.int .i64 (x 20)) (by kernel_rfl) (by kernel_rfl) (by kernel_rfl) (fun _ _ _ _ h => h) HS0.out (fun w' hw => by have c : w'.cell? ⟨C, 0, none⟩ = some (.int .i64 (x 20)) := cell_at hw.2 0; go_simp) ?_
        simp only [Act.put, List.setIfInBounds_toArray, List.set_cons_succ, List.set_cons_zero]
        refine held_take (i := 24) rfl rfl (some 55) rfl (.pointer (some ⟨C, 1, none⟩)) (by kernel_rfl) (by kernel_rfl) (by kernel_rfl) (fun _ _ _ _ h => h) HS0.out (fun w' hw => by go_simp) ?_
        simp only [Act.put, List.setIfInBounds_toArray, List.set_cons_succ, List.set_cons_zero]
        refine held_take (i := 25) rfl rfl (some 56) rfl (.int .i64 (x 21)) (by kernel_rfl) (by kernel_rfl) (by kernel_rfl) (fun _ _ _ _ h => h) HS0.out (fun w' hw => by have c : w'.cell? ⟨C, 1, none⟩ = some (.int .i64 (x 21)) := cell_at hw.2 1; go_simp) ?_
        simp only [Act.put, List.setIfInBounds_toArray, List.set_cons_succ, List.set_cons_zero]
        refine held_take (i := 26) rfl rfl (some 57) rfl (.pointer (some ⟨C, 2, none⟩)) (by kernel_rfl) (by kernel_rfl) (by kernel_rfl) (fun _ _ _ _ h => h) HS0.out (fun w' hw => by go_simp) ?_
        simp only [Act.put, List.setIfInBounds_toArray, List.set_cons_succ, List.set_cons_zero]
        refine held_take (i := 27) rfl rfl (some 58) rfl (.int .i64 (x 22)) (by kernel_rfl) (by kernel_rfl) (by kernel_rfl) (fun _ _ _ _ h => h) HS0.out (fun w' hw => by have c : w'.cell? ⟨C, 2, none⟩ = some (.int .i64 (x 22)) := cell_at hw.2 2; go_simp) ?_
        simp only [Act.put, List.setIfInBounds_toArray, List.set_cons_succ, List.set_cons_zero]
        refine held_take (i := 28) rfl rfl (some 59) rfl (.pointer (some ⟨C, 3, none⟩)) (by kernel_rfl) (by kernel_rfl) (by kernel_rfl) (fun _ _ _ _ h => h) HS0.out (fun w' hw => by go_simp) ?_
        simp only [Act.put, List.setIfInBounds_toArray, List.set_cons_succ, List.set_cons_zero]
        refine held_take (i := 29) rfl rfl (some 60) rfl (.int .i64 (x 23)) (by kernel_rfl) (by kernel_rfl) (by kernel_rfl) (fun _ _ _ _ h => h) HS0.out (fun w' hw => by have c : w'.cell? ⟨C, 3, none⟩ = some (.int .i64 (x 23)) := cell_at hw.2 3; go_simp) ?_
        simp only [Act.put, List.setIfInBounds_toArray, List.set_cons_succ, List.set_cons_zero]
        refine held_take (i := 30) rfl rfl (some 61) rfl (.agg #[.int .i64 (x 4), .int .i64 (x 5), .int .i64 (x 8), .int .i64 (x 11), .int .i64 (x 20), .int .i64 (x 21), .int .i64 (x 22), .int .i64 (x 23)]) (by kernel_rfl) (by kernel_rfl) (by kernel_rfl) (fun _ _ _ _ h => h) HS0.out (fun w' hw => by go_simp) ?_
        simp only [Act.put, List.setIfInBounds_toArray, List.set_cons_succ, List.set_cons_zero]
        have HS1 := hid1 (show (W1.drew.alloc (.cells #[.int .i64 0, .int .i64 0, .int .i64 0, .int .i64 0, .int .i64 0, .int .i64 0, .int .i64 0, .int .i64 0] 71)).heap[wo.heap.size]? = some (.cells (recRow a true x) 44 (0, 0)) ∧ (W1.drew.alloc (.cells #[.int .i64 0, .int .i64 0, .int .i64 0, .int .i64 0, .int .i64 0, .int .i64 0, .int .i64 0, .int .i64 0] 71)).heap[C]? = some (.cells #[.int .i64 (x 20), .int .i64 (x 21), .int .i64 (x 22), .int .i64 (x 23)] 38 (0, 0)) from ⟨heap_keep HS0.out.1 _, heap_keep HS0.out.2 _⟩)
        refine held_val (i := 31) rfl rfl (some 8) rfl (by kernel_rfl) (.pointer (some ⟨W1.drew.heap.size, 0, none⟩)) (W1.drew.alloc (.cells #[.int .i64 0, .int .i64 0, .int .i64 0, .int .i64 0, .int .i64 0, .int .i64 0, .int .i64 0, .int .i64 0] 71)) (by go_simp) HS1.out ?_
        simp only [Act.put, List.setIfInBounds_toArray, List.set_cons_succ, List.set_cons_zero]
        have hbz : wo.heap.size < W1.drew.heap.size := heap_lt HS0.out.1
        have hcz : C < W1.drew.heap.size := heap_lt HS0.out.2
        have hfz := fr_row (W1.drew.alloc (.cells #[.int .i64 0, .int .i64 0, .int .i64 0, .int .i64 0, .int .i64 0, .int .i64 0, .int .i64 0, .int .i64 0] 71)) W1.drew.heap.size (row8 (num x 2))
        have HS2 := hid1 (And.intro (hfz.heap HS1.out.1 (fun hm => by have := List.mem_singleton.1 hm; omega)) (hfz.heap HS1.out.2 (fun hm => by have := List.mem_singleton.1 hm; omega)))
        have HNZ := hid1 (setRow_heap _ _ _ (row8 (num x 2)) _ _ (heap_new W1.drew (.cells #[.int .i64 0, .int .i64 0, .int .i64 0, .int .i64 0, .int .i64 0, .int .i64 0, .int .i64 0, .int .i64 0] 71)))
        have hlz : L < W1.drew.heap.size := heap_lt (HL1.out : W1.drew.heap[L]? = _)
        have HLZ := hid1 (hfz.heap (heap_keep (HL1.out : W1.drew.heap[L]? = _) (.cells #[.int .i64 0, .int .i64 0, .int .i64 0, .int .i64 0, .int .i64 0, .int .i64 0, .int .i64 0, .int .i64 0] 71)) (fun hm => by have := List.mem_singleton.1 hm; omega))
        have hxz : Below W1.heap.size W1 ((W1.drew.alloc (.cells #[.int .i64 0, .int .i64 0, .int .i64 0, .int .i64 0, .int .i64 0, .int .i64 0, .int .i64 0, .int .i64 0] 71)).setRow W1.drew.heap.size (row8 (num x 2))) := Fr.below ((below_draws _ W1 1).alloc (Nat.le_refl _) (.cells #[.int .i64 0, .int .i64 0, .int .i64 0, .int .i64 0, .int .i64 0, .int .i64 0, .int .i64 0, .int .i64 0] 71)) hfz (fun k hk => by have := List.mem_singleton.1 hk; subst this; exact Nat.le_refl _) (by show W1.heap.size ≤ _; rw [World.size_alloc]; exact Nat.le_succ _)
        refine held_store_row (i := 32) rfl rfl none rfl 71 (.tmp 8) (.tmp 61) rfl (by kernel_rfl) W1.drew.heap.size (row8 (num x 2)) rfl rfl _ _ (heap_new W1.drew (.cells #[.int .i64 0, .int .i64 0, .int .i64 0, .int .i64 0, .int .i64 0, .int .i64 0, .int .i64 0, .int .i64 0] 71)) (Try.infoRow8 _) rfl (row8_one _) HS2.out ?_
        simp only [Act.put, List.setIfInBounds_toArray, List.set_cons_succ, List.set_cons_zero]
        refine wpAnyH_done (by kernel_rfl) ?_ _
        obtain ⟨Wz, hWz⟩ : ∃ Wz, (W1.drew.alloc (.cells #[.int .i64 0, .int .i64 0, .int .i64 0, .int .i64 0, .int .i64 0, .int .i64 0, .int .i64 0, .int .i64 0] 71)).setRow W1.drew.heap.size (row8 (num x 2)) = Wz := ⟨_, rfl⟩
        rw [hWz] at HS2 HNZ HLZ hxz ⊢
        obtain ⟨Nb, hNb⟩ : ∃ Nb, W1.drew.heap.size = Nb := ⟨_, rfl⟩
        rw [hNb] at HNZ ⊢
        have HN1 := HNZ
        have HB2 := hid1 HS2.out.1
        have HL2 := HLZ
        have HO2 := hid1 (HO1.out.keep hxz)
        have HW2 := hid1 (HW1.out.trans (hxz.mono (Nat.le_of_lt (heap_lt HB1.out))))
        clear hbz hcz hfz hlz hxz hWz hNb HS0 HS1 HS2 HB1 HL1 HO1 HW1 HC1
        go_wp2
        have zc : ((2 : Nat) : Int) = 2 := rfl
        rw [zc]
        clear zc
        go_loopw [4, 62] (fun v k wr => ∃ (k' : Nat), k' ≤ 8 ∧ k = .int .i64 k' ∧ OwnB wr wo.heap.size v (b1 ++ cornerBytes x 2 k') ∧ Hid (wr.heap[wo.heap.size]? = some (.cells (recRow a true x) 44 (0, 0))) ∧ Hid (wr.heap[L]? = some (.cells (row8 (last x 2)) 71 (0, 0))) ∧ Hid (wr.heap[Nb]? = some (.cells (row8 (num x 2)) 71 (0, 0))) ∧ Hid (Below wo.heap.size wo wr)) (fun _ k _ => 8 - (intOf k).toNat)
        case atStart => exact ⟨0, by omega, rfl, by rw [show b1 ++ cornerBytes x 2 0 = b1 by simp [cornerBytes]]; exact HO2.out, HB2, HL2, HN1, HW2⟩
        case round =>
          clear HO2 HB2 HL2 HN1 HW2
          obtain ⟨k, hk, rfl, ho, HB2, HL, HN, HBW⟩ := hrel
          by_cases hk8 : k < 8
          · have c0 : wr.cell? ⟨Nb, k, none⟩ = some (.int .i64 (num x 2 k)) := by rw [cell_at HN.out, row8_get _ hk8]
            have c1 : wr.cell? ⟨L, k, none⟩ = some (.int .i64 (last x 2 k)) := by rw [cell_at HL.out, row8_get _ hk8]
            have nb := num_bd HX.out (show 2 < 3 by omega) hk8
            have lb := last_bd HX.out (show 2 < 3 by omega) hk8
            have HD := hid1 (show b1 ++ cornerBytes x 2 (k + 1) = b1 ++ cornerBytes x 2 k ++ encN (zig (num x 2 k - last x 2 k)) by rw [cornerBytes_succ, List.append_assoc]; rfl)
            have HLL := hid1 (show (b1 ++ cornerBytes x 2 k).length ≤ 1000 by rw [List.length_append]; have := corner_len HX.out (show 2 < 3 by omega) k hk; have := HTL.out; omega)
            obtain ⟨p, hp⟩ : ∃ p, num x 2 k = p := ⟨_, rfl⟩
            obtain ⟨q, hq⟩ : ∃ q, last x 2 k = q := ⟨_, rfl⟩
            rw [hp] at c0 nb HD
            rw [hq] at c1 lb HD
            have n1 : IntKind.i64.wrap (p - q) = p - q := IntWalk.i64_in _ (by omega)
            have HE := hid1 (show (encN (zig (p - q))).length ≤ 3 from enc3 (by unfold zig; split <;> omega))
            have HINT := hid1 (fun w : World => refint_calls (p - q) (by omega) w)
            have HO := hid1 ho
            have hk9 : ((k : Nat) : Int) < 8 := by omega
            clear hp hq ho nb lb
            go_wp2
            go_region_law (first
              | (refine step_app_bytes rfl (.tmp 65) (.tmp 73) rfl rfl HO3.out rfl HY3.out (by have := HLL.out; have := HE.out; omega) HS3.out ?_; intro v1 w1 ho1 hg1)
              | (go_simp; go_at_call 29; refine (HINT.out _).mono ?_; rintro e w3 ⟨v2, rfl, hv2, hb2⟩; obtain ⟨ay, cy, rfl, hy⟩ := hv2.bytes; have hb3 : Below wr.heap.size wr w3 := (below_draws _ wr 1).trans hb2; have HY3 := hid1 hy; have HO3 := hid1 (HO.out.keep hb3); have HB3 := hid1 ((Fr.ofBelow hb3).heap HB2.out (by simp)); have HL3 := hid1 ((Fr.ofBelow hb3).heap HL.out (by simp)); have HN3 := hid1 ((Fr.ofBelow hb3).heap HN.out (by simp)); have HW3 := hid1 (HBW.out.trans (hb3.mono (Nat.le_of_lt (heap_lt HB2.out)))); have HS3 := hid1 (show wo.heap.size ≤ w3.heap.size from Nat.le_trans (Nat.le_of_lt (heap_lt HB2.out)) hb3.size); clear hv2 hb2 hb3 hy))
            all_goals
              go_wp2
              go_roundw
              case rel => exact ⟨k + 1, by omega, by go_num, by rw [HD.out]; exact ho1, hid1 ((fr_own hg1).heap HB3.out (own_ne HO3.out HB3.out (by decide))), hid1 ((fr_own hg1).heap HL3.out (own_ne HO3.out HL3.out (by decide))), hid1 ((fr_own hg1).heap HN3.out (own_ne HO3.out HN3.out (by decide))), hid1 (HO3.out.below HW3.out hg1 (Nat.le_refl _) HS3.out)⟩
              case measure => simp [intOf]; omega
          · obtain rfl : k = 8 := by omega
            have hk9 : ¬ (((8 : Nat) : Int) < 8) := by omega
            have HO := hid1 ho
            clear ho
            go_wp2_with (first
              | (with_reducible refine wpList_load_row rfl 71 (.tmp 8) rfl Nb rfl _ _ _ _ HN.out Try.underlying71 rfl (Try.infoRow8 _) ?_)
              | (with_reducible refine wpList_store_row rfl 71 (.tmp 5) (.tmp 76) rfl L (row8 (num x 2)) rfl rfl _ _ HL.out (Try.infoRow8 _) rfl (row8_one _) ?_))
            go_roundw
            case rel =>
              have hfr := fr_row wr L (row8 (num x 2))
              have hne := own_ne HO.out HL.out (by decide)
              have hbl : L ≠ wo.heap.size := HLB.out
              exact ⟨2 + 1, by omega, by go_num, by rw [HNEW.out]; exact own_fr HO.out hfr (fun g hg hm => by have := List.mem_singleton.1 hm; subst this; exact hne (by simp [hg])), hid1 (hfr.heap HB2.out (fun hm => hbl (List.mem_singleton.1 hm).symm)), hid1 (by rw [show row8 (last x (2 + 1)) = row8 (num x 2) by unfold row8; simp [last]]; exact setRow_heap _ _ _ _ _ _ HL.out), hid1 (Fr.below HBW.out hfr (fun k hk => by have := List.mem_singleton.1 hk; subst this; exact HLW.out) (Nat.le_of_lt (heap_lt HB2.out)))⟩
            case measure => simp [intOf]
    · obtain rfl : i = 3 := by omega
      go_wp2
      go_ret
      exact ⟨_, rfl, by rw [HREC.out]; exact ho, HBW.out⟩
end Go.Proofs.Ytmholpploaecgaa
