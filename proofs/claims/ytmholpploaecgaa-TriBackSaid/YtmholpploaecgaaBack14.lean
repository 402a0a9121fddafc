/-
  TriBack: the law's walk.
-/
import Derived.Test.YtmholpploaecgaaBackP
import Derived.Deep.CutRange
import Derived.Deep.CutBlock
import Derived.Outline
namespace Go.Proofs.Ytmholpploaecgaa
open Go.RowKit
set_option linter.unusedVariables false
set_option linter.unusedSimpArgs false

section
variable {w w' : World} {Y b1 o1 b2 o2 : Nat} {cs : Array Value} {T : TypeId} {fz : Nat × Nat} {u v : Value}
theorem on_keep (h : w.heap[Y]? = some (.cells cs T fz) ∧ w.cell? ⟨b1, o1, none⟩ = some u ∧ w.cell? ⟨b2, o2, none⟩ = some v) (hb : Below w.heap.size w w') : w'.heap[Y]? = some (.cells cs T fz) ∧ w'.cell? ⟨b1, o1, none⟩ = some u ∧ w'.cell? ⟨b2, o2, none⟩ = some v :=
  ⟨(Fr.ofBelow hb).heap h.1 (by simp), by rw [hb.cell (p := ⟨b1, o1, none⟩) (World.block_lt_of_cell? w (a := ⟨b1, o1, none⟩) h.2.1)]; exact h.2.1, by rw [hb.cell (p := ⟨b2, o2, none⟩) (World.block_lt_of_cell? w (a := ⟨b2, o2, none⟩) h.2.2)]; exact h.2.2⟩
theorem cell_fr {S : List Nat} (h : w.cell? ⟨b1, o1, none⟩ = some u) (hf : Fr S w w') (hn : b1 ∉ S) : w'.cell? ⟨b1, o1, none⟩ = some u := by
  have hl : b1 < w.heap.size := World.block_lt_of_cell? w (a := ⟨b1, o1, none⟩) h
  unfold World.cell? at *
  rw [hf.block b1 hl hn]; exact h
theorem on_fr {S : List Nat} (h : w.heap[Y]? = some (.cells cs T fz) ∧ w.cell? ⟨b1, o1, none⟩ = some u ∧ w.cell? ⟨b2, o2, none⟩ = some v) (hf : Fr S w w') (h0 : Y ∉ S) (h1 : b1 ∉ S) (h2 : b2 ∉ S) : w'.heap[Y]? = some (.cells cs T fz) ∧ w'.cell? ⟨b1, o1, none⟩ = some u ∧ w'.cell? ⟨b2, o2, none⟩ = some v :=
  ⟨hf.heap h.1 h0, cell_fr h.2.1 hf h1, cell_fr h.2.2 hf h2⟩
theorem heap_lt3 (h : w.heap[Y]? = some (.cells cs T fz) ∧ w.cell? ⟨b1, o1, none⟩ = some u ∧ w.cell? ⟨b2, o2, none⟩ = some v) : Y < w.heap.size ∧ b1 < w.heap.size ∧ b2 < w.heap.size :=
  ⟨heap_lt h.1, World.block_lt_of_cell? w (a := ⟨b1, o1, none⟩) h.2.1, World.block_lt_of_cell? w (a := ⟨b2, o2, none⟩) h.2.2⟩
end
theorem own_mem {v : Value} {k : Nat} (hk : k ∈ v.ownBlock.toList) : v.ownBlock = some k := by
  cases hv : v.ownBlock with
  | none => rw [hv] at hk; simp at hk
  | some x => rw [hv] at hk; simp at hk; subst hk; rfl
/-- What stands ahead of a round. -/
def Round (w wr : World) (G n : Nat) (vl vw : Value) (k : Nat) : Prop := ∃ S rs, rs.length = k ∧ k ≤ n ∧ (∀ r ∈ rs, RecT.ok r) ∧ Three w wr w.heap.size G S vl vw rs (flatR rs) (flatR rs)

set_option maxRecDepth 10000 in
set_option maxHeartbeats 4000000 in
theorem triback_walk {w : World} {a0 : Option Addr} {n0 c0 : Nat} {L : List SmallR} (hs : Smalls w a0 n0 c0 L) {a1 : Option Addr} {n1 c1 : Nat} {ds : List UInt8} (hd : Bytes w a1 n1 c1 ds) {a2 : Option Addr} {n2 c2 : Nat} {bl : List Bool} (hb : Bools w a2 n2 c2 bl) :
    Calls Try.prog 4 #[.slice a0 n0 c0, .slice a1 n1 c1, .slice a2 n2 c2] w fun e w' => e = .returned (.bool true) ∧ Below w.heap.size w w' := by
  have HS := hid1 hs
  have HD := hid1 hd
  have HB := hid1 hb
  clear hs hd hb
  go_enter Try.func4, Try.ntmps4
  by_cases hl : (n0 : Int) > 20
  · go_wp2_with (go_at_call 7; refine (awake14 _).mono ?_; rintro e w1 ⟨rfl, hb1⟩; have HB1 := hid1 hb1; clear hb1)
    go_ret
    exact ⟨rfl, HB1.out⟩
  · have HN := hid1 (show n0 ≤ 20 by omega)
    go_upto_block 0 with (go_at_call 7; refine (awake14 _).mono ?_; rintro e w1 ⟨rfl, hb1⟩; have HB1 := hid1 hb1; clear hb1)
    have h3 : Three w (w1.alloc (.cells #[.slice none 0 0] 51)) w.heap.size w1.heap.size [w1.heap.size] (.slice none 0 0) (.slice none 0 0) [] [] [] :=
      ⟨Wr.new w1 _, OwnL.nil _ _, OwnB.nil _ _, (fun x hx => by cases hx), (fun x hx => by cases hx), (fun x hx => by cases hx), (fun k hk => by rw [List.mem_singleton.1 hk]; exact HB1.out.size), HB1.out.alloc HB1.out.size _, Nat.le_trans HB1.out.size (by simp)⟩
    obtain ⟨G, hG⟩ : ∃ G, w1.heap.size = G := ⟨_, rfl⟩
    rw [hG] at h3 ⊢
    obtain ⟨W1, hW1⟩ : ∃ W1, w1.alloc (.cells #[.slice none 0 0] 51) = W1 := ⟨_, rfl⟩
    rw [hW1] at h3 ⊢
    have H3 := hid1 h3
    clear h3 hG hW1 hl
    go_cut [8, 9] from 24 to 74 (fun vl vw wx => ∃ k, Round w wx G 20 vl vw k)
    case first =>
      go_wp2
      go_loopw [8, 9, 26] (fun vl vw i wr => ∃ k : Nat, k ≤ n0 ∧ i = .int .i64 (k : Int) ∧ Round w wr G 20 vl vw k) (fun _ _ i _ => n0 - (intOf i).toNat)
      case atStart => exact ⟨0, Nat.zero_le _, rfl, [G], [], rfl, by omega, (fun r h => by cases h), H3.out⟩
      case round =>
        obtain ⟨k, hk, rfl, S, rs, hrk, hk20, hok, ht⟩ := hrel
        obtain ⟨wo, rfl⟩ : ∃ wo : World, wo = wr := ⟨_, rfl⟩
        have HRK := hid1 hrk
        have HOK := hid1 hok
        have HT := hid1 ht
        clear hrk hk20 hok ht
        by_cases hlt : k < n0
        · obtain ⟨b0, o0, rfl, hcells⟩ := Sl.rec_at small_sz (by decide) (HS.out.keep HT.out.below).2.1 k (by rw [HS.out.1]; exact hlt)
          obtain ⟨x0, hx0⟩ : ∃ x0, L[k]'(by rw [HS.out.1]; exact hlt) = x0 := ⟨_, rfl⟩
          rw [hx0] at hcells
          have HXG := hid1 (show x0.good from hx0 ▸ HS.out.2.2 _ (List.getElem_mem _))
          have HRG := hid1 (show wo.rangeAt b0 (o0 + k * 25) (smRow x0.p).toList from fun j v hj => by
            have hj25 : j < 25 := by
              rcases Nat.lt_or_ge j 25 with h | h
              · exact h
              · rw [List.getElem?_eq_none (by exact h)] at hj; cases hj
            rw [Nat.add_assoc, hcells j hj25]; exact hj)
          clear hcells hx0
          go_upto_region 11 with (first
            | (refine wpList_load_mid rfl 31 (.tmp 29) rfl b0 (o0 + k * 25) rfl (smRow x0.p).toList _ HRG.out Try.underlying31 rfl (Try.infoSm x0.p) ?_)
            | (refine wpList_store_row (w := wo.alloc (.cells (smRow (fun _ => 0)) 31)) rfl 31 (.tmp 11) (.tmp 30) rfl wo.heap.size (smRow x0.p) rfl rfl 31 _ (heap_new wo (.cells (smRow (fun _ => 0)) 31)) (Try.infoSm _) rfl (smRow_one _) ?_))
          have hbv := Fr.below ((Below.refl wo.heap.size wo).alloc (Nat.le_refl _) (.cells (smRow (fun _ => 0)) 31)) (fr_row (wo.alloc (.cells (smRow (fun _ => 0)) 31)) wo.heap.size (smRow x0.p)) (fun k hk => by rw [List.mem_singleton.1 hk]; exact Nat.le_refl _) (by simp)
          have hyv := setRow_heap _ _ _ (smRow x0.p) _ _ (heap_new wo (.cells (smRow (fun _ => 0)) 31))
          obtain ⟨Y, hY⟩ : ∃ Y, wo.heap.size = Y := ⟨_, rfl⟩
          obtain ⟨V1, hV1⟩ : ∃ V1, (wo.alloc (.cells (smRow (fun _ => 0)) 31)).setRow wo.heap.size (smRow x0.p) = V1 := ⟨_, rfl⟩
          rw [hV1] at hbv hyv ⊢
          rw [hY] at hyv ⊢
          have HT1 := hid1 (HT.out.keep hbv)
          have HY1 := hid1 hyv
          clear hbv hyv hY hV1 HRG
          rcases (show n1 ≤ k ∨ (k < n1 ∧ n2 ≤ k) ∨ (k < n1 ∧ k < n2) by omega) with hw | hw | hw
          · have e1 : decide (n1 ≤ k) = true := by simpa using hw
            clear hw
            go_wp2
            go_meet
            case rel => exact ⟨k, S, rs, HRK.out, by have := HN.out; omega, HOK.out, HT1.out⟩
          · have e1 : decide (n1 ≤ k) = false := by simp; omega
            have e2 : decide (n2 ≤ k) = true := by simp; omega
            clear hw
            go_wp2
            go_meet
            case rel => exact ⟨k, S, rs, HRK.out, by have := HN.out; omega, HOK.out, HT1.out⟩
          · have e1 : decide (n1 ≤ k) = false := by simp; omega
            have e2 : decide (n2 ≤ k) = false := by simp; omega
            obtain ⟨b1, o1, rfl, hc1⟩ := Bytes.at (HD.out.keep HT1.out.below) k (by rw [HD.out.len]; exact hw.1)
            obtain ⟨b2, o2, rfl, hc2⟩ := Sl.at (Sl.keep HB.out HT1.out.below) k (by rw [Sl.len HB.out]; omega)
            obtain ⟨dy, hdy⟩ : ∃ dy, ds[k]'(by rw [HD.out.len]; exact hw.1) = dy := ⟨_, rfl⟩
            rw [hdy] at hc1
            obtain ⟨by0, hby⟩ : ∃ by0 : Bool, (bl.map Value.bool)[k]'(by rw [Sl.len HB.out]; omega) = .bool by0 := ⟨_, by rw [List.getElem_map]⟩
            rw [hby] at hc2
            have hw1 : (k : Int) < (n1 : Int) := by omega
            have hw2 : (k : Int) < (n2 : Int) := by omega
            obtain ⟨rr, hrr⟩ : ∃ rr, (dy.toNat : Int) % 32 = rr := ⟨_, rfl⟩
            have HREC := hid1 (fun w => record_calls HXG.out (d := (dy.toNat : Int)) ⟨by omega, by have := dy.toNat_lt; omega⟩ by0 w)
            rw [hrr] at HREC
            have HC1 := hid1 hc1
            have HC2 := hid1 hc2
            have HB12 := hid1 (show b1 < V1.heap.size ∧ b2 < V1.heap.size from ⟨World.block_lt_of_cell? V1 (a := ⟨b1, o1 + k, none⟩) hc1, World.block_lt_of_cell? V1 (a := ⟨b2, o2 + k, none⟩) hc2⟩)
            clear hc1 hc2 hdy hby hrr hw
            go_upto_region 12 with fail
            go_cut [12] from 41 to 50 (fun v wx => ∃ X sm x, v = .pointer (some ⟨X, 0, none⟩) ∧ wx.heap[X]? = some (.cells (recRow rr sm x) 44 (0, 0)) ∧ chkRec rr sm x = 0 ∧ (sm = true → ∀ n, n < 24 → smN n (x n)) ∧ V1.heap.size ≤ X ∧ Below V1.heap.size V1 wx)
            case first =>
              have HS0 := hid1 (show V1.drew.heap[Y]? = some (.cells (smRow x0.p) 31 (0, 0)) ∧ V1.drew.cell? ⟨b1, o1 + k, none⟩ = some (.int .u8 (dy.toNat : Int)) ∧ V1.drew.cell? ⟨b2, o2 + k, none⟩ = some (.bool by0) from ⟨HY1.out, HC1.out, HC2.out⟩)
              refine wp_region_held (S := fun w' => w'.heap[Y]? = some (.cells (smRow x0.p) 31 (0, 0)) ∧ w'.cell? ⟨b1, o1 + k, none⟩ = some (.int .u8 (dy.toNat : Int)) ∧ w'.cell? ⟨b2, o2 + k, none⟩ = some (.bool by0)) (by kernel_rfl) ?_
              change wpAnyH _ _ _ _ _ 12 (Array.replicate 12 false) _ V1.drew
              refine held_loadG (i := 0) rfl (by kernel_rfl) (some 41) rfl 31 (.tmp 11) rfl (by kernel_rfl) (by kernel_rfl) (by kernel_rfl) (fun _ _ _ _ h => h) (Y) rfl 31 (smRow x0.p) (0, 0) _ (fun _ h => h.1) Try.underlying31 rfl (Try.infoSm _) HS0.out ?_
              simp only [Act.put, List.setIfInBounds_toArray, List.set_cons_succ, List.set_cons_zero]
              refine held_takeG (i := 1) rfl (by kernel_rfl) (some 42) rfl (.slice (some ⟨b1, o1, none⟩) n1 c1) (by kernel_rfl) (by kernel_rfl) (by kernel_rfl) (fun _ _ _ _ h => h) HS0.out (fun w' hw => by go_simp) ?_
              simp only [Act.put, List.setIfInBounds_toArray, List.set_cons_succ, List.set_cons_zero]
              refine held_takeG (i := 2) rfl (by kernel_rfl) (some 43) rfl (.int .i64 (k : Int)) (by kernel_rfl) (by kernel_rfl) (by kernel_rfl) (fun _ _ _ _ h => h) HS0.out (fun w' hw => by go_simp) ?_
              simp only [Act.put, List.setIfInBounds_toArray, List.set_cons_succ, List.set_cons_zero]
              refine held_takeG (i := 3) rfl (by kernel_rfl) (some 44) rfl (.pointer (some ⟨b1, o1 + k, none⟩)) (by kernel_rfl) (by kernel_rfl) (by kernel_rfl) (fun _ _ _ _ h => h) HS0.out (fun w' hw => by go_simp) ?_
              simp only [Act.put, List.setIfInBounds_toArray, List.set_cons_succ, List.set_cons_zero]
              refine held_takeG (i := 4) rfl (by kernel_rfl) (some 45) rfl (.int .u8 (dy.toNat : Int)) (by kernel_rfl) (by kernel_rfl) (by kernel_rfl) (fun _ _ _ _ h => h) HS0.out (fun w' hw => by have e := hw.2.1; go_simp) ?_
              simp only [Act.put, List.setIfInBounds_toArray, List.set_cons_succ, List.set_cons_zero]
              refine held_takeG (i := 5) rfl (by kernel_rfl) (some 46) rfl (.slice (some ⟨b2, o2, none⟩) n2 c2) (by kernel_rfl) (by kernel_rfl) (by kernel_rfl) (fun _ _ _ _ h => h) HS0.out (fun w' hw => by go_simp) ?_
              simp only [Act.put, List.setIfInBounds_toArray, List.set_cons_succ, List.set_cons_zero]
              refine held_takeG (i := 6) rfl (by kernel_rfl) (some 47) rfl (.int .i64 (k : Int)) (by kernel_rfl) (by kernel_rfl) (by kernel_rfl) (fun _ _ _ _ h => h) HS0.out (fun w' hw => by go_simp) ?_
              simp only [Act.put, List.setIfInBounds_toArray, List.set_cons_succ, List.set_cons_zero]
              refine held_takeG (i := 7) rfl (by kernel_rfl) (some 48) rfl (.pointer (some ⟨b2, o2 + k, none⟩)) (by kernel_rfl) (by kernel_rfl) (by kernel_rfl) (fun _ _ _ _ h => h) HS0.out (fun w' hw => by go_simp) ?_
              simp only [Act.put, List.setIfInBounds_toArray, List.set_cons_succ, List.set_cons_zero]
              refine held_takeG (i := 8) rfl (by kernel_rfl) (some 49) rfl (.bool by0) (by kernel_rfl) (by kernel_rfl) (by kernel_rfl) (fun _ _ _ _ h => h) HS0.out (fun w' hw => by have e := hw.2.2; go_simp) ?_
              simp only [Act.put, List.setIfInBounds_toArray, List.set_cons_succ, List.set_cons_zero]
              refine held_two (i := 9) (j := 10) (by kernel_rfl) ?_ ?_
              · refine wpOp_call (i := 9) rfl (by kernel_rfl) (some 50) rfl 8 #[.agg (smRow x0.p), .int .u8 (dy.toNat : Int), .bool by0] (by go_simp) (fun v w' => ∃ s x, v = .agg (recRow rr s x) ∧ chkRec rr s x = 0 ∧ (s = true → ∀ n, n < 24 → smN n (x n)) ∧ Below V1.drew.heap.size V1.drew w') ((HREC.out V1.drew).mono (fun e w' h => by obtain ⟨s, x, h1, h2, h3, h4, h5, h6⟩ := h; exact ⟨_, h1, s, x, rfl, h2, h3, h6⟩)) (fun v w3 hv => ?_)
                obtain ⟨sm, x, rfl, hchk, hsm, hb3⟩ := hv
                have hs3 : w3.heap[Y]? = some (.cells (smRow x0.p) 31 (0, 0)) ∧ w3.cell? ⟨b1, o1 + k, none⟩ = some (.int .u8 (dy.toNat : Int)) ∧ w3.cell? ⟨b2, o2 + k, none⟩ = some (.bool by0) := ⟨(Fr.ofBelow hb3).heap HS0.out.1 (by simp), by rw [hb3.cell (p := ⟨b1, o1 + k, none⟩) HB12.out.1]; exact HS0.out.2.1, by rw [hb3.cell (p := ⟨b2, o2 + k, none⟩) HB12.out.2]; exact HS0.out.2.2⟩
                refine ⟨hs3, ?_⟩
                simp only [Act.put, List.setIfInBounds_toArray, List.set_cons_succ, List.set_cons_zero]
                have hz : (w3.alloc (.cells (recRow 0 false (fun _ => 0)) 44)).heap[w3.heap.size]? = some (.cells (recRow 0 false (fun _ => 0)) 44 (0, 0)) := heap_new w3 (.cells (recRow 0 false (fun _ => 0)) 44)
                have hs4 : (w3.alloc (.cells (recRow 0 false (fun _ => 0)) 44)).heap[Y]? = some (.cells (smRow x0.p) 31 (0, 0)) ∧ (w3.alloc (.cells (recRow 0 false (fun _ => 0)) 44)).cell? ⟨b1, o1 + k, none⟩ = some (.int .u8 (dy.toNat : Int)) ∧ (w3.alloc (.cells (recRow 0 false (fun _ => 0)) 44)).cell? ⟨b2, o2 + k, none⟩ = some (.bool by0) := on_keep hs3 ((Below.refl _ _).alloc (Nat.le_refl _) (.cells (recRow 0 false (fun _ => 0)) 44))
                refine held_val (i := 10) rfl rfl (some 12) rfl (by kernel_rfl) (.pointer (some ⟨w3.heap.size, 0, none⟩)) (w3.alloc (.cells (recRow 0 false (fun _ => 0)) 44)) (by go_simp; rfl) hs4 ?_
                simp only [Act.put, List.setIfInBounds_toArray, List.set_cons_succ, List.set_cons_zero]
                have hf := fr_row (w3.alloc (.cells (recRow 0 false (fun _ => 0)) 44)) w3.heap.size (recRow rr sm x)
                have hyl := heap_lt hs3.1
                have hl3 := heap_lt3 hs3
                have hs5 : ((w3.alloc (.cells (recRow 0 false (fun _ => 0)) 44)).setRow w3.heap.size (recRow rr sm x)).heap[Y]? = some (.cells (smRow x0.p) 31 (0, 0)) ∧ ((w3.alloc (.cells (recRow 0 false (fun _ => 0)) 44)).setRow w3.heap.size (recRow rr sm x)).cell? ⟨b1, o1 + k, none⟩ = some (.int .u8 (dy.toNat : Int)) ∧ ((w3.alloc (.cells (recRow 0 false (fun _ => 0)) 44)).setRow w3.heap.size (recRow rr sm x)).cell? ⟨b2, o2 + k, none⟩ = some (.bool by0) := on_fr hs4 hf (by simp; omega) (by simp; omega) (by simp; omega)
                refine held_store_row (i := 11) rfl rfl none rfl 44 (.tmp 12) (.tmp 50) rfl (by kernel_rfl) w3.heap.size (recRow rr sm x) rfl rfl 44 _ hz (Try.infoRecRow _ _ _) rfl (recRow_one _ _ _) hs5 ?_
                refine wpAnyH_done (by kernel_rfl) ?_ _
                go_wp2
                go_meet
                case rel => exact ⟨w3.heap.size, sm, x, rfl, setRow_heap _ _ _ (recRow rr sm x) _ _ hz, hchk, hsm, hb3.size, Fr.below (((below_draws _ V1 1).trans hb3).alloc hb3.size (.cells (recRow 0 false (fun _ => 0)) 44)) hf (fun k hk => by rw [List.mem_singleton.1 hk]; exact hb3.size) (by simp; have := hb3.size; exact Nat.le_succ_of_le this)⟩
              · refine wpOp_val (i := 10) rfl (by kernel_rfl) (some 12) rfl (.pointer (some ⟨V1.heap.size, 0, none⟩)) (V1.drew.alloc (.cells (recRow 0 false (fun _ => 0)) 44)) (by go_simp; rfl) ?_
                have hs3 : (V1.drew.alloc (.cells (recRow 0 false (fun _ => 0)) 44)).heap[Y]? = some (.cells (smRow x0.p) 31 (0, 0)) ∧ (V1.drew.alloc (.cells (recRow 0 false (fun _ => 0)) 44)).cell? ⟨b1, o1 + k, none⟩ = some (.int .u8 (dy.toNat : Int)) ∧ (V1.drew.alloc (.cells (recRow 0 false (fun _ => 0)) 44)).cell? ⟨b2, o2 + k, none⟩ = some (.bool by0) := on_keep HS0.out ((Below.refl _ _).alloc (Nat.le_refl _) (.cells (recRow 0 false (fun _ => 0)) 44))
                refine ⟨hs3, ?_⟩
                simp only [Act.put, List.setIfInBounds_toArray, List.set_cons_succ, List.set_cons_zero]
                refine held_callG (i := 9) rfl (by kernel_rfl) (some 50) rfl (by kernel_rfl) 8 #[.agg (smRow x0.p), .int .u8 (dy.toNat : Int), .bool by0] (by go_simp) (fun v w' => ∃ s x, v = .agg (recRow rr s x) ∧ chkRec rr s x = 0 ∧ (s = true → ∀ n, n < 24 → smN n (x n)) ∧ Below (V1.drew.alloc (.cells (recRow 0 false (fun _ => 0)) 44)).heap.size (V1.drew.alloc (.cells (recRow 0 false (fun _ => 0)) 44)) w') ((HREC.out _).mono (fun e w' h => by obtain ⟨s, x, h1, h2, h3, h4, h5, h6⟩ := h; exact ⟨_, h1, s, x, rfl, h2, h3, h6⟩)) (fun v w3 hv => ?_)
                obtain ⟨sm, x, rfl, hchk, hsm, hb3⟩ := hv
                have hs4 : w3.heap[Y]? = some (.cells (smRow x0.p) 31 (0, 0)) ∧ w3.cell? ⟨b1, o1 + k, none⟩ = some (.int .u8 (dy.toNat : Int)) ∧ w3.cell? ⟨b2, o2 + k, none⟩ = some (.bool by0) := on_keep hs3 hb3
                refine ⟨hs4, ?_⟩
                simp only [Act.put, List.setIfInBounds_toArray, List.set_cons_succ, List.set_cons_zero]
                have hz : w3.heap[V1.heap.size]? = some (.cells (recRow 0 false (fun _ => 0)) 44 (0, 0)) := (Fr.ofBelow hb3).heap (heap_new V1.drew (.cells (recRow 0 false (fun _ => 0)) 44)) (by simp)
                have hf := fr_row w3 V1.heap.size (recRow rr sm x)
                have hyl : Y < V1.heap.size := heap_lt HS0.out.1
                have hl3 := HB12.out
                have hs5 : (w3.setRow V1.heap.size (recRow rr sm x)).heap[Y]? = some (.cells (smRow x0.p) 31 (0, 0)) ∧ (w3.setRow V1.heap.size (recRow rr sm x)).cell? ⟨b1, o1 + k, none⟩ = some (.int .u8 (dy.toNat : Int)) ∧ (w3.setRow V1.heap.size (recRow rr sm x)).cell? ⟨b2, o2 + k, none⟩ = some (.bool by0) := on_fr hs4 hf (by simp; omega) (by simp; omega) (by simp; omega)
                refine held_store_row (i := 11) rfl rfl none rfl 44 (.tmp 12) (.tmp 50) rfl (by kernel_rfl) V1.heap.size (recRow rr sm x) rfl rfl 44 _ hz (Try.infoRecRow _ _ _) rfl (recRow_one _ _ _) hs5 ?_
                refine wpAnyH_done (by kernel_rfl) ?_ _
                go_wp2
                go_meet
                case rel => exact ⟨V1.heap.size, sm, x, rfl, setRow_heap _ _ _ (recRow rr sm x) _ _ hz, hchk, hsm, Nat.le_refl _, Fr.below (((below_draws _ V1 1).alloc (Nat.le_refl _) (.cells (recRow 0 false (fun _ => 0)) 44)).trans (hb3.mono (by simp))) hf (fun k hk => by rw [List.mem_singleton.1 hk]; exact Nat.le_refl _) (by have := hb3.size; simp at this; omega)⟩
            case rest =>
              obtain ⟨X, sm, x, rfl, hx, hchk, hsm, hxl, hb⟩ := hcut
              obtain ⟨w2, rfl⟩ : ∃ w2 : World, w2 = wc := ⟨_, rfl⟩
              have HX2 := hid1 hx
              have HCHK := hid1 hchk
              have HXL := hid1 hxl
              have HT2 := hid1 (HT1.out.keep hb)
              have h70 := rec_small (r := ⟨rr, sm, x⟩) hchk hsm
              have h100 := (rec_len (r := ⟨rr, sm, x⟩) hchk).2
              have HBT := hid1 (show RecT.bytes ⟨rr, sm, x⟩ = recBytes rr sm x from rfl)
              clear hx hchk hsm hxl hb e1 e2
              go_upto_region 14 with (first
                | (refine wpList_load_row rfl 44 (.tmp 12) rfl X rfl _ (recRow rr sm x) _ _ HX2.out Try.underlying44 rfl (Try.infoRecRow _ _ _) ?_)
                | (go_at_call 14; refine (lawbytes_calls rr sm x HCHK.out w2).mono ?_; rintro e w3 ⟨v, rfl, hv, hb3⟩; have HT3 := hid1 (HT2.out.keep hb3); have HX3 := hid1 ((Fr.ofBelow hb3).heap HX2.out (by simp)); have HV3 := hid1 hv; clear hv hb3))
              obtain ⟨av, cv, rfl, hbv⟩ := HV3.out.bytes
              have hvl := fun g (hg : (Value.slice av (recBytes rr sm x).length cv).ownBlock = some g) => World.ownsRow.lt HV3.out g hg
              obtain ⟨T, hTe⟩ : ∃ T, recBytes rr sm x = T := ⟨_, rfl⟩
              have hTT : RecT.bytes ⟨rr, sm, x⟩ = T := hTe
              rw [hTT] at h70 h100
              rw [hTe] at hbv HV3 hvl ⊢
              have HV := hid1 HV3.out
              have HVL := hid1 hvl
              have HTT := hid1 hTT
              have HLS := hid1 (fun g hg => (World.ownsRow.lt HT1.out.l g hg).2)
              have HLW := hid1 (fun g hg => (World.ownsRow.lt HT1.out.own g hg).2)
              have hsz : V1.heap.size ≤ w3.heap.size := Nat.le_trans HXL.out (Nat.le_of_lt (heap_lt HX3.out))
              have HSZ := hid1 hsz
              have HLL := hid1 (show rs.length ≤ 1000000 by have := HRK.out; omega)
              have h70a : ¬ ((T.length : Int) > 70) := by omega
              have hw23 : V1.heap.size ≤ w2.heap.size := Nat.le_trans HXL.out (Nat.le_of_lt (heap_lt HX2.out))
              have HW2 := hid1 hw23
              have HT70 := hid1 h100
              clear hvl hbv hTe hTT HV3 hsz HBT h70 h100 hw23
              go_upto_region 15 with (first
                | (refine wpList_load_row rfl 44 (.tmp 12) rfl X rfl _ (recRow rr sm x) _ _ HX3.out Try.underlying44 rfl (Try.infoRecRow _ _ _) ?_)
                | (refine wpList_valW rfl (some 55) rfl (.slice (some ⟨w3.heap.size, 0, none⟩) 1 1) (w3.alloc (.cells (recRow rr sm x) 44)) (by kernel_rfl) ?_)
                | (at_builtin; refine app_rec (v := u8) Try.elRec rec_sz rec_one ⟨rr, sm, x⟩ rfl (.tmp 53) (.tmp 55) rfl rfl HT3.out.l rfl rfl rfl (by decide) HLL.out HT3.out.base ?_; intro v4 w4 ho4 hg4 hl4; obtain ⟨a4, c4, rfl, _⟩ := OwnL.read ho4; have hk3 := (Below.refl w3.heap.size w3).alloc (Nat.le_refl _) (.cells (recRow rr sm x) 44); have HT4 := hid1 ((HT3.out.keep hk3).appL ho4 hg4 (hl4.imp (fun h => h) (fun h => h.trans (by simp)))); have HX4 := hid1 ((Fr.grown (S := u8.ownBlock.toList) (Fr.refl _ (w3.alloc (.cells (recRow rr sm x) 44))) hg4 (fun g hg => .inl (by rw [hg]; simp))).heap (heap_keep HX3.out _) (fun hm => by have := HLS.out X (own_mem hm); have := HXL.out; omega)); have HV4 := hid1 (own_beside (own_keep HV.out hk3) hg4 (fun g hg he => by have := HLS.out g he; have := (HVL.out g hg).1; have := HW2.out; omega)); clear ho4 hg4 hl4 hk3))
              have hfl := flatR_len HOK.out
              have HLF := hid1 (show (flatR rs).length ≤ 800000 by have := HRK.out; omega)
              have HF63 := hid1 (show (flatR rs).length + T.length ≤ 140737488355328 by have := HT70.out; have := HRK.out; omega)
              clear hfl
              go_upto_region 16 with (at_builtin; refine app_bytes_at (v := u9) rfl (.tmp 57) (.tmp 58) rfl rfl HT4.out.own rfl (OwnB.read HV4.out) HF63.out HT4.out.base ?_; intro v5 w5 ho5 hg5 hl5; obtain ⟨a5, c5, rfl, _⟩ := ho5.bytes; have HT5 := hid1 (HT4.out.appW ho5 hg5 hl5); have HX5 := hid1 ((Fr.grown (S := u9.ownBlock.toList) (Fr.refl _ w4) hg5 (fun g hg => .inl (by rw [hg]; simp))).heap HX4.out (fun hm => by have := HLW.out X (own_mem hm); have := HXL.out; omega)); clear ho5 hg5 hl5)
              go_wp2_with (first
                | (refine wpList_load_row rfl 44 (.tmp 12) rfl X rfl _ (recRow rr sm x) _ _ HX5.out Try.underlying44 rfl (Try.infoRecRow _ _ _) ?_)
                | (go_at_call 11; refine (recchk_row rr sm x w5).mono ?_; rw [HCHK.out]; rintro e w6 ⟨rfl, hb6⟩; have HT6 := hid1 (HT5.out.keep hb6); have HX6 := hid1 ((Fr.ofBelow hb6).heap HX5.out (by simp)); clear hb6)
                | (refine wpList_load_rowG (by kernel_rfl) 44 (.tmp 12) rfl X rfl _ (recRow rr sm x) _ _ HX6.out Try.underlying44 rfl (Try.infoRecRow _ _ _) ?_)
                | (go_at_call 10; refine (recput_calls HT6.out.wr HLF.out rr sm x HCHK.out).mono ?_; rintro e w7 ⟨rfl, S7, hw7, hg7, hf7⟩; have HT7 := hid1 (HT6.out.put hw7 hg7 hf7); clear hw7 hg7 hf7))
              go_roundw
              case rel =>
                have hrs : flatR (rs ++ [⟨rr, sm, x⟩]) = flatR rs ++ T := by rw [flatR_snoc, HTT.out]
                refine ⟨k + 1, by omega, by go_num, S7, rs ++ [⟨rr, sm, x⟩], by rw [List.length_append, HRK.out]; rfl, by have := HN.out; omega, ?_, ?_⟩
                · intro r hr
                  rcases List.mem_append.1 hr with h | h
                  · exact HOK.out r h
                  · rw [List.mem_singleton.1 h]; exact HCHK.out
                · rw [hrs]
                  have ht7 := HT7.out
                  rw [show recBytes rr sm x = T from HTT.out] at ht7
                  simpa only [List.length_append, List.length_singleton] using ht7
              case measure => simp [intOf]; omega
        · obtain rfl : k = n0 := by omega
          go_wp2
          go_meet
          case rel => exact ⟨k, S, rs, HRK.out, HN.out, HOK.out, HT.out⟩
    case rest =>
      obtain ⟨k, S, rs, hrk, hk20, hok, ht⟩ := hcut
      obtain ⟨w2, rfl⟩ : ∃ w2 : World, w2 = wc := ⟨_, rfl⟩
      obtain ⟨al, cl, rfl, hal⟩ := OwnL.read ht.l
      obtain ⟨aw, cw, rfl, haw⟩ := ht.own.bytes
      have hfl := flatR_len hok
      have HFL := hid1 (show (flatR rs).length ≤ 1000000 by omega)
      obtain ⟨F, hF⟩ : ∃ F, flatR rs = F := ⟨_, rfl⟩
      have HFE := hid1 hF
      rw [hF] at ht HFL ⊢
      have HT := hid1 ht
      have HOK := hid1 hok
      have HRL := hid1 (show rs.length ≤ 20 by omega)
      clear hrk hk20 hok ht hal haw hfl hF
      go_upto_region 20 with (first
        | (go_at_call 16; refine (wbytes_calls HT.out.wr HFL.out).mono ?_; rintro e w3 ⟨v, rfl, hv, hb3⟩; obtain ⟨av, cv, rfl, hbv⟩ := hv.bytes; have HT3 := hid1 (HT.out.keep hb3); have HV3 := hid1 hbv; have HW3 := hid1 hb3.size; clear hv hb3 hbv)
        | (go_at_call 15; refine (read_calls HV3.out HFL.out).mono ?_; rintro e w4 ⟨g, Sr, rfl, hr4, hS4, hb4⟩; have HT4 := hid1 (HT3.out.keep hb4); have hg4 := (by obtain ⟨_, _, _, _, _, _, h4, _⟩ := hr4; exact hS4 _ h4 : w3.heap.size ≤ g ∧ g < w4.heap.size); have HG4 := hid1 hg4; have HR4 := hid1 hr4; have HS4 := hid1 hS4; have HSL := hid1 (fun k hk => HT3.out.wr.lt k hk); have HLL := hid1 (fun q hq => (World.ownsRow.lt HT3.out.l q hq).2); have HLW := hid1 (fun q hq => (World.ownsRow.lt HT3.out.own q hq).2); clear hr4 hS4 hb4 hg4))
      go_wp2
      go_loopw [80] (fun i wr => ∃ k : Nat, k ≤ rs.length ∧ i = .int .i64 (k : Int) ∧ Hid (Rd wr g Sr F ⟨(flatR (rs.take k)).length, 0⟩) ∧ Hid (Fr [g] w4 wr)) (fun i _ => rs.length - (intOf i).toNat)
      case atStart => exact ⟨0, Nat.zero_le _, rfl, hid1 (by rw [List.take_zero]; exact HR4.out), hid1 (Fr.refl _ _)⟩
      case round =>
        obtain ⟨k, hk, rfl, HR, HF⟩ := hrel
        have hrl20 := HRL.out
        obtain ⟨wo, rfl⟩ : ∃ wo : World, wo = wr := ⟨_, rfl⟩
        have HTO := hid1 (show OwnL 44 26 RecT.cells wo w.heap.size (.slice al rs.length cl) rs from own_fr HT4.out.l HF.out (fun q hq hm => by have := List.mem_singleton.1 hm; have := HLL.out q hq; have := HG4.out; omega))
        by_cases hlt : k < rs.length
        · obtain ⟨gl, cl', he, _, hgl⟩ := OwnL.there rec_sz (by decide) HTO.out (by intro h; rw [h] at hlt; simp at hlt)
          simp only [Value.slice.injEq] at he
          obtain ⟨rfl, _, rfl⟩ := he
          obtain ⟨y, hy⟩ : ∃ y, rs[k] = y := ⟨_, rfl⟩
          have HRG := hid1 (show wo.rangeAt gl (k * 26) y.row.toList from fun j v hj => by
            have hj26 : j < 26 := by
              rcases Nat.lt_or_ge j 26 with h | h
              · exact h
              · rw [List.getElem?_eq_none (by exact h)] at hj; cases hj
            rw [OwnL.cells rec_sz (by decide) HTO.out k hlt j hj26, hy]; exact hj)
          have hyok := HOK.out _ (List.getElem_mem hlt)
          rw [hy] at hyok
          have hdr := flatR_drop rs k hlt
          rw [hy, HFE.out] at hdr
          have hbk := tk_back hyok hdr
          have htk := flatR_take rs k hlt
          rw [hy] at htk
          have HBK := hid1 (show tkEnd F ⟨(flatR (rs.take k)).length, 0⟩ = ⟨(flatR (rs.take (k + 1))).length, 0⟩ ∧ recRow (gotA F ⟨(flatR (rs.take k)).length, 0⟩) (gotS F ⟨(flatR (rs.take k)).length, 0⟩) (gotX F ⟨(flatR (rs.take k)).length, 0⟩) = recRow y.a y.s y.x from ⟨by rw [htk]; exact hbk.1, hbk.2⟩)
          have HNE := hid1 (show ∀ w, (binOp .neq 44 (.agg y.row) (.agg y.row)).run Try.prog w = .ok (.bool false) w from fun w => (neq_rec y.a y.a y.s y.s y.x y.x w).trans (by rw [decide_eq_true ⟨rfl, rfl, same24_refl y.x⟩]; rfl))
          clear hyok hdr hbk htk hy
          go_upto_region 23 with (first
            | (refine wpList_load_mid rfl 44 (.tmp 82) rfl gl (k * 26) rfl y.row.toList _ HRG.out Try.underlying44 rfl (Try.infoRecRow y.a y.s y.x) ?_)
            | (refine wpList_store_row (w := wo.alloc (.cells (recRow 0 false (fun _ => 0)) 44)) rfl 44 (.tmp 16) (.tmp 83) rfl wo.heap.size y.row rfl rfl 44 _ (heap_new wo (.cells (recRow 0 false (fun _ => 0)) 44)) (Try.infoRecRow _ _ _) rfl (recRow_one _ _ _) ?_))
          have hf := fr_row (wo.alloc (.cells (recRow 0 false (fun _ => 0)) 44)) wo.heap.size y.row
          have hfa : Fr [] wo ((wo.alloc (.cells (recRow 0 false (fun _ => 0)) 44)).setRow wo.heap.size y.row) := Fr.ofBelow (Fr.below ((Below.refl wo.heap.size wo).alloc (Nat.le_refl _) (.cells (recRow 0 false (fun _ => 0)) 44)) hf (fun k hk => by rw [List.mem_singleton.1 hk]; exact Nat.le_refl _) (by simp))
          have hz := setRow_heap _ _ _ y.row _ _ (heap_new wo (.cells (recRow 0 false (fun _ => 0)) 44))
          have HZG := hid1 (show g < wo.heap.size from Nat.lt_of_lt_of_le HG4.out.2 HF.out.size)
          obtain ⟨Z, hZ⟩ : ∃ Z, wo.heap.size = Z := ⟨_, rfl⟩
          obtain ⟨V2, hV2⟩ : ∃ V2, (wo.alloc (.cells (recRow 0 false (fun _ => 0)) 44)).setRow wo.heap.size y.row = V2 := ⟨_, rfl⟩
          rw [hV2] at hz hfa ⊢
          rw [hZ] at hz HZG ⊢
          have HFA := hid1 hfa
          have HR2 := hid1 ((HR.out.fr hfa (fun _ _ h => by cases h)).fr (fr_drew V2) (fun _ _ h => by cases h))
          have HSD := hid1 (show ∀ k ∈ Sr, k < V2.drew.heap.size from fun k hk => Nat.lt_of_lt_of_le (HS4.out k hk).2 (Nat.le_trans HF.out.size hfa.size))
          have HS0 := hid1 (show V2.drew.heap[Z]? = some (.cells y.row 44 (0, 0)) from hz)
          clear hf hfa hz hZ hV2
          refine wp_region_held (S := fun w' => w'.heap[Z]? = some (.cells y.row 44 (0, 0))) (by kernel_rfl) ?_
          change wpAnyH _ _ _ _ _ 4 (Array.replicate 4 false) _ V2.drew
          refine held_loadG (i := 2) rfl (by kernel_rfl) (some 86) rfl 44 (.tmp 16) rfl (by kernel_rfl) (by kernel_rfl) (by kernel_rfl) (fun _ _ _ _ h => h) Z rfl 44 y.row (0, 0) _ (fun _ h => h) Try.underlying44 rfl (Try.infoRecRow _ _ _) HS0.out ?_
          simp only [Act.put, List.setIfInBounds_toArray, List.set_cons_succ, List.set_cons_zero]
          refine held_takeG (i := 0) rfl (by kernel_rfl) (some 84) rfl (.pointer (some ⟨g, 0, none⟩)) (by kernel_rfl) (by kernel_rfl) (by kernel_rfl) (fun _ _ _ _ h => h) HS0.out (fun w' hw => by go_simp) ?_
          simp only [Act.put, List.setIfInBounds_toArray, List.set_cons_succ, List.set_cons_zero]
          refine held_callG (i := 1) rfl (by kernel_rfl) (some 85) rfl (by kernel_rfl) 17 #[.pointer (some ⟨g, 0, none⟩)] (by go_simp) (fun v w' => v = .agg y.row ∧ Rd w' g Sr F ⟨(flatR (rs.take (k + 1))).length, 0⟩ ∧ Fr [g] V2.drew w') ((rectake_calls HR2.out HSD.out).mono (fun e w' h => ⟨_, h.1, by rw [HBK.out.2]; rfl, by rw [← HBK.out.1]; exact h.2.1, h.2.2⟩)) (fun v w3 hv => ?_)
          obtain ⟨rfl, hr3, hf3⟩ := hv
          have hz3 := hf3.heap HS0.out (fun hm => by have := List.mem_singleton.1 hm; have := HZG.out; omega)
          refine ⟨hz3, ?_⟩
          simp only [Act.put, List.setIfInBounds_toArray, List.set_cons_succ, List.set_cons_zero]
          have HZ3 := hid1 hz3
          refine held_takeG (i := 3) rfl (by kernel_rfl) (some 87) rfl (.bool false) (by kernel_rfl) (by kernel_rfl) (by kernel_rfl) (fun _ _ _ _ h => h) HZ3.out (fun w' hw => run_execOp_bin rfl (by kernel_rfl) (HNE.out w')) ?_
          simp only [Act.put, List.setIfInBounds_toArray, List.set_cons_succ, List.set_cons_zero]
          refine wpAnyH_done (by kernel_rfl) ?_ _
          go_wp2
          go_roundw
          case rel => exact ⟨k + 1, by omega, by go_num, hid1 hr3, hid1 ((HF.out.trans ((HFA.out.trans (fr_drew V2) (fun k hk => by cases hk)).nilMono) (Grows.refl _ _)).trans hf3 (Grows.refl _ _))⟩
          case measure => simp [intOf]; omega
        · obtain rfl : k = rs.length := by omega
          have HRU := hid1 (show Rd wo g Sr F ⟨F.length, 0⟩ by have := HR.out; rw [List.take_length, HFE.out] at this; exact this)
          have HWU := hid1 (show Wr wo G S F from HT4.out.wr.fr HF.out (fun q hq hm => by have := List.mem_singleton.1 hm; have := HSL.out q hq; have := HG4.out; omega))
          have HBU := hid1 (show Bytes wo aw F.length cw F from OwnB.read (own_fr HT4.out.own HF.out (fun q hq hm => by have := List.mem_singleton.1 hm; have := HLW.out q hq; have := HG4.out; omega)))
          have HBW := hid1 (show Below w.heap.size w wo from Fr.below HT4.out.below HF.out (fun q hq => by rw [List.mem_singleton.1 hq]; exact Nat.le_trans HT3.out.base HG4.out.1) HT4.out.base)
          have HBS := hid1 (show w.heap.size ≤ wo.heap.size from Nat.le_trans HT4.out.base HF.out.size)
          have HEND := hid1 (show rEnd F ⟨F.length, 0⟩ = 0 by unfold rEnd; rw [if_neg (fun h => by have := h.2; simp only at this; omega)])
          go_upto_region 26 with fail
          obtain ⟨U, rfl⟩ : ∃ U : World, U = wo := ⟨_, rfl⟩
          have HS0 := hid1 (show Bytes U.drew aw F.length cw F from HBU.out.drew)
          refine wp_region_held (S := fun w' => Bytes w' aw F.length cw F) (by kernel_rfl) ?_
          change wpAnyH _ _ _ _ _ 12 (Array.replicate 12 false) _ U.drew
          refine held_takeG (i := 0) rfl (by kernel_rfl) (some 89) rfl (.pointer (some ⟨G, 0, none⟩)) (by kernel_rfl) (by kernel_rfl) (by kernel_rfl) (fun _ _ _ _ h => h) HS0.out (fun w' hw => by go_simp) ?_
          simp only [Act.put, List.setIfInBounds_toArray, List.set_cons_succ, List.set_cons_zero]
          refine held_takeG (i := 3) rfl (by kernel_rfl) (some 92) rfl (.slice aw F.length cw) (by kernel_rfl) (by kernel_rfl) (by kernel_rfl) (fun _ _ _ _ h => h) HS0.out (fun w' hw => by go_simp) ?_
          simp only [Act.put, List.setIfInBounds_toArray, List.set_cons_succ, List.set_cons_zero]
          refine held_takeG (i := 4) rfl (by kernel_rfl) (some 93) rfl (.string (str F)) (by kernel_rfl) (by kernel_rfl) (by kernel_rfl) (fun _ _ _ _ h => h) HS0.out (fun w' hw => by have e := run_str (P := Try.prog) hw 49 9 5 Try.underlying49 Try.underlying5 Try.underlying9; go_simp) ?_
          simp only [Act.put, List.setIfInBounds_toArray, List.set_cons_succ, List.set_cons_zero]
          refine held_callG (i := 1) rfl (by kernel_rfl) (some 90) rfl (by kernel_rfl) 16 #[.pointer (some ⟨G, 0, none⟩)] (by go_simp) (fun v w' => OwnB w' U.drew.heap.size v F ∧ Below U.drew.heap.size U.drew w') ((wbytes_calls (HWU.out.fr (fr_drew U) (fun _ _ h => by cases h)) HFL.out).mono (fun e w' h => by obtain ⟨v, h1, h2, h3⟩ := h; exact ⟨v, h1, h2, h3⟩)) (fun v w12 hv => ?_)
          obtain ⟨hv12, hb12⟩ := hv
          have hs12 : Bytes w12 aw F.length cw F := HS0.out.keep hb12
          obtain ⟨av, cv, rfl, hbv⟩ := hv12.bytes
          refine ⟨hs12, ?_⟩
          refine wpAnyH_more (S' := fun w' => Bytes w' aw F.length cw F ∧ Bytes w' av F.length cv F) (fun _ h => h.1) _ _ _ _ ?_
          have HS13 := hid1 (show Bytes w12 aw F.length cw F ∧ Bytes w12 av F.length cv F from ⟨hs12, hbv⟩)
          have HR12 := hid1 ((HRU.out.fr (fr_drew U) (fun _ _ h => by cases h)).fr (Fr.ofBelow hb12) (fun _ _ h => by cases h))
          have HB12 := hid1 (hb12)
          clear hv12 hb12 hs12 hbv
          simp only [Act.put, List.setIfInBounds_toArray, List.set_cons_succ, List.set_cons_zero]
          refine held_takeG (i := 2) rfl (by kernel_rfl) (some 91) rfl (.string (str F)) (by kernel_rfl) (by kernel_rfl) (by kernel_rfl) (fun _ _ _ _ h => h) HS13.out (fun w' hw => by have e := run_str (P := Try.prog) hw.2 49 9 5 Try.underlying49 Try.underlying5 Try.underlying9; go_simp) ?_
          simp only [Act.put, List.setIfInBounds_toArray, List.set_cons_succ, List.set_cons_zero]
          refine held_takeG (i := 5) rfl (by kernel_rfl) (some 94) rfl (.bool true) (by kernel_rfl) (by kernel_rfl) (by kernel_rfl) (fun _ _ _ _ h => h) HS13.out (fun w' hw => by go_simp) ?_
          simp only [Act.put, List.setIfInBounds_toArray, List.set_cons_succ, List.set_cons_zero]
          refine held_takeG (i := 6) rfl (by kernel_rfl) (some 95) rfl (.bool true) (by kernel_rfl) (by kernel_rfl) (by kernel_rfl) (fun _ _ _ _ h => h) HS13.out (fun w' hw => by go_simp) ?_
          simp only [Act.put, List.setIfInBounds_toArray, List.set_cons_succ, List.set_cons_zero]
          refine held_takeG (i := 7) rfl (by kernel_rfl) (some 96) rfl (.pointer (some ⟨g, 0, none⟩)) (by kernel_rfl) (by kernel_rfl) (by kernel_rfl) (fun _ _ _ _ h => h) HS13.out (fun w' hw => by go_simp) ?_
          simp only [Act.put, List.setIfInBounds_toArray, List.set_cons_succ, List.set_cons_zero]
          refine held_callG (i := 8) rfl (by kernel_rfl) (some 97) rfl (by kernel_rfl) 18 #[.pointer (some ⟨g, 0, none⟩)] (by go_simp) (fun v w' => v = .int .i64 0 ∧ ∃ q, w' = w12.drewN q) ((rend_calls HR12.out).mono (fun e w' h => ⟨_, h.1, by rw [HEND.out], h.2⟩)) (fun v w13 hv => ?_)
          obtain ⟨rfl, q, rfl⟩ := hv
          have HS14 := hid1 (show Bytes (w12.drewN q) aw F.length cw F ∧ Bytes (w12.drewN q) av F.length cv F from ⟨HS13.out.1.drewN q, HS13.out.2.drewN q⟩)
          refine ⟨HS14.out, ?_⟩
          simp only [Act.put, List.setIfInBounds_toArray, List.set_cons_succ, List.set_cons_zero]
          refine held_takeG (i := 9) rfl (by kernel_rfl) (some 98) rfl (.bool true) (by kernel_rfl) (by kernel_rfl) (by kernel_rfl) (fun _ _ _ _ h => h) HS14.out (fun w' hw => by go_simp) ?_
          simp only [Act.put, List.setIfInBounds_toArray, List.set_cons_succ, List.set_cons_zero]
          refine held_takeG (i := 10) rfl (by kernel_rfl) (some 99) rfl (.bool true) (by kernel_rfl) (by kernel_rfl) (by kernel_rfl) (fun _ _ _ _ h => h) HS14.out (fun w' hw => by go_simp) ?_
          simp only [Act.put, List.setIfInBounds_toArray, List.set_cons_succ, List.set_cons_zero]
          refine held_takeG (i := 11) rfl (by kernel_rfl) (some 6) rfl (.bool true) (by kernel_rfl) (by kernel_rfl) (by kernel_rfl) (fun _ _ _ _ h => h) HS14.out (fun w' hw => by go_simp) ?_
          simp only [Act.put, List.setIfInBounds_toArray, List.set_cons_succ, List.set_cons_zero]
          refine wpAnyH_done (by kernel_rfl) ?_ _
          go_wp2
          go_ret
          exact ⟨rfl, (HBW.out.drew.trans (HB12.out.mono HBS.out)).trans (below_draws _ _ _)⟩
end Go.Proofs.Ytmholpploaecgaa
