/-
  A triangle by small numbers: the law's walk.
-/
import Derived.Test.YtmholpploaecgaaSmall
import Derived.Test.YtmholpploaecgaaSteps
import Derived.Test.YtmholpploaecgaaHeldBy
namespace Go.Proofs.Ytmholpploaecgaa
open Go.RowKit
set_option linter.unusedVariables false
set_option linter.unusedSimpArgs false

def sqRow (p : Nat → Int) : Array Value := #[.int .i64 (p 0), .int .i64 (p 1), .int .i64 (p 2), .int .i64 (p 3), .int .i64 (p 4), .int .i64 (p 5), .int .i64 0, .int .i64 0, .int .i64 0, .int .i64 0, .int .i64 0, .int .i64 0, .int .i64 0, .int .i64 0, .int .i64 0, .int .i64 0, .int .i64 0, .int .i64 0, .int .i64 0, .int .i64 0, .int .i64 0, .int .i64 0, .int .i64 0, .int .i64 0]
theorem sqRow_eq (p : Nat → Int) : sqRow p = triRow (fun n => if n < 6 then p n else 0) := rfl
theorem sqRow_one (p : Nat → Int) : (sqRow p).all (·.oneCell') = true := by simp [sqRow, Value.oneCell']
theorem Try.infoSq (p : Nat → Int) : (Try.prog.info? 41).map (·.size) = some (sqRow p).size := by kernel_rfl
set_option maxRecDepth 10000 in
set_option maxHeartbeats 4000000 in
theorem small13_calls {p : Nat → Int} (hp : SmOk p) (w : World) :
    Calls Try.prog 21 #[.agg (smRow p)] w fun e w' => ∃ x ok, e = .returned (.tuple #[.agg (triRow x), .bool ok]) ∧ (∀ n, n < 24 → smN n (x n)) ∧ ok = decide (0 < triArea x) ∧ Below w.heap.size w w' := by
  obtain ⟨r, hr⟩ : ∃ r, (p 24).tmod 4 = r := ⟨_, rfl⟩
  have hr2 : 0 ≤ r ∧ r ≤ 3 := by have := hp.size; rw [← hr, Int.tmod_eq_emod_of_nonneg (by omega)]; omega
  have n1 : IntKind.u8.wrap r = r := IntWalk.u8_in _ (by omega)
  have n2 : IntKind.i64.wrap r = r := IntWalk.i64_in _ (by omega)
  have n3 : IntKind.i64.wrap (1 + r) = 1 + r := IntWalk.i64_in _ (by omega)
  have HP := hid1 hp
  have HS3 := hid1 (fun w => small03_calls hp w)
  have h0 := heap_keep (heap_new w (.cells (smRow p) 31)) (.cells (triRow (fun _ => 0)) 41)
  have h1 := heap_new (w.alloc (.cells (smRow p) 31)) (.cells (triRow (fun _ => 0)) 41)
  have hb := ((Below.refl w.heap.size w).alloc (Nat.le_refl _) (.cells (smRow p) 31)).alloc (by simp) (.cells (triRow (fun _ => 0)) 41)
  obtain ⟨B, hB⟩ : ∃ B, w.heap.size = B := ⟨_, rfl⟩
  simp only [World.size_alloc] at h1
  rw [hB] at h0 h1 hb
  have HSM := hid1 h0
  have HZ := hid1 h1
  have HBW := hid1 hb
  have HBE := hid1 hB
  clear h0 h1 hb hp
  go_enter Try.func21, Try.ntmps21
  have HR0 := hid1 (range_in HSM.out 0 ([.int .i8 (p 0), .int .i8 (p 1), .int .i8 (p 2), .int .i8 (p 3), .int .i8 (p 4), .int .i8 (p 5)] : List Value) (fun j => by match j with | 0 => exact .inl rfl | 1 => exact .inl rfl | 2 => exact .inl rfl | 3 => exact .inl rfl | 4 => exact .inl rfl | 5 => exact .inl rfl | j + 6 => exact .inr rfl))
  go_upto_region 3 with (first
    | (refine wpList_load_mid rfl 25 (.tmp 8) rfl B 0 rfl [.int .i8 (p 0), .int .i8 (p 1), .int .i8 (p 2), .int .i8 (p 3), .int .i8 (p 4), .int .i8 (p 5)] _ HR0.out Try.underlying25 rfl (Try.infoPts p) ?_)
    | (go_at_call 33; refine (HS3.out _).mono ?_; (rintro e w1 ⟨rfl, hb1⟩; have hsz : B ≤ _ := (by rw [← HBE.out]; exact HBW.out.size); have HSM1 := hid1 (heap_keep ((Fr.ofBelow hb1).heap HSM.out (by simp)) (.cells (triRow (fun _ => 0)) 41)); have HZ1 := hid1 (heap_keep ((Fr.ofBelow hb1).heap HZ.out (by simp)) (.cells (triRow (fun _ => 0)) 41)); have HN1 := hid1 (heap_new w1 (.cells (triRow (fun _ => 0)) 41)); have HBW1 := hid1 ((HBW.out.trans (hb1.mono hsz)).alloc (Nat.le_trans hsz hb1.size) (.cells (triRow (fun _ => 0)) 41)); have HA1 := hid1 (show B + 1 < w1.heap.size from heap_lt ((Fr.ofBelow hb1).heap HZ.out (by simp))); clear hb1 hsz))
    | (refine wpList_store_row (w := w1.alloc (.cells (triRow (fun _ => 0)) 41)) rfl 41 (.tmp 4) (.tmp 11) rfl w1.heap.size _ rfl rfl _ _ HN1.out ?_ ?_ ?_ ?_; exact Try.infoSq p; rfl; exact sqRow_one p; change wpList _ _ _ _ _ ((w1.alloc (.cells (triRow (fun _ => 0)) 41)).setRow w1.heap.size (sqRow p)); obtain ⟨A, hA⟩ : ∃ A, w1.heap.size = A := ⟨_, rfl⟩; have hn := setRow_heap _ _ _ (sqRow p) _ _ HN1.out; have hf := fr_row (w1.alloc (.cells (triRow (fun _ => 0)) 41)) w1.heap.size (sqRow p); have hs := hf.heap HSM1.out (fun hm => by have := List.mem_singleton.1 hm; have := HA1.out; omega); have hz := hf.heap HZ1.out (fun hm => by have := List.mem_singleton.1 hm; have := HA1.out; omega); have hb := Fr.below HBW1.out hf (fun k hk => by have := List.mem_singleton.1 hk; have := HA1.out; omega) (by rw [← HBE.out]; exact HBW1.out.size); rw [hA] at hn hs hz hb HA1 ⊢; obtain ⟨W, hW⟩ : ∃ W, (w1.alloc (.cells (triRow (fun _ => 0)) 41)).setRow A (sqRow p) = W := ⟨_, rfl⟩; rw [hW] at hn hs hz hb ⊢; have q0 : W.cell? ⟨B, 24, none⟩ = some (.int .u8 (p 24)) := cell_at hs 24; rw [sqRow_eq] at hn; have HN := hid1 hn; have HS := hid1 hs; have HZW := hid1 hz; have HB2 := hid1 hb; clear hn hs hz hb hf hW hA HSM1 HZ1 HN1 HBW1))
  obtain ⟨kk, hkk⟩ : ∃ kk, 1 + r = kk := ⟨_, rfl⟩
  have hk4 : kk = 1 ∨ kk = 2 ∨ kk = 3 ∨ kk = 4 := by omega
  rw [hkk]
  obtain ⟨wo, rfl⟩ : ∃ wo : World, wo = w := ⟨_, rfl⟩
  clear q0 n1 n2 n3 hr2 hr hkk HSM HZ HBW HR0 HS3
  go_wp2
  go_loopw [17] (fun k wr => ∃ (i : Nat) (x : Nat → Int), i ≤ 3 ∧ k = .int .i64 i ∧ Hid (SmAt p i x) ∧ Hid (wr.heap[A]? = some (.cells (triRow x) 41 (0, 0))) ∧ Hid (wr.heap[B]? = some (.cells (smRow p) 31 (0, 0))) ∧ Hid (wr.heap[B + 1]? = some (.cells (triRow (fun _ => 0)) 41 (0, 0))) ∧ Hid (Below B wo wr)) (fun k _ => 3 - (intOf k).toNat)
  case atStart => exact ⟨0, _, by omega, rfl, hid1 (SmAt.zero p), HN, HS, HZW, HB2⟩
  case round =>
    clear HN HS HZW HB2
    obtain ⟨i, x, hi, rfl, HX, HN, HS, HZW, HB2⟩ := hrel
    by_cases hlt : i < 3
    · have hn := HN.out
      have hs := HS.out
      rcases (show i = 0 ∨ i = 1 ∨ i = 2 by omega) with rfl | rfl | rfl
      · have v0 : x 0 = p 0 := (HX.out 0 (by omega)).2 (by decide) (by omega)
        have v1 : x 1 = p 1 := (HX.out 1 (by omega)).2 (by decide) (by omega)
        have e0 : wr.cell? ⟨A, 0, none⟩ = some (.int .i64 (p 0)) := by rw [cell_at hn]; show some (Value.int .i64 (x 0)) = _; rw [v0]
        have e1 : wr.cell? ⟨A, 1, none⟩ = some (.int .i64 (p 1)) := by rw [cell_at hn]; show some (Value.int .i64 (x 1)) = _; rw [v1]
        have z0 := free_at hn 0
        have z1 := free_at hn 1
        have b0 := HP.out.pt 0 (by omega)
        have b1 := HP.out.pt 1 (by omega)
        obtain ⟨y0, hy0⟩ : ∃ y, p 0 = y := ⟨_, rfl⟩
        obtain ⟨y1, hy1⟩ : ∃ y, p 1 = y := ⟨_, rfl⟩
        rw [hy0] at e0 b0
        rw [hy1] at e1 b1
        obtain ⟨d0, hd0, l0⟩ : ∃ d, y0 * kk = d ∧ -512 ≤ d ∧ d ≤ 508 := ⟨_, rfl, by rcases hk4 with rfl | rfl | rfl | rfl <;> omega⟩
        obtain ⟨d1, hd1, l1⟩ : ∃ d, y1 * kk = d ∧ -512 ≤ d ∧ d ≤ 508 := ⟨_, rfl, by rcases hk4 with rfl | rfl | rfl | rfl <;> omega⟩
        have m0 : IntKind.i64.wrap d0 = d0 := IntWalk.i64_in _ (by omega)
        have m1 : IntKind.i64.wrap d1 = d1 := IntWalk.i64_in _ (by omega)
        have m2 : IntKind.i64.wrap (d0 + 100) = d0 + 100 := IntWalk.i64_in _ (by omega)
        have m3 : IntKind.i64.wrap (d1 + 100) = d1 + 100 := IntWalk.i64_in _ (by omega)
        have hn6 := heap_set (a := ⟨A, 1, none⟩) (heap_set (a := ⟨A, 0, none⟩) hn rfl (.int .i64 (d0 + 100))) rfl (.int .i64 (d1 + 100))
        have hf6 := (((Fr.refl [A] wr).set ⟨A, 0, none⟩ (.inl (by simp)) (.int .i64 (d0 + 100))).set ⟨A, 1, none⟩ (.inl (by simp)) (.int .i64 (d1 + 100))).drew1
        have HN6 := hid1 hn6
        have HF6 := hid1 hf6
        clear v0 v1 hy0 hy1 hn hs hn6 hf6
        go_wp2
        go_region
        go_wp2
        obtain ⟨W6, hW6⟩ : ∃ W6, ((wr.setCell ⟨A, 0, none⟩ (.int .i64 (d0 + 100))).setCell ⟨A, 1, none⟩ (.int .i64 (d1 + 100))).drew = W6 := ⟨_, rfl⟩
        rw [hW6] at HF6 ⊢
        have hn7 : W6.heap[A]? = some (.cells (triRow (upd (upd x (2 * 0) (d0 + 100)) (2 * 0 + 1) (d1 + 100))) 41 (0, 0)) := by rw [← hW6]; exact HN6.out
        have h1 := HA1.out
        have hs7 := HF6.out.heap HS.out (fun hm => by have := List.mem_singleton.1 hm; omega)
        have hz7 := HF6.out.heap HZW.out (fun hm => by have := List.mem_singleton.1 hm; omega)
        have hb7 := Fr.below HB2.out HF6.out (fun k hk => by have := List.mem_singleton.1 hk; omega) (Nat.le_of_lt (heap_lt HS.out))
        have c2 : W6.cell? ⟨B, 6, none⟩ = some (.int .u16 (p 6)) := cell_at hs7 6
        have c3 : W6.cell? ⟨B, 9, none⟩ = some (.int .u16 (p 9)) := cell_at hs7 9
        have e2 : W6.cell? ⟨A, 6, none⟩ = some (.int .i64 (x 6)) := cell_at hn7 6
        have e3 : W6.cell? ⟨A, 9, none⟩ = some (.int .i64 (x 9)) := cell_at hn7 9
        have z2 := free_at hn7 6
        have z3 := free_at hn7 9
        have b2 := HP.out.mid 6 (by omega) (by omega)
        have b3 := HP.out.mid 9 (by omega) (by omega)
        obtain ⟨y2, hy2⟩ : ∃ y, p 6 = y := ⟨_, rfl⟩
        obtain ⟨y3, hy3⟩ : ∃ y, p 9 = y := ⟨_, rfl⟩
        rw [hy2] at c2 b2
        rw [hy3] at c3 b3
        obtain ⟨q, hq, lq⟩ : ∃ q, y3.tmod 1024 = q ∧ 0 ≤ q ∧ q ≤ 1023 := ⟨_, rfl, by rw [Int.tmod_eq_emod_of_nonneg (by omega)]; omega⟩
        have m4 : IntKind.i64.wrap y2 = y2 := IntWalk.i64_in _ (by omega)
        have m5 : IntKind.u16.wrap q = q := IntWalk.u16_in _ (by omega)
        have m6 : IntKind.i64.wrap q = q := IntWalk.i64_in _ (by omega)
        have m7 : IntKind.i64.wrap (1 + q) = 1 + q := IntWalk.i64_in _ (by omega)
        have hn8 := heap_set (a := ⟨A, 9, none⟩) (heap_set (a := ⟨A, 6, none⟩) hn7 rfl (.int .i64 y2)) rfl (.int .i64 (1 + q))
        have hf8 := (((Fr.refl [A] W6).set ⟨A, 6, none⟩ (.inl (by simp)) (.int .i64 y2)).set ⟨A, 9, none⟩ (.inl (by simp)) (.int .i64 (1 + q))).drew1
        have HN8 := hid1 hn8
        have HF8 := hid1 hf8
        have HS7 := hid1 hs7
        have HZ7 := hid1 hz7
        have HB7 := hid1 hb7
        have HX7 := hid1 (HX.out.start (by omega) (a := d0 + 100) (b := d1 + 100) (c := y2) (d := 1 + q) (by omega) (by omega) (by omega) (by omega))
        clear e0 e1 z0 z1 b0 b1 hy2 hy3 hW6 HN6 HF6 hn7 hs7 hz7 hb7 hn8 hf8 HX HN HS HZW HB2 m0 m1 m2 m3 hd0 hd1 l0 l1
        go_region
        go_wp2
        go_loopw [62] (fun k wr => ∃ (k' : Nat) (x : Nat → Int), k' ≤ 4 ∧ k = .int .i64 k' ∧ Hid (SmIn p 0 k' x) ∧ Hid (wr.heap[A]? = some (.cells (triRow x) 41 (0, 0))) ∧ Hid (wr.heap[B]? = some (.cells (smRow p) 31 (0, 0))) ∧ Hid (wr.heap[B + 1]? = some (.cells (triRow (fun _ => 0)) 41 (0, 0))) ∧ Hid (Below B wo wr)) (fun k _ => 4 - (intOf k).toNat)
        case atStart =>
          have h1 := HA1.out
          exact ⟨0, _, by omega, rfl, HX7, HN8, hid1 (HF8.out.heap HS7.out (fun hm => by have := List.mem_singleton.1 hm; omega)), hid1 (HF8.out.heap HZ7.out (fun hm => by have := List.mem_singleton.1 hm; omega)), hid1 (Fr.below HB7.out HF8.out (fun k hk => by have := List.mem_singleton.1 hk; omega) (Nat.le_of_lt (heap_lt HS7.out)))⟩
        case round =>
          clear HX7 HN8 HF8 HS7 HZ7 HB7 c2 c3 e2 e3 z2 z3 b2 b3 hq lq m4 m5 m6 m7
          obtain ⟨k, x, hk, rfl, HX, HN, HS, HZW, HB2⟩ := hrel
          rcases (show k = 0 ∨ k = 1 ∨ k = 2 ∨ k = 3 ∨ k = 4 by omega) with rfl | rfl | rfl | rfl | rfl
          · have hn := HN.out
            have hs := HS.out
            have c0 : wr.cell? ⟨B, 12, none⟩ = some (.int .u16 (p 12)) := cell_at hs 12
            have e0 : wr.cell? ⟨A, 12, none⟩ = some (.int .i64 (x 12)) := cell_at hn 12
            have z0 := free_at hn 12
            have b0 := HP.out.mid 12 (by omega) (by omega)
            have hn2 := heap_set (a := ⟨A, 12, none⟩) hn rfl (.int .i64 (p 12))
            have hf2 := (Fr.refl [A] wr).set ⟨A, 12, none⟩ (.inl (by simp)) (.int .i64 (p 12))
            have HN2 := hid1 hn2
            have HF2 := hid1 hf2
            have HX2 := hid1 (HX.out.next (by omega) (by omega) b0)
            obtain ⟨y0, hy0⟩ : ∃ y, p 12 = y := ⟨_, rfl⟩
            rw [hy0] at c0 b0 HN2 HF2 HX2
            have m0 : IntKind.i64.wrap y0 = y0 := IntWalk.i64_in _ (by omega)
            clear hn hs hn2 hf2 hy0
            go_wp2
            go_region
            go_wp2
            go_roundw
            case rel =>
              have h1 := HA1.out
              exact ⟨1, _, by omega, by go_num, HX2, HN2, hid1 (HF2.out.drew1.heap HS.out (fun hm => by have := List.mem_singleton.1 hm; omega)), hid1 (HF2.out.drew1.heap HZW.out (fun hm => by have := List.mem_singleton.1 hm; omega)), hid1 (Fr.below HB2.out HF2.out.drew1 (fun k hk => by have := List.mem_singleton.1 hk; omega) (Nat.le_of_lt (heap_lt HS.out)))⟩
            case measure => simp [intOf]
          · have hn := HN.out
            have hs := HS.out
            have c0 : wr.cell? ⟨B, 13, none⟩ = some (.int .u16 (p 13)) := cell_at hs 13
            have e0 : wr.cell? ⟨A, 13, none⟩ = some (.int .i64 (x 13)) := cell_at hn 13
            have z0 := free_at hn 13
            have b0 := HP.out.mid 13 (by omega) (by omega)
            have hn2 := heap_set (a := ⟨A, 13, none⟩) hn rfl (.int .i64 (p 13))
            have hf2 := (Fr.refl [A] wr).set ⟨A, 13, none⟩ (.inl (by simp)) (.int .i64 (p 13))
            have HN2 := hid1 hn2
            have HF2 := hid1 hf2
            have HX2 := hid1 (HX.out.next (by omega) (by omega) b0)
            obtain ⟨y0, hy0⟩ : ∃ y, p 13 = y := ⟨_, rfl⟩
            rw [hy0] at c0 b0 HN2 HF2 HX2
            have m0 : IntKind.i64.wrap y0 = y0 := IntWalk.i64_in _ (by omega)
            clear hn hs hn2 hf2 hy0
            go_wp2
            go_region
            go_wp2
            go_roundw
            case rel =>
              have h1 := HA1.out
              exact ⟨2, _, by omega, by go_num, HX2, HN2, hid1 (HF2.out.drew1.heap HS.out (fun hm => by have := List.mem_singleton.1 hm; omega)), hid1 (HF2.out.drew1.heap HZW.out (fun hm => by have := List.mem_singleton.1 hm; omega)), hid1 (Fr.below HB2.out HF2.out.drew1 (fun k hk => by have := List.mem_singleton.1 hk; omega) (Nat.le_of_lt (heap_lt HS.out)))⟩
            case measure => simp [intOf]
          · have hn := HN.out
            have hs := HS.out
            have c0 : wr.cell? ⟨B, 14, none⟩ = some (.int .u16 (p 14)) := cell_at hs 14
            have e0 : wr.cell? ⟨A, 14, none⟩ = some (.int .i64 (x 14)) := cell_at hn 14
            have z0 := free_at hn 14
            have b0 := HP.out.mid 14 (by omega) (by omega)
            have hn2 := heap_set (a := ⟨A, 14, none⟩) hn rfl (.int .i64 (p 14))
            have hf2 := (Fr.refl [A] wr).set ⟨A, 14, none⟩ (.inl (by simp)) (.int .i64 (p 14))
            have HN2 := hid1 hn2
            have HF2 := hid1 hf2
            have HX2 := hid1 (HX.out.next (by omega) (by omega) b0)
            obtain ⟨y0, hy0⟩ : ∃ y, p 14 = y := ⟨_, rfl⟩
            rw [hy0] at c0 b0 HN2 HF2 HX2
            have m0 : IntKind.i64.wrap y0 = y0 := IntWalk.i64_in _ (by omega)
            clear hn hs hn2 hf2 hy0
            go_wp2
            go_region
            go_wp2
            go_roundw
            case rel =>
              have h1 := HA1.out
              exact ⟨3, _, by omega, by go_num, HX2, HN2, hid1 (HF2.out.drew1.heap HS.out (fun hm => by have := List.mem_singleton.1 hm; omega)), hid1 (HF2.out.drew1.heap HZW.out (fun hm => by have := List.mem_singleton.1 hm; omega)), hid1 (Fr.below HB2.out HF2.out.drew1 (fun k hk => by have := List.mem_singleton.1 hk; omega) (Nat.le_of_lt (heap_lt HS.out)))⟩
            case measure => simp [intOf]
          · have hn := HN.out
            have hs := HS.out
            have c0 : wr.cell? ⟨B, 15, none⟩ = some (.int .u16 (p 15)) := cell_at hs 15
            have e0 : wr.cell? ⟨A, 15, none⟩ = some (.int .i64 (x 15)) := cell_at hn 15
            have z0 := free_at hn 15
            have b0 := HP.out.mid 15 (by omega) (by omega)
            have hn2 := heap_set (a := ⟨A, 15, none⟩) hn rfl (.int .i64 (p 15))
            have hf2 := (Fr.refl [A] wr).set ⟨A, 15, none⟩ (.inl (by simp)) (.int .i64 (p 15))
            have HN2 := hid1 hn2
            have HF2 := hid1 hf2
            have HX2 := hid1 (HX.out.next (by omega) (by omega) b0)
            obtain ⟨y0, hy0⟩ : ∃ y, p 15 = y := ⟨_, rfl⟩
            rw [hy0] at c0 b0 HN2 HF2 HX2
            have m0 : IntKind.i64.wrap y0 = y0 := IntWalk.i64_in _ (by omega)
            clear hn hs hn2 hf2 hy0
            go_wp2
            go_region
            go_wp2
            go_roundw
            case rel =>
              have h1 := HA1.out
              exact ⟨4, _, by omega, by go_num, HX2, HN2, hid1 (HF2.out.drew1.heap HS.out (fun hm => by have := List.mem_singleton.1 hm; omega)), hid1 (HF2.out.drew1.heap HZW.out (fun hm => by have := List.mem_singleton.1 hm; omega)), hid1 (Fr.below HB2.out HF2.out.drew1 (fun k hk => by have := List.mem_singleton.1 hk; omega) (Nat.le_of_lt (heap_lt HS.out)))⟩
            case measure => simp [intOf]
          · go_wp2
            go_roundw
            case rel => exact ⟨1, _, by omega, by go_num, hid1 HX.out.done, HN, HS, HZW, HB2⟩
            case measure => simp [intOf]
      · have v0 : x 2 = p 2 := (HX.out 2 (by omega)).2 (by decide) (by omega)
        have v1 : x 3 = p 3 := (HX.out 3 (by omega)).2 (by decide) (by omega)
        have e0 : wr.cell? ⟨A, 2, none⟩ = some (.int .i64 (p 2)) := by rw [cell_at hn]; show some (Value.int .i64 (x 2)) = _; rw [v0]
        have e1 : wr.cell? ⟨A, 3, none⟩ = some (.int .i64 (p 3)) := by rw [cell_at hn]; show some (Value.int .i64 (x 3)) = _; rw [v1]
        have z0 := free_at hn 2
        have z1 := free_at hn 3
        have b0 := HP.out.pt 2 (by omega)
        have b1 := HP.out.pt 3 (by omega)
        obtain ⟨y0, hy0⟩ : ∃ y, p 2 = y := ⟨_, rfl⟩
        obtain ⟨y1, hy1⟩ : ∃ y, p 3 = y := ⟨_, rfl⟩
        rw [hy0] at e0 b0
        rw [hy1] at e1 b1
        obtain ⟨d0, hd0, l0⟩ : ∃ d, y0 * kk = d ∧ -512 ≤ d ∧ d ≤ 508 := ⟨_, rfl, by rcases hk4 with rfl | rfl | rfl | rfl <;> omega⟩
        obtain ⟨d1, hd1, l1⟩ : ∃ d, y1 * kk = d ∧ -512 ≤ d ∧ d ≤ 508 := ⟨_, rfl, by rcases hk4 with rfl | rfl | rfl | rfl <;> omega⟩
        have m0 : IntKind.i64.wrap d0 = d0 := IntWalk.i64_in _ (by omega)
        have m1 : IntKind.i64.wrap d1 = d1 := IntWalk.i64_in _ (by omega)
        have m2 : IntKind.i64.wrap (d0 + 100) = d0 + 100 := IntWalk.i64_in _ (by omega)
        have m3 : IntKind.i64.wrap (d1 + 100) = d1 + 100 := IntWalk.i64_in _ (by omega)
        have hn6 := heap_set (a := ⟨A, 3, none⟩) (heap_set (a := ⟨A, 2, none⟩) hn rfl (.int .i64 (d0 + 100))) rfl (.int .i64 (d1 + 100))
        have hf6 := (((Fr.refl [A] wr).set ⟨A, 2, none⟩ (.inl (by simp)) (.int .i64 (d0 + 100))).set ⟨A, 3, none⟩ (.inl (by simp)) (.int .i64 (d1 + 100))).drew1
        have HN6 := hid1 hn6
        have HF6 := hid1 hf6
        clear v0 v1 hy0 hy1 hn hs hn6 hf6
        go_wp2
        go_region
        go_wp2
        obtain ⟨W6, hW6⟩ : ∃ W6, ((wr.setCell ⟨A, 2, none⟩ (.int .i64 (d0 + 100))).setCell ⟨A, 3, none⟩ (.int .i64 (d1 + 100))).drew = W6 := ⟨_, rfl⟩
        rw [hW6] at HF6 ⊢
        have hn7 : W6.heap[A]? = some (.cells (triRow (upd (upd x (2 * 1) (d0 + 100)) (2 * 1 + 1) (d1 + 100))) 41 (0, 0)) := by rw [← hW6]; exact HN6.out
        have h1 := HA1.out
        have hs7 := HF6.out.heap HS.out (fun hm => by have := List.mem_singleton.1 hm; omega)
        have hz7 := HF6.out.heap HZW.out (fun hm => by have := List.mem_singleton.1 hm; omega)
        have hb7 := Fr.below HB2.out HF6.out (fun k hk => by have := List.mem_singleton.1 hk; omega) (Nat.le_of_lt (heap_lt HS.out))
        have c2 : W6.cell? ⟨B, 7, none⟩ = some (.int .u16 (p 7)) := cell_at hs7 7
        have c3 : W6.cell? ⟨B, 10, none⟩ = some (.int .u16 (p 10)) := cell_at hs7 10
        have e2 : W6.cell? ⟨A, 7, none⟩ = some (.int .i64 (x 7)) := cell_at hn7 7
        have e3 : W6.cell? ⟨A, 10, none⟩ = some (.int .i64 (x 10)) := cell_at hn7 10
        have z2 := free_at hn7 7
        have z3 := free_at hn7 10
        have b2 := HP.out.mid 7 (by omega) (by omega)
        have b3 := HP.out.mid 10 (by omega) (by omega)
        obtain ⟨y2, hy2⟩ : ∃ y, p 7 = y := ⟨_, rfl⟩
        obtain ⟨y3, hy3⟩ : ∃ y, p 10 = y := ⟨_, rfl⟩
        rw [hy2] at c2 b2
        rw [hy3] at c3 b3
        obtain ⟨q, hq, lq⟩ : ∃ q, y3.tmod 1024 = q ∧ 0 ≤ q ∧ q ≤ 1023 := ⟨_, rfl, by rw [Int.tmod_eq_emod_of_nonneg (by omega)]; omega⟩
        have m4 : IntKind.i64.wrap y2 = y2 := IntWalk.i64_in _ (by omega)
        have m5 : IntKind.u16.wrap q = q := IntWalk.u16_in _ (by omega)
        have m6 : IntKind.i64.wrap q = q := IntWalk.i64_in _ (by omega)
        have m7 : IntKind.i64.wrap (1 + q) = 1 + q := IntWalk.i64_in _ (by omega)
        have hn8 := heap_set (a := ⟨A, 10, none⟩) (heap_set (a := ⟨A, 7, none⟩) hn7 rfl (.int .i64 y2)) rfl (.int .i64 (1 + q))
        have hf8 := (((Fr.refl [A] W6).set ⟨A, 7, none⟩ (.inl (by simp)) (.int .i64 y2)).set ⟨A, 10, none⟩ (.inl (by simp)) (.int .i64 (1 + q))).drew1
        have HN8 := hid1 hn8
        have HF8 := hid1 hf8
        have HS7 := hid1 hs7
        have HZ7 := hid1 hz7
        have HB7 := hid1 hb7
        have HX7 := hid1 (HX.out.start (by omega) (a := d0 + 100) (b := d1 + 100) (c := y2) (d := 1 + q) (by omega) (by omega) (by omega) (by omega))
        clear e0 e1 z0 z1 b0 b1 hy2 hy3 hW6 HN6 HF6 hn7 hs7 hz7 hb7 hn8 hf8 HX HN HS HZW HB2 m0 m1 m2 m3 hd0 hd1 l0 l1
        go_region
        go_wp2
        go_loopw [62] (fun k wr => ∃ (k' : Nat) (x : Nat → Int), k' ≤ 4 ∧ k = .int .i64 k' ∧ Hid (SmIn p 1 k' x) ∧ Hid (wr.heap[A]? = some (.cells (triRow x) 41 (0, 0))) ∧ Hid (wr.heap[B]? = some (.cells (smRow p) 31 (0, 0))) ∧ Hid (wr.heap[B + 1]? = some (.cells (triRow (fun _ => 0)) 41 (0, 0))) ∧ Hid (Below B wo wr)) (fun k _ => 4 - (intOf k).toNat)
        case atStart =>
          have h1 := HA1.out
          exact ⟨0, _, by omega, rfl, HX7, HN8, hid1 (HF8.out.heap HS7.out (fun hm => by have := List.mem_singleton.1 hm; omega)), hid1 (HF8.out.heap HZ7.out (fun hm => by have := List.mem_singleton.1 hm; omega)), hid1 (Fr.below HB7.out HF8.out (fun k hk => by have := List.mem_singleton.1 hk; omega) (Nat.le_of_lt (heap_lt HS7.out)))⟩
        case round =>
          clear HX7 HN8 HF8 HS7 HZ7 HB7 c2 c3 e2 e3 z2 z3 b2 b3 hq lq m4 m5 m6 m7
          obtain ⟨k, x, hk, rfl, HX, HN, HS, HZW, HB2⟩ := hrel
          rcases (show k = 0 ∨ k = 1 ∨ k = 2 ∨ k = 3 ∨ k = 4 by omega) with rfl | rfl | rfl | rfl | rfl
          · have hn := HN.out
            have hs := HS.out
            have c0 : wr.cell? ⟨B, 16, none⟩ = some (.int .u16 (p 16)) := cell_at hs 16
            have e0 : wr.cell? ⟨A, 16, none⟩ = some (.int .i64 (x 16)) := cell_at hn 16
            have z0 := free_at hn 16
            have b0 := HP.out.mid 16 (by omega) (by omega)
            have hn2 := heap_set (a := ⟨A, 16, none⟩) hn rfl (.int .i64 (p 16))
            have hf2 := (Fr.refl [A] wr).set ⟨A, 16, none⟩ (.inl (by simp)) (.int .i64 (p 16))
            have HN2 := hid1 hn2
            have HF2 := hid1 hf2
            have HX2 := hid1 (HX.out.next (by omega) (by omega) b0)
            obtain ⟨y0, hy0⟩ : ∃ y, p 16 = y := ⟨_, rfl⟩
            rw [hy0] at c0 b0 HN2 HF2 HX2
            have m0 : IntKind.i64.wrap y0 = y0 := IntWalk.i64_in _ (by omega)
            clear hn hs hn2 hf2 hy0
            go_wp2
            go_region
            go_wp2
            go_roundw
            case rel =>
              have h1 := HA1.out
              exact ⟨1, _, by omega, by go_num, HX2, HN2, hid1 (HF2.out.drew1.heap HS.out (fun hm => by have := List.mem_singleton.1 hm; omega)), hid1 (HF2.out.drew1.heap HZW.out (fun hm => by have := List.mem_singleton.1 hm; omega)), hid1 (Fr.below HB2.out HF2.out.drew1 (fun k hk => by have := List.mem_singleton.1 hk; omega) (Nat.le_of_lt (heap_lt HS.out)))⟩
            case measure => simp [intOf]
          · have hn := HN.out
            have hs := HS.out
            have c0 : wr.cell? ⟨B, 17, none⟩ = some (.int .u16 (p 17)) := cell_at hs 17
            have e0 : wr.cell? ⟨A, 17, none⟩ = some (.int .i64 (x 17)) := cell_at hn 17
            have z0 := free_at hn 17
            have b0 := HP.out.mid 17 (by omega) (by omega)
            have hn2 := heap_set (a := ⟨A, 17, none⟩) hn rfl (.int .i64 (p 17))
            have hf2 := (Fr.refl [A] wr).set ⟨A, 17, none⟩ (.inl (by simp)) (.int .i64 (p 17))
            have HN2 := hid1 hn2
            have HF2 := hid1 hf2
            have HX2 := hid1 (HX.out.next (by omega) (by omega) b0)
            obtain ⟨y0, hy0⟩ : ∃ y, p 17 = y := ⟨_, rfl⟩
            rw [hy0] at c0 b0 HN2 HF2 HX2
            have m0 : IntKind.i64.wrap y0 = y0 := IntWalk.i64_in _ (by omega)
            clear hn hs hn2 hf2 hy0
            go_wp2
            go_region
            go_wp2
            go_roundw
            case rel =>
              have h1 := HA1.out
              exact ⟨2, _, by omega, by go_num, HX2, HN2, hid1 (HF2.out.drew1.heap HS.out (fun hm => by have := List.mem_singleton.1 hm; omega)), hid1 (HF2.out.drew1.heap HZW.out (fun hm => by have := List.mem_singleton.1 hm; omega)), hid1 (Fr.below HB2.out HF2.out.drew1 (fun k hk => by have := List.mem_singleton.1 hk; omega) (Nat.le_of_lt (heap_lt HS.out)))⟩
            case measure => simp [intOf]
          · have hn := HN.out
            have hs := HS.out
            have c0 : wr.cell? ⟨B, 18, none⟩ = some (.int .u16 (p 18)) := cell_at hs 18
            have e0 : wr.cell? ⟨A, 18, none⟩ = some (.int .i64 (x 18)) := cell_at hn 18
            have z0 := free_at hn 18
            have b0 := HP.out.mid 18 (by omega) (by omega)
            have hn2 := heap_set (a := ⟨A, 18, none⟩) hn rfl (.int .i64 (p 18))
            have hf2 := (Fr.refl [A] wr).set ⟨A, 18, none⟩ (.inl (by simp)) (.int .i64 (p 18))
            have HN2 := hid1 hn2
            have HF2 := hid1 hf2
            have HX2 := hid1 (HX.out.next (by omega) (by omega) b0)
            obtain ⟨y0, hy0⟩ : ∃ y, p 18 = y := ⟨_, rfl⟩
            rw [hy0] at c0 b0 HN2 HF2 HX2
            have m0 : IntKind.i64.wrap y0 = y0 := IntWalk.i64_in _ (by omega)
            clear hn hs hn2 hf2 hy0
            go_wp2
            go_region
            go_wp2
            go_roundw
            case rel =>
              have h1 := HA1.out
              exact ⟨3, _, by omega, by go_num, HX2, HN2, hid1 (HF2.out.drew1.heap HS.out (fun hm => by have := List.mem_singleton.1 hm; omega)), hid1 (HF2.out.drew1.heap HZW.out (fun hm => by have := List.mem_singleton.1 hm; omega)), hid1 (Fr.below HB2.out HF2.out.drew1 (fun k hk => by have := List.mem_singleton.1 hk; omega) (Nat.le_of_lt (heap_lt HS.out)))⟩
            case measure => simp [intOf]
          · have hn := HN.out
            have hs := HS.out
            have c0 : wr.cell? ⟨B, 19, none⟩ = some (.int .u16 (p 19)) := cell_at hs 19
            have e0 : wr.cell? ⟨A, 19, none⟩ = some (.int .i64 (x 19)) := cell_at hn 19
            have z0 := free_at hn 19
            have b0 := HP.out.mid 19 (by omega) (by omega)
            have hn2 := heap_set (a := ⟨A, 19, none⟩) hn rfl (.int .i64 (p 19))
            have hf2 := (Fr.refl [A] wr).set ⟨A, 19, none⟩ (.inl (by simp)) (.int .i64 (p 19))
            have HN2 := hid1 hn2
            have HF2 := hid1 hf2
            have HX2 := hid1 (HX.out.next (by omega) (by omega) b0)
            obtain ⟨y0, hy0⟩ : ∃ y, p 19 = y := ⟨_, rfl⟩
            rw [hy0] at c0 b0 HN2 HF2 HX2
            have m0 : IntKind.i64.wrap y0 = y0 := IntWalk.i64_in _ (by omega)
            clear hn hs hn2 hf2 hy0
            go_wp2
            go_region
            go_wp2
            go_roundw
            case rel =>
              have h1 := HA1.out
              exact ⟨4, _, by omega, by go_num, HX2, HN2, hid1 (HF2.out.drew1.heap HS.out (fun hm => by have := List.mem_singleton.1 hm; omega)), hid1 (HF2.out.drew1.heap HZW.out (fun hm => by have := List.mem_singleton.1 hm; omega)), hid1 (Fr.below HB2.out HF2.out.drew1 (fun k hk => by have := List.mem_singleton.1 hk; omega) (Nat.le_of_lt (heap_lt HS.out)))⟩
            case measure => simp [intOf]
          · go_wp2
            go_roundw
            case rel => exact ⟨2, _, by omega, by go_num, hid1 HX.out.done, HN, HS, HZW, HB2⟩
            case measure => simp [intOf]
      · have v0 : x 4 = p 4 := (HX.out 4 (by omega)).2 (by decide) (by omega)
        have v1 : x 5 = p 5 := (HX.out 5 (by omega)).2 (by decide) (by omega)
        have e0 : wr.cell? ⟨A, 4, none⟩ = some (.int .i64 (p 4)) := by rw [cell_at hn]; show some (Value.int .i64 (x 4)) = _; rw [v0]
        have e1 : wr.cell? ⟨A, 5, none⟩ = some (.int .i64 (p 5)) := by rw [cell_at hn]; show some (Value.int .i64 (x 5)) = _; rw [v1]
        have z0 := free_at hn 4
        have z1 := free_at hn 5
        have b0 := HP.out.pt 4 (by omega)
        have b1 := HP.out.pt 5 (by omega)
        obtain ⟨y0, hy0⟩ : ∃ y, p 4 = y := ⟨_, rfl⟩
        obtain ⟨y1, hy1⟩ : ∃ y, p 5 = y := ⟨_, rfl⟩
        rw [hy0] at e0 b0
        rw [hy1] at e1 b1
        obtain ⟨d0, hd0, l0⟩ : ∃ d, y0 * kk = d ∧ -512 ≤ d ∧ d ≤ 508 := ⟨_, rfl, by rcases hk4 with rfl | rfl | rfl | rfl <;> omega⟩
        obtain ⟨d1, hd1, l1⟩ : ∃ d, y1 * kk = d ∧ -512 ≤ d ∧ d ≤ 508 := ⟨_, rfl, by rcases hk4 with rfl | rfl | rfl | rfl <;> omega⟩
        have m0 : IntKind.i64.wrap d0 = d0 := IntWalk.i64_in _ (by omega)
        have m1 : IntKind.i64.wrap d1 = d1 := IntWalk.i64_in _ (by omega)
        have m2 : IntKind.i64.wrap (d0 + 100) = d0 + 100 := IntWalk.i64_in _ (by omega)
        have m3 : IntKind.i64.wrap (d1 + 100) = d1 + 100 := IntWalk.i64_in _ (by omega)
        have hn6 := heap_set (a := ⟨A, 5, none⟩) (heap_set (a := ⟨A, 4, none⟩) hn rfl (.int .i64 (d0 + 100))) rfl (.int .i64 (d1 + 100))
        have hf6 := (((Fr.refl [A] wr).set ⟨A, 4, none⟩ (.inl (by simp)) (.int .i64 (d0 + 100))).set ⟨A, 5, none⟩ (.inl (by simp)) (.int .i64 (d1 + 100))).drew1
        have HN6 := hid1 hn6
        have HF6 := hid1 hf6
        clear v0 v1 hy0 hy1 hn hs hn6 hf6
        go_wp2
        go_region
        go_wp2
        obtain ⟨W6, hW6⟩ : ∃ W6, ((wr.setCell ⟨A, 4, none⟩ (.int .i64 (d0 + 100))).setCell ⟨A, 5, none⟩ (.int .i64 (d1 + 100))).drew = W6 := ⟨_, rfl⟩
        rw [hW6] at HF6 ⊢
        have hn7 : W6.heap[A]? = some (.cells (triRow (upd (upd x (2 * 2) (d0 + 100)) (2 * 2 + 1) (d1 + 100))) 41 (0, 0)) := by rw [← hW6]; exact HN6.out
        have h1 := HA1.out
        have hs7 := HF6.out.heap HS.out (fun hm => by have := List.mem_singleton.1 hm; omega)
        have hz7 := HF6.out.heap HZW.out (fun hm => by have := List.mem_singleton.1 hm; omega)
        have hb7 := Fr.below HB2.out HF6.out (fun k hk => by have := List.mem_singleton.1 hk; omega) (Nat.le_of_lt (heap_lt HS.out))
        have c2 : W6.cell? ⟨B, 8, none⟩ = some (.int .u16 (p 8)) := cell_at hs7 8
        have c3 : W6.cell? ⟨B, 11, none⟩ = some (.int .u16 (p 11)) := cell_at hs7 11
        have e2 : W6.cell? ⟨A, 8, none⟩ = some (.int .i64 (x 8)) := cell_at hn7 8
        have e3 : W6.cell? ⟨A, 11, none⟩ = some (.int .i64 (x 11)) := cell_at hn7 11
        have z2 := free_at hn7 8
        have z3 := free_at hn7 11
        have b2 := HP.out.mid 8 (by omega) (by omega)
        have b3 := HP.out.mid 11 (by omega) (by omega)
        obtain ⟨y2, hy2⟩ : ∃ y, p 8 = y := ⟨_, rfl⟩
        obtain ⟨y3, hy3⟩ : ∃ y, p 11 = y := ⟨_, rfl⟩
        rw [hy2] at c2 b2
        rw [hy3] at c3 b3
        obtain ⟨q, hq, lq⟩ : ∃ q, y3.tmod 1024 = q ∧ 0 ≤ q ∧ q ≤ 1023 := ⟨_, rfl, by rw [Int.tmod_eq_emod_of_nonneg (by omega)]; omega⟩
        have m4 : IntKind.i64.wrap y2 = y2 := IntWalk.i64_in _ (by omega)
        have m5 : IntKind.u16.wrap q = q := IntWalk.u16_in _ (by omega)
        have m6 : IntKind.i64.wrap q = q := IntWalk.i64_in _ (by omega)
        have m7 : IntKind.i64.wrap (1 + q) = 1 + q := IntWalk.i64_in _ (by omega)
        have hn8 := heap_set (a := ⟨A, 11, none⟩) (heap_set (a := ⟨A, 8, none⟩) hn7 rfl (.int .i64 y2)) rfl (.int .i64 (1 + q))
        have hf8 := (((Fr.refl [A] W6).set ⟨A, 8, none⟩ (.inl (by simp)) (.int .i64 y2)).set ⟨A, 11, none⟩ (.inl (by simp)) (.int .i64 (1 + q))).drew1
        have HN8 := hid1 hn8
        have HF8 := hid1 hf8
        have HS7 := hid1 hs7
        have HZ7 := hid1 hz7
        have HB7 := hid1 hb7
        have HX7 := hid1 (HX.out.start (by omega) (a := d0 + 100) (b := d1 + 100) (c := y2) (d := 1 + q) (by omega) (by omega) (by omega) (by omega))
        clear e0 e1 z0 z1 b0 b1 hy2 hy3 hW6 HN6 HF6 hn7 hs7 hz7 hb7 hn8 hf8 HX HN HS HZW HB2 m0 m1 m2 m3 hd0 hd1 l0 l1
        go_region
        go_wp2
        go_loopw [62] (fun k wr => ∃ (k' : Nat) (x : Nat → Int), k' ≤ 4 ∧ k = .int .i64 k' ∧ Hid (SmIn p 2 k' x) ∧ Hid (wr.heap[A]? = some (.cells (triRow x) 41 (0, 0))) ∧ Hid (wr.heap[B]? = some (.cells (smRow p) 31 (0, 0))) ∧ Hid (wr.heap[B + 1]? = some (.cells (triRow (fun _ => 0)) 41 (0, 0))) ∧ Hid (Below B wo wr)) (fun k _ => 4 - (intOf k).toNat)
        case atStart =>
          have h1 := HA1.out
          exact ⟨0, _, by omega, rfl, HX7, HN8, hid1 (HF8.out.heap HS7.out (fun hm => by have := List.mem_singleton.1 hm; omega)), hid1 (HF8.out.heap HZ7.out (fun hm => by have := List.mem_singleton.1 hm; omega)), hid1 (Fr.below HB7.out HF8.out (fun k hk => by have := List.mem_singleton.1 hk; omega) (Nat.le_of_lt (heap_lt HS7.out)))⟩
        case round =>
          clear HX7 HN8 HF8 HS7 HZ7 HB7 c2 c3 e2 e3 z2 z3 b2 b3 hq lq m4 m5 m6 m7
          obtain ⟨k, x, hk, rfl, HX, HN, HS, HZW, HB2⟩ := hrel
          rcases (show k = 0 ∨ k = 1 ∨ k = 2 ∨ k = 3 ∨ k = 4 by omega) with rfl | rfl | rfl | rfl | rfl
          · have hn := HN.out
            have hs := HS.out
            have c0 : wr.cell? ⟨B, 20, none⟩ = some (.int .u16 (p 20)) := cell_at hs 20
            have e0 : wr.cell? ⟨A, 20, none⟩ = some (.int .i64 (x 20)) := cell_at hn 20
            have z0 := free_at hn 20
            have b0 := HP.out.mid 20 (by omega) (by omega)
            have hn2 := heap_set (a := ⟨A, 20, none⟩) hn rfl (.int .i64 (p 20))
            have hf2 := (Fr.refl [A] wr).set ⟨A, 20, none⟩ (.inl (by simp)) (.int .i64 (p 20))
            have HN2 := hid1 hn2
            have HF2 := hid1 hf2
            have HX2 := hid1 (HX.out.next (by omega) (by omega) b0)
            obtain ⟨y0, hy0⟩ : ∃ y, p 20 = y := ⟨_, rfl⟩
            rw [hy0] at c0 b0 HN2 HF2 HX2
            have m0 : IntKind.i64.wrap y0 = y0 := IntWalk.i64_in _ (by omega)
            clear hn hs hn2 hf2 hy0
            go_wp2
            go_region
            go_wp2
            go_roundw
            case rel =>
              have h1 := HA1.out
              exact ⟨1, _, by omega, by go_num, HX2, HN2, hid1 (HF2.out.drew1.heap HS.out (fun hm => by have := List.mem_singleton.1 hm; omega)), hid1 (HF2.out.drew1.heap HZW.out (fun hm => by have := List.mem_singleton.1 hm; omega)), hid1 (Fr.below HB2.out HF2.out.drew1 (fun k hk => by have := List.mem_singleton.1 hk; omega) (Nat.le_of_lt (heap_lt HS.out)))⟩
            case measure => simp [intOf]
          · have hn := HN.out
            have hs := HS.out
            have c0 : wr.cell? ⟨B, 21, none⟩ = some (.int .u16 (p 21)) := cell_at hs 21
            have e0 : wr.cell? ⟨A, 21, none⟩ = some (.int .i64 (x 21)) := cell_at hn 21
            have z0 := free_at hn 21
            have b0 := HP.out.mid 21 (by omega) (by omega)
            have hn2 := heap_set (a := ⟨A, 21, none⟩) hn rfl (.int .i64 (p 21))
            have hf2 := (Fr.refl [A] wr).set ⟨A, 21, none⟩ (.inl (by simp)) (.int .i64 (p 21))
            have HN2 := hid1 hn2
            have HF2 := hid1 hf2
            have HX2 := hid1 (HX.out.next (by omega) (by omega) b0)
            obtain ⟨y0, hy0⟩ : ∃ y, p 21 = y := ⟨_, rfl⟩
            rw [hy0] at c0 b0 HN2 HF2 HX2
            have m0 : IntKind.i64.wrap y0 = y0 := IntWalk.i64_in _ (by omega)
            clear hn hs hn2 hf2 hy0
            go_wp2
            go_region
            go_wp2
            go_roundw
            case rel =>
              have h1 := HA1.out
              exact ⟨2, _, by omega, by go_num, HX2, HN2, hid1 (HF2.out.drew1.heap HS.out (fun hm => by have := List.mem_singleton.1 hm; omega)), hid1 (HF2.out.drew1.heap HZW.out (fun hm => by have := List.mem_singleton.1 hm; omega)), hid1 (Fr.below HB2.out HF2.out.drew1 (fun k hk => by have := List.mem_singleton.1 hk; omega) (Nat.le_of_lt (heap_lt HS.out)))⟩
            case measure => simp [intOf]
          · have hn := HN.out
            have hs := HS.out
            have c0 : wr.cell? ⟨B, 22, none⟩ = some (.int .u16 (p 22)) := cell_at hs 22
            have e0 : wr.cell? ⟨A, 22, none⟩ = some (.int .i64 (x 22)) := cell_at hn 22
            have z0 := free_at hn 22
            have b0 := HP.out.mid 22 (by omega) (by omega)
            have hn2 := heap_set (a := ⟨A, 22, none⟩) hn rfl (.int .i64 (p 22))
            have hf2 := (Fr.refl [A] wr).set ⟨A, 22, none⟩ (.inl (by simp)) (.int .i64 (p 22))
            have HN2 := hid1 hn2
            have HF2 := hid1 hf2
            have HX2 := hid1 (HX.out.next (by omega) (by omega) b0)
            obtain ⟨y0, hy0⟩ : ∃ y, p 22 = y := ⟨_, rfl⟩
            rw [hy0] at c0 b0 HN2 HF2 HX2
            have m0 : IntKind.i64.wrap y0 = y0 := IntWalk.i64_in _ (by omega)
            clear hn hs hn2 hf2 hy0
            go_wp2
            go_region
            go_wp2
            go_roundw
            case rel =>
              have h1 := HA1.out
              exact ⟨3, _, by omega, by go_num, HX2, HN2, hid1 (HF2.out.drew1.heap HS.out (fun hm => by have := List.mem_singleton.1 hm; omega)), hid1 (HF2.out.drew1.heap HZW.out (fun hm => by have := List.mem_singleton.1 hm; omega)), hid1 (Fr.below HB2.out HF2.out.drew1 (fun k hk => by have := List.mem_singleton.1 hk; omega) (Nat.le_of_lt (heap_lt HS.out)))⟩
            case measure => simp [intOf]
          · have hn := HN.out
            have hs := HS.out
            have c0 : wr.cell? ⟨B, 23, none⟩ = some (.int .u16 (p 23)) := cell_at hs 23
            have e0 : wr.cell? ⟨A, 23, none⟩ = some (.int .i64 (x 23)) := cell_at hn 23
            have z0 := free_at hn 23
            have b0 := HP.out.mid 23 (by omega) (by omega)
            have hn2 := heap_set (a := ⟨A, 23, none⟩) hn rfl (.int .i64 (p 23))
            have hf2 := (Fr.refl [A] wr).set ⟨A, 23, none⟩ (.inl (by simp)) (.int .i64 (p 23))
            have HN2 := hid1 hn2
            have HF2 := hid1 hf2
            have HX2 := hid1 (HX.out.next (by omega) (by omega) b0)
            obtain ⟨y0, hy0⟩ : ∃ y, p 23 = y := ⟨_, rfl⟩
            rw [hy0] at c0 b0 HN2 HF2 HX2
            have m0 : IntKind.i64.wrap y0 = y0 := IntWalk.i64_in _ (by omega)
            clear hn hs hn2 hf2 hy0
            go_wp2
            go_region
            go_wp2
            go_roundw
            case rel =>
              have h1 := HA1.out
              exact ⟨4, _, by omega, by go_num, HX2, HN2, hid1 (HF2.out.drew1.heap HS.out (fun hm => by have := List.mem_singleton.1 hm; omega)), hid1 (HF2.out.drew1.heap HZW.out (fun hm => by have := List.mem_singleton.1 hm; omega)), hid1 (Fr.below HB2.out HF2.out.drew1 (fun k hk => by have := List.mem_singleton.1 hk; omega) (Nat.le_of_lt (heap_lt HS.out)))⟩
            case measure => simp [intOf]
          · go_wp2
            go_roundw
            case rel => exact ⟨3, _, by omega, by go_num, hid1 HX.out.done, HN, HS, HZW, HB2⟩
            case measure => simp [intOf]
    · obtain rfl : i = 3 := by omega
      have HALL := hid1 HX.out.all
      have s0 := HALL.out 0 (by omega)
      have s1 := HALL.out 1 (by omega)
      have s2 := HALL.out 2 (by omega)
      have s3 := HALL.out 3 (by omega)
      have s4 := HALL.out 4 (by omega)
      have s5 := HALL.out 5 (by omega)
      simp [smN] at s0 s1 s2 s3 s4 s5
      have hn := HN.out
      have c0 : wr.cell? ⟨A, 0, none⟩ = some (.int .i64 (x 0)) := cell_at hn 0
      have c1 : wr.cell? ⟨A, 1, none⟩ = some (.int .i64 (x 1)) := cell_at hn 1
      have c2 : wr.cell? ⟨A, 2, none⟩ = some (.int .i64 (x 2)) := cell_at hn 2
      have c3 : wr.cell? ⟨A, 3, none⟩ = some (.int .i64 (x 3)) := cell_at hn 3
      have c4 : wr.cell? ⟨A, 4, none⟩ = some (.int .i64 (x 4)) := cell_at hn 4
      have c5 : wr.cell? ⟨A, 5, none⟩ = some (.int .i64 (x 5)) := cell_at hn 5
      have HAR := hid1 (fun w => area_calls (a := x 0) (b := x 1) (c := x 2) (d := x 3) (e := x 4) (f := x 5) (by unfold Close; omega) (by unfold Close; omega) (by unfold Close; omega) (by unfold Close; omega) (by unfold Close; omega) (by unfold Close; omega) w)
      obtain ⟨ar, har⟩ : ∃ ar, side (x 0) (x 1) (x 2) (x 3) (x 4) (x 5) = ar := ⟨_, rfl⟩
      have HTA := hid1 (show triArea x = ar from har)
      rw [har] at HAR
      clear hn har s0 s1 s2 s3 s4 s5
      by_cases hneg : ar < 0
      · go_wp2_with (first
          | (go_at_call 27; refine (HAR.out _).mono ?_; rintro e w5 ⟨rfl, hb2⟩; have hn5 := (Fr.ofBelow hb2).heap HN.out (by simp); have HN5 := hid1 hn5; have HZ5 := hid1 ((Fr.ofBelow hb2).heap HZW.out (by simp)); have HB5 := hid1 (HB2.out.trans (hb2.mono (Nat.le_of_lt (heap_lt HS.out)))); have HL5 := hid1 (show B ≤ w5.heap.size from Nat.le_trans (Nat.le_of_lt (heap_lt HS.out)) hb2.size); clear hb2
             have d0 : w5.cell? ⟨A, 0, none⟩ = some (.int .i64 (x 0)) := cell_at hn5 0
             have d1 : w5.cell? ⟨A, 1, none⟩ = some (.int .i64 (x 1)) := cell_at hn5 1
             have d2 : w5.cell? ⟨A, 2, none⟩ = some (.int .i64 (x 2)) := cell_at hn5 2
             have d3 : w5.cell? ⟨A, 3, none⟩ = some (.int .i64 (x 3)) := cell_at hn5 3
             have d4 : w5.cell? ⟨A, 4, none⟩ = some (.int .i64 (x 4)) := cell_at hn5 4
             have d5 : w5.cell? ⟨A, 5, none⟩ = some (.int .i64 (x 5)) := cell_at hn5 5
             clear hn5)
          | (go_at_call 9; refine (turned_calls _ _ _ _ _ _ _).mono ?_; rintro e w6 ⟨rfl, hb2⟩; have hn6 := (Fr.ofBelow hb2).heap HN5.out (by simp); have HN6 := hid1 hn6; have HZ6 := hid1 ((Fr.ofBelow hb2).heap HZ5.out (by simp)); have HB6 := hid1 (HB5.out.trans (hb2.mono HL5.out)); have HL6 := hid1 (Nat.le_trans HL5.out hb2.size); clear hb2
             have g0 : w6.cell? ⟨A, 0, none⟩ = some (.int .i64 (x 0)) := cell_at hn6 0
             have g1 : w6.cell? ⟨A, 1, none⟩ = some (.int .i64 (x 1)) := cell_at hn6 1
             have g2 : w6.cell? ⟨A, 2, none⟩ = some (.int .i64 (x 2)) := cell_at hn6 2
             have g3 : w6.cell? ⟨A, 3, none⟩ = some (.int .i64 (x 3)) := cell_at hn6 3
             have g4 : w6.cell? ⟨A, 4, none⟩ = some (.int .i64 (x 4)) := cell_at hn6 4
             have g5 : w6.cell? ⟨A, 5, none⟩ = some (.int .i64 (x 5)) := cell_at hn6 5
             have z0 := free_at hn6 0
             have z1 := free_at hn6 1
             have z2 := free_at hn6 2
             have z3 := free_at hn6 3
             have z4 := free_at hn6 4
             have z5 := free_at hn6 5
             clear hn6))
        have hn2 := (heap_set (a := ⟨A, 5, none⟩) (heap_set (a := ⟨A, 4, none⟩) (heap_set (a := ⟨A, 3, none⟩) (heap_set (a := ⟨A, 2, none⟩) (heap_set (a := ⟨A, 1, none⟩) (heap_set (a := ⟨A, 0, none⟩) HN6.out rfl (.int .i64 (x 0))) rfl (.int .i64 (x 1))) rfl (.int .i64 (x 4))) rfl (.int .i64 (x 5))) rfl (.int .i64 (x 2))) rfl (.int .i64 (x 3)))
        have hf2 := (((((((Fr.refl [A] w6).set ⟨A, 0, none⟩ (.inl (by simp)) (.int .i64 (x 0))).set ⟨A, 1, none⟩ (.inl (by simp)) (.int .i64 (x 1))).set ⟨A, 2, none⟩ (.inl (by simp)) (.int .i64 (x 4))).set ⟨A, 3, none⟩ (.inl (by simp)) (.int .i64 (x 5))).set ⟨A, 4, none⟩ (.inl (by simp)) (.int .i64 (x 2))).set ⟨A, 5, none⟩ (.inl (by simp)) (.int .i64 (x 3)))
        have h1 := HA1.out
        obtain ⟨y, hy⟩ : ∃ y : Nat → Int, y = upd (upd (upd (upd x 2 (x 4)) 3 (x 5)) 4 (x 2)) 5 (x 3) := ⟨_, rfl⟩
        obtain ⟨w2, hw2⟩ : ∃ w2, ((((((w6.setCell ⟨A, 0, none⟩ (.int .i64 (x 0))).setCell ⟨A, 1, none⟩ (.int .i64 (x 1))).setCell ⟨A, 2, none⟩ (.int .i64 (x 4))).setCell ⟨A, 3, none⟩ (.int .i64 (x 5))).setCell ⟨A, 4, none⟩ (.int .i64 (x 2))).setCell ⟨A, 5, none⟩ (.int .i64 (x 3))) = w2 := ⟨_, rfl⟩
        rw [hw2] at hn2 hf2 ⊢
        have HN2 : Hid (w2.heap[A]? = some (.cells (triRow y) 41 (0, 0))) := by rw [hy]; exact hn2
        have HZ2 := hid1 (hf2.heap HZ6.out (fun hm => by have := List.mem_singleton.1 hm; omega))
        have HBB := hid1 (Fr.below HB6.out hf2 (fun k hk => by have := List.mem_singleton.1 hk; omega) HL6.out)
        have HL2 := hid1 (Nat.le_trans HL6.out hf2.size)
        have q0 := HALL.out 0 (by omega)
        have q1 := HALL.out 1 (by omega)
        have q2 := HALL.out 2 (by omega)
        have q3 := HALL.out 3 (by omega)
        have q4 := HALL.out 4 (by omega)
        have q5 := HALL.out 5 (by omega)
        have hall : ∀ n, n < 24 → smN n (y n) := fun n hn => by
          rw [hy]
          by_cases e5 : n = 5
          · subst e5; exact q3
          by_cases e4 : n = 4
          · subst e4; exact q2
          by_cases e3 : n = 3
          · subst e3; exact q5
          by_cases e2 : n = 2
          · subst e2; exact q4
          unfold upd
          rw [if_neg e5, if_neg e4, if_neg e3, if_neg e2]
          exact HALL.out n hn
        have s0 := hall 0 (by omega)
        have s1 := hall 1 (by omega)
        have s2 := hall 2 (by omega)
        have s3 := hall 3 (by omega)
        have s4 := hall 4 (by omega)
        have s5 := hall 5 (by omega)
        simp [smN] at s0 s1 s2 s3 s4 s5
        have HAR := hid1 (fun w => area_calls (a := y 0) (b := y 1) (c := y 2) (d := y 3) (e := y 4) (f := y 5) (by unfold Close; omega) (by unfold Close; omega) (by unfold Close; omega) (by unfold Close; omega) (by unfold Close; omega) (by unfold Close; omega) w)
        obtain ⟨ar, har⟩ : ∃ ar, side (y 0) (y 1) (y 2) (y 3) (y 4) (y 5) = ar := ⟨_, rfl⟩
        have HTA := hid1 (show triArea y = ar from har)
        rw [har] at HAR
        have HALL := hid1 hall
        clear hn2 hf2 h1 hy hw2 q0 q1 q2 q3 q4 q5 s0 s1 s2 s3 s4 s5 hall har d0 d1 d2 d3 d4 d5 g0 g1 g2 g3 g4 g5 z0 z1 z2 z3 z4 z5 hneg HN HS HZW HB2 HN5 HZ5 HB5 HL5 HN6 HZ6 HB6 HL6 c0 c1 c2 c3 c4 c5
        have hn := HN2.out
        have c0 : w2.cell? ⟨A, 0, none⟩ = some (.int .i64 (y 0)) := cell_at hn 0
        have c1 : w2.cell? ⟨A, 1, none⟩ = some (.int .i64 (y 1)) := cell_at hn 1
        have c2 : w2.cell? ⟨A, 2, none⟩ = some (.int .i64 (y 2)) := cell_at hn 2
        have c3 : w2.cell? ⟨A, 3, none⟩ = some (.int .i64 (y 3)) := cell_at hn 3
        have c4 : w2.cell? ⟨A, 4, none⟩ = some (.int .i64 (y 4)) := cell_at hn 4
        have c5 : w2.cell? ⟨A, 5, none⟩ = some (.int .i64 (y 5)) := cell_at hn 5
        have HND := hid1 (show w2.drew.heap[A]? = some (.cells (triRow y) 41 (0, 0)) from hn)
        clear hn c0 c1 c2 c3 c4 c5
        refine wp_region_held (S := fun w' => w'.heap[A]? = some (.cells (triRow y) 41 (0, 0))) (by kernel_rfl) ?_
        change wpAnyH _ _ _ _ _ 7 (Array.replicate 7 false) _ w2.drew
        refine held_load_row (i := 0) rfl rfl (some 87) rfl 41 (.tmp 4) rfl (by kernel_rfl) (by kernel_rfl) (by kernel_rfl) (fun _ _ _ _ h => h) A rfl 41 (triRow y) (0, 0) _ (fun _ h => h) Try.underlying41 rfl (Try.infoTri _) HND.out ?_
        simp only [Act.put, List.setIfInBounds_toArray, List.set_cons_succ, List.set_cons_zero]
        refine held_take (i := 1) rfl rfl (some 88) rfl (.pointer (some ⟨A, 0, none⟩)) (by kernel_rfl) (by kernel_rfl) (by kernel_rfl) (fun _ _ _ _ h => h) HND.out (fun w' hw => by go_simp) ?_
        simp only [Act.put, List.setIfInBounds_toArray, List.set_cons_succ, List.set_cons_zero]
        refine held_take (i := 2) rfl rfl (some 89) rfl (.agg #[.int .i64 (y 0), .int .i64 (y 1), .int .i64 (y 2), .int .i64 (y 3), .int .i64 (y 4), .int .i64 (y 5)]) (by kernel_rfl) (by kernel_rfl) (by kernel_rfl) (fun _ _ _ _ h => h) HND.out (fun w' hw => by
          have c0 : w'.cell? ⟨A, 0, none⟩ = some (.int .i64 (y 0)) := cell_at hw 0
          have c1 : w'.cell? ⟨A, 1, none⟩ = some (.int .i64 (y 1)) := cell_at hw 1
          have c2 : w'.cell? ⟨A, 2, none⟩ = some (.int .i64 (y 2)) := cell_at hw 2
          have c3 : w'.cell? ⟨A, 3, none⟩ = some (.int .i64 (y 3)) := cell_at hw 3
          have c4 : w'.cell? ⟨A, 4, none⟩ = some (.int .i64 (y 4)) := cell_at hw 4
          have c5 : w'.cell? ⟨A, 5, none⟩ = some (.int .i64 (y 5)) := cell_at hw 5
          go_simp) ?_
        simp only [Act.put, List.setIfInBounds_toArray, List.set_cons_succ, List.set_cons_zero]
        refine held_call (i := 3) rfl rfl (some 90) rfl (by kernel_rfl) 27 #[.agg #[.int .i64 (y 0), .int .i64 (y 1), .int .i64 (y 2), .int .i64 (y 3), .int .i64 (y 4), .int .i64 (y 5)]] (by go_simp) (.int .i64 ar) (HAR.out _) (fun w3 hb3 => ⟨(Fr.ofBelow hb3).heap HND.out (by simp), ?_⟩)
        have HN3 := hid1 ((Fr.ofBelow hb3).heap HND.out (by simp))
        have HZ3 := hid1 ((Fr.ofBelow hb3).heap (HZ2.out : w2.drew.heap[B + 1]? = _) (by simp))
        have HBQ := hid1 ((HBB.out.trans (below_draws B w2 1)).trans (hb3.mono HL2.out))
        have HLQ := hid1 (Nat.le_trans HL2.out hb3.size)
        clear hb3
        simp only [Act.put, List.setIfInBounds_toArray, List.set_cons_succ, List.set_cons_zero]
        refine held_take (i := 4) rfl rfl (some 91) rfl (.bool (decide (0 < ar))) (by kernel_rfl) (by kernel_rfl) (by kernel_rfl) (fun _ _ _ _ h => h) HN3.out (fun w' hw => by go_simp) ?_
        simp only [Act.put, List.setIfInBounds_toArray, List.set_cons_succ, List.set_cons_zero]
        refine held_store_row (i := 5) rfl rfl none rfl 41 (.tmp 2) (.tmp 87) rfl (by kernel_rfl) (B + 1) (triRow y) rfl rfl _ _ HZ3.out (Try.infoTri _) rfl (triRow_one _) ((fr_row w3 (B + 1) (triRow y)).heap HN3.out (fun hm => by have := List.mem_singleton.1 hm; have := HA1.out; omega)) ?_
        simp only [Act.put, List.setIfInBounds_toArray, List.set_cons_succ, List.set_cons_zero]
        refine held_take (i := 6) rfl rfl (some 3) rfl (.bool (decide (0 < ar))) (by kernel_rfl) (by kernel_rfl) (by kernel_rfl) (fun _ _ _ _ h => h) ((fr_row w3 (B + 1) (triRow y)).heap HN3.out (fun hm => by have := List.mem_singleton.1 hm; have := HA1.out; omega)) (fun w' hw => by go_simp) ?_
        simp only [Act.put, List.setIfInBounds_toArray, List.set_cons_succ, List.set_cons_zero]
        refine wpAnyH_done (by kernel_rfl) ?_ _
        go_wp2
        refine bodyPost_ret (v := .tuple #[.agg (triRow y), .bool (decide (0 < ar))]) (results_row_tmp rfl _ _ (B + 1) _ (triRow y) _ _ _ rfl rfl (setRow_heap _ _ _ _ _ _ HZ3.out) Try.underlying41 rfl (Try.infoTri _)) rfl ⟨y, decide (0 < ar), rfl, HALL.out, by rw [HTA.out], ?_⟩
        rw [HBE.out]
        exact Fr.below HBQ.out (fr_row _ _ _) (fun k hk => by have := List.mem_singleton.1 hk; omega) HLQ.out
      · go_wp2_with (go_at_call 27; refine (HAR.out _).mono ?_; rintro e w2 ⟨rfl, hb2⟩; have HN2 := hid1 ((Fr.ofBelow hb2).heap HN.out (by simp)); have HZ2 := hid1 ((Fr.ofBelow hb2).heap HZW.out (by simp)); have HBB := hid1 (HB2.out.trans (hb2.mono (Nat.le_of_lt (heap_lt HS.out)))); have HL2 := hid1 (show B ≤ w2.heap.size from Nat.le_trans (Nat.le_of_lt (heap_lt HS.out)) hb2.size); clear hb2)
        clear HN HS HZW HB2 c0 c1 c2 c3 c4 c5
        obtain ⟨y, hy⟩ : ∃ y : Nat → Int, y = x := ⟨_, rfl⟩
        rw [← hy] at HALL HTA HAR HN2
        clear hy
        have hn := HN2.out
        have c0 : w2.cell? ⟨A, 0, none⟩ = some (.int .i64 (y 0)) := cell_at hn 0
        have c1 : w2.cell? ⟨A, 1, none⟩ = some (.int .i64 (y 1)) := cell_at hn 1
        have c2 : w2.cell? ⟨A, 2, none⟩ = some (.int .i64 (y 2)) := cell_at hn 2
        have c3 : w2.cell? ⟨A, 3, none⟩ = some (.int .i64 (y 3)) := cell_at hn 3
        have c4 : w2.cell? ⟨A, 4, none⟩ = some (.int .i64 (y 4)) := cell_at hn 4
        have c5 : w2.cell? ⟨A, 5, none⟩ = some (.int .i64 (y 5)) := cell_at hn 5
        have HND := hid1 (show w2.drew.heap[A]? = some (.cells (triRow y) 41 (0, 0)) from hn)
        clear hn c0 c1 c2 c3 c4 c5
        refine wp_region_held (S := fun w' => w'.heap[A]? = some (.cells (triRow y) 41 (0, 0))) (by kernel_rfl) ?_
        change wpAnyH _ _ _ _ _ 7 (Array.replicate 7 false) _ w2.drew
        refine held_load_row (i := 0) rfl rfl (some 87) rfl 41 (.tmp 4) rfl (by kernel_rfl) (by kernel_rfl) (by kernel_rfl) (fun _ _ _ _ h => h) A rfl 41 (triRow y) (0, 0) _ (fun _ h => h) Try.underlying41 rfl (Try.infoTri _) HND.out ?_
        simp only [Act.put, List.setIfInBounds_toArray, List.set_cons_succ, List.set_cons_zero]
        refine held_take (i := 1) rfl rfl (some 88) rfl (.pointer (some ⟨A, 0, none⟩)) (by kernel_rfl) (by kernel_rfl) (by kernel_rfl) (fun _ _ _ _ h => h) HND.out (fun w' hw => by go_simp) ?_
        simp only [Act.put, List.setIfInBounds_toArray, List.set_cons_succ, List.set_cons_zero]
        refine held_take (i := 2) rfl rfl (some 89) rfl (.agg #[.int .i64 (y 0), .int .i64 (y 1), .int .i64 (y 2), .int .i64 (y 3), .int .i64 (y 4), .int .i64 (y 5)]) (by kernel_rfl) (by kernel_rfl) (by kernel_rfl) (fun _ _ _ _ h => h) HND.out (fun w' hw => by
          have c0 : w'.cell? ⟨A, 0, none⟩ = some (.int .i64 (y 0)) := cell_at hw 0
          have c1 : w'.cell? ⟨A, 1, none⟩ = some (.int .i64 (y 1)) := cell_at hw 1
          have c2 : w'.cell? ⟨A, 2, none⟩ = some (.int .i64 (y 2)) := cell_at hw 2
          have c3 : w'.cell? ⟨A, 3, none⟩ = some (.int .i64 (y 3)) := cell_at hw 3
          have c4 : w'.cell? ⟨A, 4, none⟩ = some (.int .i64 (y 4)) := cell_at hw 4
          have c5 : w'.cell? ⟨A, 5, none⟩ = some (.int .i64 (y 5)) := cell_at hw 5
          go_simp) ?_
        simp only [Act.put, List.setIfInBounds_toArray, List.set_cons_succ, List.set_cons_zero]
        refine held_call (i := 3) rfl rfl (some 90) rfl (by kernel_rfl) 27 #[.agg #[.int .i64 (y 0), .int .i64 (y 1), .int .i64 (y 2), .int .i64 (y 3), .int .i64 (y 4), .int .i64 (y 5)]] (by go_simp) (.int .i64 ar) (HAR.out _) (fun w3 hb3 => ⟨(Fr.ofBelow hb3).heap HND.out (by simp), ?_⟩)
        have HN3 := hid1 ((Fr.ofBelow hb3).heap HND.out (by simp))
        have HZ3 := hid1 ((Fr.ofBelow hb3).heap (HZ2.out : w2.drew.heap[B + 1]? = _) (by simp))
        have HBQ := hid1 ((HBB.out.trans (below_draws B w2 1)).trans (hb3.mono HL2.out))
        have HLQ := hid1 (Nat.le_trans HL2.out hb3.size)
        clear hb3
        simp only [Act.put, List.setIfInBounds_toArray, List.set_cons_succ, List.set_cons_zero]
        refine held_take (i := 4) rfl rfl (some 91) rfl (.bool (decide (0 < ar))) (by kernel_rfl) (by kernel_rfl) (by kernel_rfl) (fun _ _ _ _ h => h) HN3.out (fun w' hw => by go_simp) ?_
        simp only [Act.put, List.setIfInBounds_toArray, List.set_cons_succ, List.set_cons_zero]
        refine held_store_row (i := 5) rfl rfl none rfl 41 (.tmp 2) (.tmp 87) rfl (by kernel_rfl) (B + 1) (triRow y) rfl rfl _ _ HZ3.out (Try.infoTri _) rfl (triRow_one _) ((fr_row w3 (B + 1) (triRow y)).heap HN3.out (fun hm => by have := List.mem_singleton.1 hm; have := HA1.out; omega)) ?_
        simp only [Act.put, List.setIfInBounds_toArray, List.set_cons_succ, List.set_cons_zero]
        refine held_take (i := 6) rfl rfl (some 3) rfl (.bool (decide (0 < ar))) (by kernel_rfl) (by kernel_rfl) (by kernel_rfl) (fun _ _ _ _ h => h) ((fr_row w3 (B + 1) (triRow y)).heap HN3.out (fun hm => by have := List.mem_singleton.1 hm; have := HA1.out; omega)) (fun w' hw => by go_simp) ?_
        simp only [Act.put, List.setIfInBounds_toArray, List.set_cons_succ, List.set_cons_zero]
        refine wpAnyH_done (by kernel_rfl) ?_ _
        go_wp2
        refine bodyPost_ret (v := .tuple #[.agg (triRow y), .bool (decide (0 < ar))]) (results_row_tmp rfl _ _ (B + 1) _ (triRow y) _ _ _ rfl rfl (setRow_heap _ _ _ _ _ _ HZ3.out) Try.underlying41 rfl (Try.infoTri _)) rfl ⟨y, decide (0 < ar), rfl, HALL.out, by rw [HTA.out], ?_⟩
        rw [HBE.out]
        exact Fr.below HBQ.out (fr_row _ _ _) (fun k hk => by have := List.mem_singleton.1 hk; omega) HLQ.out
end Go.Proofs.Ytmholpploaecgaa
