/-
  The device's Take where a bend is planned: exactly what comes of it; the law's own bend, and its among.
-/
import Derived.Test.YtakobldhjndeiaaDevBent
import Derived.Test.YtakobldhjndeiaaCrcPut
import Derived.Test.YtakobldhjndeiaaBend
namespace Go.Proofs.Ytakobldhjndeiaa
open Go.RowKit

theorem benti_one {X Y Z : List UInt8} {f : Int} {m : Crc.B32} {k : Nat} (h : BentI X Y f m k) (h' : BentI X Z f m k) : Y = Z :=
  bits_same (by rw [h.1, h'.1]) (fun i hi => by rw [h'.1] at hi; rw [h.2 i hi, h'.2 i hi])
set_option maxRecDepth 10000 in
set_option maxHeartbeats 1000000 in
/-- A take that finds bits changed. -/
theorem dtake_exact {w : World} {g mb bb : Nat} {v1 v2 : Value} {V : List (Int × Value)} {d : Dev} (h : Dvx w g mb bb v1 v2 V d) {z : Int} {bs : List UInt8} (hz : (z, bs) ∈ d.L) (wz : -9223372036854775808 ≤ z ∧ z < 9223372036854775808)
    (htk : d.takes < 1000000) (hfa : (d.takes : Int) ∉ d.fa) {f : Int} {m : Crc.B32} (wf : -9223372036854775808 ≤ f ∧ f < 9223372036854775808) (hbe : ((d.takes : Int), Value.agg #[.int .i64 f, .int .u32 (m.toNat : Int)]) ∈ d.be) :
    Calls Try.prog 31 #[.pointer (some ⟨g, 0, none⟩), .int .i64 z] w fun e w' => ∃ Y, BentI (bs ++ Crc.be (Crc.sum bs)) Y f m 32 ∧ ((rightB Y = false ∧ e = .returned (.tuple #[.slice none 0 0, .int .i64 10])) ∨ (rightB Y = true ∧ ∃ v, e = .returned (.tuple #[v, .int .i64 0]) ∧ OwnB w' w.heap.size v bs)) ∧ Dvx w' g mb bb v1 v2 (V.filter (fun p => !(p.1 == z))) (d.took z) ∧ Fr [g, mb] w w' := by
  have c0 := cell_at h.top 0
  obtain ⟨b, c, hl, hX, h64, hB⟩ := dlook_some h hz wz
  obtain ⟨w1, e1, hm1, f1⟩ := h.map.drop (P := Try.prog) Try.underlying66 Try.underlying3 (z := z) (WalkArith.wf_i64 (by omega)) 0
  have ff : Fr [g, mb] w w1 := f1.mono (fun k hk => .inl (by simp at hk; simp [hk]))
  have top1 := f1.heap h.top (by have := h.apart; simp; omega)
  have c5 := cell_at top1 5
  have g5 := free_at top1 5
  obtain ⟨a2, n2, k2, rfl, s2, o2⟩ := h.fail
  have ff2 : Fr [g, mb] w (w1.setCell ⟨g, 5, none⟩ (.int .i64 ((d.takes : Int) + 1))) := ff.set _ (.inl (by simp)) _
  have top2 : (w1.setCell ⟨g, 5, none⟩ (.int .i64 ((d.takes : Int) + 1))).heap[g]? = some (.cells #[.map (some mb), .int .i64 d.room, .int .i64 d.next, .int .i64 d.most, .int .i64 d.puts, .int .i64 ((d.takes : Int) + 1), v1, .slice a2 n2 k2, .map (some bb)] 68 (0, 0)) := heap_set (a := ⟨g, 5, none⟩) top1 rfl (.int .i64 ((d.takes : Int) + 1))
  have d5 := cell_at top2 5
  have d7 := cell_at top2 7
  have d8 := cell_at top2 8
  have hI : Ints (w1.setCell ⟨g, 5, none⟩ (.int .i64 ((d.takes : Int) + 1))) a2 n2 k2 d.fa := Sl.fr2 s2 ff2 o2
  have hd : decide ((d.takes : Int) ∈ d.fa) = false := by simp [hfa]
  have q0 : IntKind.i64.wrap (d.takes : Int) = d.takes := IntWalk.i64_in _ (by omega)
  have q1 : IntKind.i64.wrap ((d.takes : Int) + 1) = (d.takes : Int) + 1 := IntWalk.i64_in _ (by omega)
  have HX := hid hX
  have H64 := hid h64
  have HH := hid h
  have HF2 := hid ff2
  have HT2 := hid top2
  have HM1 := hid hm1
  have HB := hid hB
  clear hX h64 h ff ff2 top1 top2 hm1 f1 hB s2 o2 hfa hz
  go_enter Try.func31, Try.ntmps31
  go_upto_region 8 with (fail)
  obtain ⟨w2, hw2⟩ : ∃ w2, w1.setCell ⟨g, 5, none⟩ (.int .i64 ((d.takes : Int) + 1)) = w2 := ⟨_, rfl⟩
  rw [hw2]
  rw [hw2] at hI d5 d7 d8 HF2 HT2
  have HW2 := hid hw2
  clear hw2 c0 hl e1 c5 g5
  go_region_held (fun w' => w'.cell? ⟨g, 5, none⟩ = some (.int .i64 ((d.takes : Int) + 1)) ∧ w'.cell? ⟨g, 7, none⟩ = some (.slice a2 n2 k2)) (exact ⟨d5, d7⟩) (first | (go_at_call 33; refine (damong_calls (Sl.drew hI) _).mono ?_; rintro e w3 ⟨rfl, rfl⟩))
  go_upto_region 10 with (fail)
  have hbd : DictAt w2 bb d.be := HH.out.bends.fr HF2.out (by have := HH.out.apart; simp; omega)
  have top3 := heap_keep HT2.out (.cells #[.int .i64 0, .int .u32 0] 49)
  have f5 := cell_at top3 5
  have f8 := cell_at top3 8
  have hl1 : (Instr.lookup 32 (.map (some bb)) (.int .i64 d.takes) true).run Try.prog w2.drew.drew = .ok (.tuple #[.agg #[.int .i64 f, .int .u32 (m.toNat : Int)], .bool true]) w2.drew.drew := bend_found (hbd.keep (Below.refl _ _).drew.drew) hbe (by omega)
  have hl2 : (Instr.lookup 32 (.map (some bb)) (.int .i64 d.takes) true).run Try.prog (w2.alloc (.cells #[.int .i64 0, .int .u32 0] 49)).drew.drew = .ok (.tuple #[.agg #[.int .i64 f, .int .u32 (m.toNat : Int)], .bool true]) (w2.alloc (.cells #[.int .i64 0, .int .u32 0] 49)).drew.drew := bend_found (hbd.keep ((Below.refl _ _).alloc (Nat.le_refl _) _).drew.drew) hbe (by omega)
  clear top3
  have hB2 : Bytes w2 (some ⟨b, 0, none⟩) 68 c (bs ++ Crc.be (Crc.sum bs)) := Sl.fr HB.out HF2.out (fun p hp => by cases hp; exact HX.out)
  have hBw : ∀ w' : World, Below w2.heap.size w2 w' → Bytes w' (some ⟨b, 0, none⟩) 68 c (bs ++ Crc.be (Crc.sum bs)) := fun w' hb => hB2.keep hb
  have hBf : ∀ w' : World, Below w2.heap.size w2 w' → Bytes w' (some ⟨b, 0, none⟩) 64 c bs := fun w' hb => by
    have := (hB2.keep hb).front 64 (by omega)
    rwa [List.take_left' H64.out] at this
  have hc68 : 68 ≤ c := Sl.le HB.out
  clear hbd hI hd hB2
  go_region
  all_goals
    clear hl1 hl2 f5 f8 d5 d7 d8
    go_upto_region 13 with (go_at_call 34; refine (bend_calls (hBw _ (by exact ((Below.refl _ _).alloc (Nat.le_refl _) _).drew.drew)) (by omega) (by omega) f wf m).mono ?_; rintro e w4 ⟨v4, Y, rfl, ho4, hbe4, hb4⟩; have hb5 : Below w2.heap.size w2 w4 := (((Below.refl _ _).alloc (Nat.le_refl _) _).drew.drew).trans (hb4.mono (by simp)); obtain ⟨a4, c4, rfl, hy4⟩ := ho4.bytes; clear hb4 ho4)
    have hXl : (bs ++ Crc.be (Crc.sum bs)).length = 68 := by rw [List.length_append, H64.out, be_length]
    have hYl : Y.length = 68 := by rw [hbe4.1, hXl]
    have hrt := benti_right hbe4 (right_put bs) (by omega)
    have hc4 : 68 ≤ c4 := by have := Sl.le hy4; omega
    have hc4b := Sl.big hy4
    rw [hYl] at hy4 ⊢
    have HBE4 := hid hbe4
    clear hBw hBf hbe4 hYl hXl
    by_cases hR : rightB Y = true
    · obtain rfl := hrt hR
      have hy64 : Bytes w4 a4 64 c4 bs := by
        have := Bytes.front hy4 64 (by omega)
        rwa [List.take_left' H64.out] at this
      have HR := hid hR
      clear hrt hR
      obtain ⟨b4, o4, rfl, _⟩ := Bytes.at hy4 0 (by rw [Bytes.len hy4]; omega)
      go_wp2_with (first
        | (go_at_call 35; refine (right_calls hy4).mono ?_; rintro e w4 ⟨rfl, rfl⟩; rw [HR.out])
        | (at_builtin; refine app_bytes (xs := []) rfl _ _ rfl rfl (OwnB.empty _ _ (Nat.le_refl _)) rfl (hy64.keep ((Below.refl _ _).alloc (Nat.le_refl _) _)) (by simp) (by simp) ?_; intro v6 w6 ho1 hg1))
      go_ret2
      have hb6 : Below w2.heap.size w2 w6 := below_app (hb5.alloc hb5.size _) (OwnB.empty w4 _ (Nat.le_refl _)) hg1 hb5.size (hb5.alloc hb5.size (.cells #[] 5)).size
      have hf6 : Fr [g, mb] w w6 := HF2.out.trans (Fr.ofBelow hb6) (fun _ h => by cases h)
      have hm2 : DictAt w2 mb (V.filter (fun p => !(p.1 == z))) := by
        rw [← HW2.out]
        exact HM1.out.fr (Fr.set (Fr.refl [g] w1) ⟨g, 5, none⟩ (.inl (by simp)) _) (by have := HH.out.apart; simp; omega)
      refine ⟨_, HBE4.out, .inr ⟨HR.out, v6, rfl, own_base ho1 (Nat.le_trans HF2.out.size hb5.size)⟩, HH.out.turn (d' := d.took z) hf6 ?_ (hm2.keep hb6) (rows_filter z (Rows.frX hf6 HH.out.rows)) rfl rfl rfl rfl (fun p hp => HH.out.nums p (List.mem_filter.1 hp).1), hf6⟩
      have := (Fr.ofBelow hb6).heap HT2.out (by simp)
      simpa [Dev.took] using this
    · have hR' : rightB Y = false := by simpa using hR
      have HR := hid hR'
      clear hrt hR hR'
      go_wp2_with (go_at_call 35; refine (right_calls hy4).mono ?_; rintro e w4 ⟨rfl, rfl⟩; rw [HR.out])
      go_ret2
      have hb6 := hb5
      have hf6 : Fr [g, mb] w w4 := HF2.out.trans (Fr.ofBelow hb6) (fun _ h => by cases h)
      have hm2 : DictAt w2 mb (V.filter (fun p => !(p.1 == z))) := by
        rw [← HW2.out]
        exact HM1.out.fr (Fr.set (Fr.refl [g] w1) ⟨g, 5, none⟩ (.inl (by simp)) _) (by have := HH.out.apart; simp; omega)
      refine ⟨_, HBE4.out, .inl ⟨HR.out, rfl⟩, HH.out.turn (d' := d.took z) hf6 ?_ (hm2.keep hb6) (rows_filter z (Rows.frX hf6 HH.out.rows)) rfl rfl rfl rfl (fun p hp => HH.out.nums p (List.mem_filter.1 hp).1), hf6⟩
      have := (Fr.ofBelow hb6).heap HT2.out (by simp)
      simpa [Dev.took] using this
end Go.Proofs.Ytakobldhjndeiaa
