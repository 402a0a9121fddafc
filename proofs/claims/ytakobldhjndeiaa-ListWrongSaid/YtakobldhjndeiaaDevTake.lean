/-
  The device: Drop, Take.
-/
import Derived.Test.YtakobldhjndeiaaDevRead
namespace Go.Proofs.Ytakobldhjndeiaa
open Go.RowKit

theorem Dvx.turn {w w' : World} {g mb bb : Nat} {v1 v2 : Value} {V V' : List (Int × Value)} {d d' : Dev} (h : Dvx w g mb bb v1 v2 V d) (hf : Fr [g, mb] w w')
    (ht : w'.heap[g]? = some (.cells #[.map (some mb), .int .i64 d'.room, .int .i64 d'.next, .int .i64 d'.most, .int .i64 d'.puts, .int .i64 d'.takes, v1, v2, .map (some bb)] 68 (0, 0)))
    (hm : DictAt w' mb V') (hr : Rows w' [g, mb] V' d'.L) (h1 : d'.fu = d.fu) (h2 : d'.fa = d.fa) (h3 : d'.be = d.be) (h4 : d'.room = d.room) (hn : ∀ p ∈ d'.L, 1 ≤ p.1 ∧ p.1 ≤ d'.next) : Dvx w' g mb bb v1 v2 V' d' := by
  obtain ⟨a1, n1, c1, e1, s1, o1⟩ := h.full
  obtain ⟨a2, n2, c2, e2, s2, o2⟩ := h.fail
  have hb : bb ∉ [g, mb] := by have := h.apart; simp; omega
  refine ⟨ht, hm, hr, ⟨a1, n1, c1, e1, ?_, ?_⟩, ⟨a2, n2, c2, e2, ?_, ?_⟩, ?_, h.apart, hn, by rw [h4]; exact h.room4⟩
  · rw [h1]; exact Sl.fr2 s1 hf o1
  · rw [h1]; exact o1
  · rw [h2]; exact Sl.fr2 s2 hf o2
  · rw [h2]; exact o2
  · rw [h3]; exact h.bends.fr hf hb

theorem BlockAt.lt {w : World} {X : List Nat} {v : Value} {bs : List UInt8} (h : BlockAt w X v bs) : ∀ k, v.ownBlock = some k → k < w.heap.size := by
  obtain ⟨b, c, rfl, h1, h2, h3⟩ := h
  intro k hk
  cases hk
  obtain ⟨b', off, e, h4, _⟩ := h3.row (by intro e; have := congrArg List.length e; simp [h2] at this)
  cases e
  exact h4
theorem rows_lt {w : World} {X : List Nat} : ∀ {V : List (Int × Value)} {L : List (Int × List UInt8)}, Rows w X V L → ∀ p ∈ V, ∀ k, p.2.ownBlock = some k → k < w.heap.size
  | [], [], _, _, hp => by cases hp
  | _ :: _, _ :: _, h, p, hp => by
    rcases List.mem_cons.1 hp with rfl | hp
    · exact h.2.1.lt
    · exact rows_lt h.2.2 p hp
  | [], _ :: _, h, _, _ => h.elim
  | _ :: _, [], h, _, _ => h.elim
theorem rows_fr {w w' : World} {X S : List Nat} (hf : Fr S w w') : ∀ {V : List (Int × Value)} {L : List (Int × List UInt8)}, Rows w X V L → (∀ p ∈ V, ∀ k, p.2.ownBlock = some k → k ∉ S) → Rows w' X V L
  | [], [], _, _ => trivial
  | a :: _, _ :: _, h, hn => ⟨h.1, h.2.1.fr hf (hn a (by simp)), rows_fr hf h.2.2 (fun p hp => hn p (List.mem_cons_of_mem _ hp))⟩
  | [], _ :: _, h, _ => h.elim
  | _ :: _, [], h, _ => h.elim
/-- The device, where others' blocks are written: one without a plan. -/
theorem Dvx.fr {w w' : World} {g mb bb : Nat} {v1 v2 : Value} {V : List (Int × Value)} {d : Dev} {S : List Nat} (h : Dvx w g mb bb v1 v2 V d) (hf : Fr S w w') (hS : g ∉ S ∧ mb ∉ S ∧ bb ∉ S) (hV : ∀ p ∈ V, ∀ k, p.2.ownBlock = some k → k ∉ S) (h1 : d.fu = []) (h2 : d.fa = []) : Dvx w' g mb bb v1 v2 V d := by
  obtain ⟨a1, n1, c1, e1, s1, o1⟩ := h.full
  obtain ⟨a2, n2, c2, e2, s2, o2⟩ := h.fail
  exact ⟨hf.heap h.top hS.1, h.map.fr hf hS.2.1, rows_fr hf h.rows hV, ⟨a1, n1, c1, e1, Sl.fr2 s1 hf (fun hne => absurd (by rw [h1]; rfl) hne), o1⟩, ⟨a2, n2, c2, e2, Sl.fr2 s2 hf (fun hne => absurd (by rw [h2]; rfl) hne), o2⟩, h.bends.fr hf hS.2.2, h.apart, h.nums, h.room4⟩

theorem zero_bytes (w : World) : (zeroValue 22).run Try.prog w = .ok (.slice none 0 0) w := by kernel_rfl
/-- What a look at the blocks tells. -/
theorem dlook_some {w : World} {g mb bb : Nat} {v1 v2 : Value} {V : List (Int × Value)} {d : Dev} (h : Dvx w g mb bb v1 v2 V d) {z : Int} {bs : List UInt8} (hz : (z, bs) ∈ d.L) (wz : -9223372036854775808 ≤ z ∧ z < 9223372036854775808) :
    ∃ b c, (Instr.lookup 66 (.map (some mb)) (.int .i64 z) true).run Try.prog w = .ok (.tuple #[.slice (some ⟨b, 0, none⟩) 68 c, .bool true]) w ∧ b ∉ [g, mb] ∧ bs.length = 64 ∧ Bytes w (some ⟨b, 0, none⟩) 68 c (bs ++ Crc.be (Crc.sum bs)) := by
  obtain ⟨v, hv, b, c, rfl, h1, h2, h3⟩ := rows_get h.rows hz
  have hl := h.map.look (P := Try.prog) Try.underlying66 Try.underlying3 (zero_bytes w) true (z := z) (WalkArith.wf_i64 (by omega))
  obtain ⟨e1, e2⟩ := dget_some h.map.nodup hv (.slice none 0 0)
  rw [e1, e2] at hl
  exact ⟨b, c, hl, h1, h2, h3⟩
theorem dlook_none {w : World} {g mb bb : Nat} {v1 v2 : Value} {V : List (Int × Value)} {d : Dev} (h : Dvx w g mb bb v1 v2 V d) {z : Int} (hz : ∀ q ∈ d.L, q.1 ≠ z) (wz : -9223372036854775808 ≤ z ∧ z < 9223372036854775808) :
    (Instr.lookup 66 (.map (some mb)) (.int .i64 z) true).run Try.prog w = .ok (.tuple #[.slice none 0 0, .bool false]) w := by
  have hl := h.map.look (P := Try.prog) Try.underlying66 Try.underlying3 (zero_bytes w) true (z := z) (WalkArith.wf_i64 (by omega))
  obtain ⟨e1, e2⟩ := dget_none (rows_none h.rows hz) (.slice none 0 0)
  rw [e1, e2] at hl
  exact hl

theorem zero_bend (w : World) : (zeroValue 49).run Try.prog w = .ok (.agg #[.int .i64 0, .int .u32 0]) w := by kernel_rfl
theorem bend_none {w : World} {bb : Nat} {be : List (Int × Value)} (h : DictAt w bb be) {z : Int} (hz : ∀ q ∈ be, q.1 ≠ z) (wz : -9223372036854775808 ≤ z ∧ z < 9223372036854775808) :
    (Instr.lookup 32 (.map (some bb)) (.int .i64 z) true).run Try.prog w = .ok (.tuple #[.agg #[.int .i64 0, .int .u32 0], .bool false]) w := by
  have hl := h.look (P := Try.prog) Try.underlying32 Try.underlying3 (zero_bend w) true (z := z) (WalkArith.wf_i64 (by omega))
  obtain ⟨e1, e2⟩ := dget_none hz (.agg #[.int .i64 0, .int .u32 0])
  rw [e1, e2] at hl
  exact hl
/-- The blocks without one. -/
def Dev.less (d : Dev) (z : Int) : Dev := { d with L := d.L.filter (fun p => !(p.1 == z)) }

set_option maxRecDepth 10000 in
theorem ddrop_none {w : World} {g mb bb : Nat} {v1 v2 : Value} {V : List (Int × Value)} {d : Dev} (h : Dvx w g mb bb v1 v2 V d) {z : Int} (hz : ∀ q ∈ d.L, q.1 ≠ z) (wz : -9223372036854775808 ≤ z ∧ z < 9223372036854775808) :
    Calls Try.prog 30 #[.pointer (some ⟨g, 0, none⟩), .int .i64 z] w fun e w' => e = .returned (.int .i64 9) ∧ w' = w := by
  have c0 := cell_at h.top 0
  have hl := dlook_none h hz wz
  go_enter Try.func30, Try.ntmps30
  go_wp2
  go_ret
  exact ⟨rfl, rfl⟩
set_option maxRecDepth 10000 in
theorem ddrop_some {w : World} {g mb bb : Nat} {v1 v2 : Value} {V : List (Int × Value)} {d : Dev} (h : Dvx w g mb bb v1 v2 V d) {z : Int} {bs : List UInt8} (hz : (z, bs) ∈ d.L) (wz : -9223372036854775808 ≤ z ∧ z < 9223372036854775808) :
    Calls Try.prog 30 #[.pointer (some ⟨g, 0, none⟩), .int .i64 z] w fun e w' => e = .returned (.int .i64 0) ∧ (∃ V', Dvx w' g mb bb v1 v2 V' (d.less z)) ∧ Fr [g, mb] w w' := by
  have c0 := cell_at h.top 0
  obtain ⟨b, c, hl, hX, h64, hB⟩ := dlook_some h hz wz
  obtain ⟨w1, e1, hm1, f1⟩ := h.map.drop (P := Try.prog) Try.underlying66 Try.underlying3 (z := z) (WalkArith.wf_i64 (by omega)) 0
  have ff : Fr [g, mb] w w1 := f1.mono (fun k hk => .inl (by simp at hk; simp [hk]))
  go_enter Try.func30, Try.ntmps30
  go_wp2
  go_ret
  refine ⟨rfl, ⟨_, h.turn (d' := d.less z) ff (f1.heap h.top (by have := h.apart; simp; omega)) hm1 (rows_filter z (Rows.frX ff h.rows)) rfl rfl rfl rfl (fun p hp => h.nums p (List.mem_filter.1 hp).1)⟩, ff⟩

set_option maxRecDepth 10000 in
theorem dtake_none {w : World} {g mb bb : Nat} {v1 v2 : Value} {V : List (Int × Value)} {d : Dev} (h : Dvx w g mb bb v1 v2 V d) {z : Int} (hz : ∀ q ∈ d.L, q.1 ≠ z) (wz : -9223372036854775808 ≤ z ∧ z < 9223372036854775808) :
    Calls Try.prog 31 #[.pointer (some ⟨g, 0, none⟩), .int .i64 z] w fun e w' => e = .returned (.tuple #[.slice none 0 0, .int .i64 9]) ∧ w' = w := by
  have c0 := cell_at h.top 0
  have hl := dlook_none h hz wz
  go_enter Try.func31, Try.ntmps31
  go_wp2
  go_ret2
  exact ⟨rfl, rfl⟩

def Dev.took (d : Dev) (z : Int) : Dev := { d with L := d.L.filter (fun p => !(p.1 == z)), takes := d.takes + 1 }

set_option maxRecDepth 10000 in
set_option maxHeartbeats 1000000 in
/-- A block that is there, where nothing goes wrong. -/
theorem dtake_ok {w : World} {g mb bb : Nat} {v1 v2 : Value} {V : List (Int × Value)} {d : Dev} (h : Dvx w g mb bb v1 v2 V d) {z : Int} {bs : List UInt8} (hz : (z, bs) ∈ d.L) (wz : -9223372036854775808 ≤ z ∧ z < 9223372036854775808)
    (htk : d.takes < 1000000) (hfa : (d.takes : Int) ∉ d.fa) (hbe : ∀ p ∈ d.be, p.1 ≠ (d.takes : Int)) :
    Calls Try.prog 31 #[.pointer (some ⟨g, 0, none⟩), .int .i64 z] w fun e w' => ∃ v, e = .returned (.tuple #[v, .int .i64 0]) ∧ OwnB w' w.heap.size v bs ∧ Dvx w' g mb bb v1 v2 (V.filter (fun p => !(p.1 == z))) (d.took z) ∧ Fr [g, mb] w w' := by
  have c0 := cell_at h.top 0
  obtain ⟨b, c, hl, hX, h64, hB⟩ := dlook_some h hz wz
  obtain ⟨w1, e1, hm1, f1⟩ := h.map.drop (P := Try.prog) Try.underlying66 Try.underlying3 (z := z) (WalkArith.wf_i64 (by omega)) 0
  have ff : Fr [g, mb] w w1 := f1.mono (fun k hk => .inl (by simp at hk; simp [hk]))
  have top1 := f1.heap h.top (by have := h.apart; simp; omega)
  have c5 := cell_at top1 5
  have g5 := free_at top1 5
  obtain ⟨a2, n2, k2, rfl, s2, o2⟩ := h.fail
  have ff2 : Fr [g, mb] w (w1.setCell ⟨g, 5, none⟩ (.int .i64 ((d.takes : Int) + 1))) := ff.set _ (.inl (by simp)) _
  have top2 : (w1.setCell ⟨g, 5, none⟩ (.int .i64 ((d.takes : Int) + 1))).heap[g]? = some (.cells #[.map (some mb), .int .i64 d.room, .int .i64 d.next, .int .i64 d.most, .int .i64 d.puts, .int .i64 ((d.takes : Int) + 1), v1, .slice a2 n2 k2, .map (some bb)] 68 (0, 0)) := heap_set (a := ⟨g, 5, none⟩) top1 rfl (.int .i64 ((d.takes : Int) + 1))
  have d5 := cell_at top2 5
  have d7 := cell_at top2 7
  have d8 := cell_at top2 8
  have hI : Ints (w1.setCell ⟨g, 5, none⟩ (.int .i64 ((d.takes : Int) + 1))) a2 n2 k2 d.fa := Sl.fr2 s2 ff2 o2
  have hd : decide ((d.takes : Int) ∈ d.fa) = false := by simp [hfa]
  have q0 : IntKind.i64.wrap (d.takes : Int) = d.takes := IntWalk.i64_in _ (by omega)
  have q1 : IntKind.i64.wrap ((d.takes : Int) + 1) = (d.takes : Int) + 1 := IntWalk.i64_in _ (by omega)
  have HX := hid hX
  have H64 := hid h64
  have HH := hid h
  have HF2 := hid ff2
  have HT2 := hid top2
  have HM1 := hid hm1
  have HB := hid hB
  clear hX h64 h ff ff2 top1 top2 hm1 f1 hB s2 o2 hfa hz
  go_enter Try.func31, Try.ntmps31
  go_upto_region 8 with (fail)
  obtain ⟨w2, hw2⟩ : ∃ w2, w1.setCell ⟨g, 5, none⟩ (.int .i64 ((d.takes : Int) + 1)) = w2 := ⟨_, rfl⟩
  rw [hw2]
  rw [hw2] at hI d5 d7 d8 HF2 HT2
  have HW2 := hid hw2
  clear hw2 c0 hl e1 c5 g5
  go_region_held (fun w' => w'.cell? ⟨g, 5, none⟩ = some (.int .i64 ((d.takes : Int) + 1)) ∧ w'.cell? ⟨g, 7, none⟩ = some (.slice a2 n2 k2)) (exact ⟨d5, d7⟩) (first | (go_at_call 33; refine (damong_calls (Sl.drew hI) _).mono ?_; rintro e w3 ⟨rfl, rfl⟩))
  go_upto_region 10 with (fail)
  have hbd : DictAt w2 bb d.be := HH.out.bends.fr HF2.out (by have := HH.out.apart; simp; omega)
  have top3 := heap_keep HT2.out (.cells #[.int .i64 0, .int .u32 0] 49)
  have f5 := cell_at top3 5
  have f8 := cell_at top3 8
  have hl1 : (Instr.lookup 32 (.map (some bb)) (.int .i64 d.takes) true).run Try.prog w2.drew.drew = .ok (.tuple #[.agg #[.int .i64 0, .int .u32 0], .bool false]) w2.drew.drew := bend_none (hbd.keep (Below.refl _ _).drew.drew) hbe (by omega)
  have hl2 : (Instr.lookup 32 (.map (some bb)) (.int .i64 d.takes) true).run Try.prog (w2.alloc (.cells #[.int .i64 0, .int .u32 0] 49)).drew.drew = .ok (.tuple #[.agg #[.int .i64 0, .int .u32 0], .bool false]) (w2.alloc (.cells #[.int .i64 0, .int .u32 0] 49)).drew.drew := bend_none (hbd.keep ((Below.refl _ _).alloc (Nat.le_refl _) _).drew.drew) hbe (by omega)
  clear top3
  have hB2 : Bytes w2 (some ⟨b, 0, none⟩) 68 c (bs ++ Crc.be (Crc.sum bs)) := Sl.fr HB.out HF2.out (fun p hp => by cases hp; exact HX.out)
  have hBw : ∀ w' : World, Below w2.heap.size w2 w' → Bytes w' (some ⟨b, 0, none⟩) 68 c (bs ++ Crc.be (Crc.sum bs)) := fun w' hb => hB2.keep hb
  have hBf : ∀ w' : World, Below w2.heap.size w2 w' → Bytes w' (some ⟨b, 0, none⟩) 64 c bs := fun w' hb => by
    have := (hB2.keep hb).front 64 (by omega)
    rwa [List.take_left' H64.out] at this
  have hc68 : 68 ≤ c := Sl.le HB.out
  clear hbd hI hd hB2
  go_region
  all_goals
    clear hl1 hl2 f5 f8 d5 d7 d8
    go_wp2_with (first
      | (go_at_call 35; refine (right_calls (hBw _ (by exact ((Below.refl _ _).alloc (Nat.le_refl _) _).drew.drew))).mono ?_; rintro e w5 ⟨rfl, hw5⟩; rw [right_put]; have hb5 : Below w2.heap.size w2 w5 := (by rw [hw5]; exact ((Below.refl _ _).alloc (Nat.le_refl _) _).drew.drew); clear hw5)
      | (at_builtin; refine app_bytes rfl _ _ rfl rfl (OwnB.empty _ _ (Nat.le_refl _)) rfl (hBf _ (hb5.alloc hb5.size _)) (by show 0 + 64 ≤ _; omega) (by simp) ?_; intro v6 w6 ho1 hg1))
    go_ret2
    have hb6 : Below w2.heap.size w2 w6 := below_app (hb5.alloc hb5.size _) (OwnB.empty w5 _ (Nat.le_refl _)) hg1 hb5.size (hb5.alloc hb5.size (.cells #[] 5)).size
    have hf6 : Fr [g, mb] w w6 := HF2.out.trans (Fr.ofBelow hb6) (fun _ h => by cases h)
    have hm2 : DictAt w2 mb (V.filter (fun p => !(p.1 == z))) := by
      rw [← HW2.out]
      exact HM1.out.fr (Fr.set (Fr.refl [g] w1) ⟨g, 5, none⟩ (.inl (by simp)) _) (by have := HH.out.apart; simp; omega)
    refine ⟨v6, rfl, own_base ho1 (Nat.le_trans HF2.out.size hb5.size), HH.out.turn (d' := d.took z) hf6 ?_ (hm2.keep hb6) (rows_filter z (Rows.frX hf6 HH.out.rows)) rfl rfl rfl rfl (fun p hp => HH.out.nums p (List.mem_filter.1 hp).1), hf6⟩
    have := (Fr.ofBelow hb6).heap HT2.out (by simp)
    simpa [Dev.took] using this
end Go.Proofs.Ytakobldhjndeiaa
