/-
  Texts joined: XLsLawP, XLs17.
-/
import Derived.Test.YtakobldhjndeiaaLsEmpty
import Derived.Test.YtakobldhjndeiaaDvNew
/- The lists' numbers and texts, by what they hold. -/
namespace Go.Proofs.Ytakobldhjndeiaa
open Go.RowKit
set_option linter.unusedVariables false
set_option linter.unusedSimpArgs false

def shText (l : List (Bool × List UInt8)) : List UInt8 := (l.map (·.2)).flatten
def shHere (l : List (Bool × List UInt8)) : Nat := (l.filter (fun s => !s.1)).length
def shAway (l : List (Bool × List UInt8)) : Nat := (l.filter (fun s => s.1)).length
theorem text_sh (cs : List Ck) : text cs = shText (cs.map Ck.sh) := by unfold text shText; rw [List.map_map]; rfl
theorem here_sh (cs : List Ck) : hereN cs = shHere (cs.map Ck.sh) := by unfold hereN shHere; rw [List.filter_map, List.length_map]; rfl
theorem away_sh (cs : List Ck) : awayN cs = shAway (cs.map Ck.sh) := by unfold awayN shAway; rw [List.filter_map, List.length_map]; rfl
theorem shText_app (l m : List (Bool × List UInt8)) : shText (l ++ m) = shText l ++ shText m := by unfold shText; rw [List.map_append, List.flatten_append]
theorem shHere_app (l m : List (Bool × List UInt8)) : shHere (l ++ m) = shHere l + shHere m := by unfold shHere; rw [List.filter_append, List.length_append]
theorem shAway_app (l m : List (Bool × List UInt8)) : shAway (l ++ m) = shAway l + shAway m := by unfold shAway; rw [List.filter_append, List.length_append]
theorem chop_facts : ∀ (n : Nat) (b : List UInt8), b.length ≤ n → shText (chop b) = b ∧ shHere (chop b) = (b.length + 63) / 64 ∧ shAway (chop b) = 0
  | 0, b, h => by
    obtain rfl := List.eq_nil_of_length_eq_zero (Nat.le_zero.1 h)
    rw [chop_nil]; exact ⟨rfl, rfl, rfl⟩
  | n + 1, b, h => by
    by_cases hb : b = []
    · subst hb; rw [chop_nil]; exact ⟨rfl, rfl, rfl⟩
    · have hl : 0 < b.length := List.length_pos_iff.2 hb
      obtain ⟨h1, h2, h3⟩ := chop_facts n (b.drop 64) (by rw [List.length_drop]; omega)
      rw [chop_some hb]
      refine ⟨?_, ?_, ?_⟩
      · show (((false, b.take 64) :: chop (b.drop 64)).map (·.2)).flatten = b
        unfold shText at h1
        rw [List.map_cons, List.flatten_cons, h1, List.take_append_drop]
      · unfold shHere at *
        rw [List.length_drop] at h2
        simp only [List.filter_cons, Bool.not_false, if_true, List.length_cons, h2]
        omega
      · unfold shAway at *
        simpa [List.filter_cons] using h3
theorem chop_text (b : List UInt8) : shText (chop b) = b := (chop_facts _ b (Nat.le_refl _)).1
theorem chop_here (b : List UInt8) : shHere (chop b) = (b.length + 63) / 64 := (chop_facts _ b (Nat.le_refl _)).2.1
theorem chop_away (b : List UInt8) : shAway (chop b) = 0 := (chop_facts _ b (Nat.le_refl _)).2.2
theorem shText_one (a : Bool) (x : List UInt8) : shText [(a, x)] = x := by simp [shText]
theorem shText_cons (a : Bool) (x : List UInt8) (l : List (Bool × List UInt8)) : shText ((a, x) :: l) = x ++ shText l := by simp [shText]
theorem shHere_cons (a : Bool) (x : List UInt8) (l : List (Bool × List UInt8)) : shHere ((a, x) :: l) = (if a then 0 else 1) + shHere l := by cases a <;> simp [shHere, List.filter_cons] <;> omega
theorem shAway_cons (a : Bool) (x : List UInt8) (l : List (Bool × List UInt8)) : shAway ((a, x) :: l) = (if a then 1 else 0) + shAway l := by cases a <;> simp [shAway, List.filter_cons] <;> omega
theorem addS_facts (l : List (Bool × List UInt8)) (b : List UInt8) : shText (addS l b) = shText l ++ b ∧ shHere (addS l b) = shHere l + needN l b.length ∧ shAway (addS l b) = shAway l := by
  by_cases h : left l = 0
  · rw [addS_none h, shText_app, shHere_app, shAway_app, chop_text, chop_here, chop_away]
    unfold needN
    rw [h]
    exact ⟨rfl, rfl, rfl⟩
  · rcases List.eq_nil_or_concat l with rfl | ⟨m, ⟨a, x⟩, rfl⟩
    · exact absurd rfl h
    · rw [List.concat_eq_append] at h ⊢
      rw [left_snoc] at h
      cases a with
      | true => simp at h
      | false =>
        simp only [Bool.false_eq_true, if_false] at h
        rw [addS_some m x b (by omega)]
        unfold needN
        rw [left_snoc, shText_app, shText_app, shHere_app, shHere_app, shAway_app, shAway_app, shText_cons, shHere_cons, shAway_cons, chop_text, chop_here, chop_away, shText_cons, shHere_cons, shAway_cons, List.length_drop]
        refine ⟨?_, ?_, ?_⟩
        · simp [shText]
        · simp [shHere]; omega
        · simp [shAway]
theorem hereN_set {tiles : List (List Ck)} {t : Nat} {cs : List Ck} (ht : tiles[t]? = some cs) (cs' : List Ck) : hereN (tiles.set t cs').flatten + hereN cs = hereN tiles.flatten + hereN cs' := by
  have h1 := hereN_perm (flat_perm tiles t cs' (List.getElem?_eq_some_iff.1 ht).1)
  have h2 := hereN_perm (flat_perm_at ht)
  rw [hereN_app] at h1 h2
  omega
theorem awayN_set {tiles : List (List Ck)} {t : Nat} {cs : List Ck} (ht : tiles[t]? = some cs) (cs' : List Ck) : awayN (tiles.set t cs').flatten + awayN cs = awayN tiles.flatten + awayN cs' := by
  have h1 := awayN_perm (flat_perm tiles t cs' (List.getElem?_eq_some_iff.1 ht).1)
  have h2 := awayN_perm (flat_perm_at ht)
  rw [awayN_app] at h1 h2
  omega
/-- Behind an Add. -/
theorem add_numbers {tiles : List (List Ck)} {t : Nat} {cs cs' : List Ck} {b : List UInt8} (ht : tiles[t]? = some cs) (hs : cs'.map Ck.sh = addS (cs.map Ck.sh) b) :
    text cs' = text cs ++ b ∧ hereN (tiles.set t cs').flatten = hereN tiles.flatten + needN (cs.map Ck.sh) b.length ∧ awayN (tiles.set t cs').flatten = awayN tiles.flatten := by
  obtain ⟨h1, h2, h3⟩ := addS_facts (cs.map Ck.sh) b
  rw [← hs] at h1 h2 h3
  have h4 := hereN_set ht cs'
  have h5 := awayN_set ht cs'
  rw [here_sh cs, here_sh cs', h2] at h4
  rw [away_sh cs, away_sh cs', h3] at h5
  exact ⟨by rw [text_sh, text_sh, h1], by omega, by omega⟩
theorem addS_cons (s : Bool × List UInt8) (l : List (Bool × List UInt8)) (h : l ≠ []) (b : List UInt8) : addS (s :: l) b = s :: addS l b := by
  have hl : left (s :: l) = left l := by
    unfold left; rw [List.getLast?_cons]
    cases hg : l.getLast? with
    | none => exact absurd (List.getLast?_eq_none_iff.1 hg) h
    | some x => rfl
  have hb : lastBs (s :: l) = lastBs l := by
    unfold lastBs; rw [List.getLast?_cons]
    cases hg : l.getLast? with
    | none => exact absurd (List.getLast?_eq_none_iff.1 hg) h
    | some x => rfl
  unfold addS
  rw [hl, hb, List.dropLast_cons_of_ne_nil h]
  split <;> rfl
/-- Full blocks, but the last one. -/
theorem addS_chop : ∀ (n : Nat) (x b : List UInt8), x.length ≤ n → addS (chop x) b = chop (x ++ b)
  | 0, x, b, h => by
    obtain rfl := List.eq_nil_of_length_eq_zero (Nat.le_zero.1 h)
    rw [chop_nil, addS_none left_nil]; rfl
  | n + 1, x, b, h => by
    by_cases hx : x = []
    · subst hx; rw [chop_nil, addS_none left_nil]; rfl
    · have hl : 0 < x.length := List.length_pos_iff.2 hx
      by_cases h64 : x.length ≤ 64
      · rw [chop_some hx, List.drop_of_length_le h64, List.take_of_length_le h64, chop_nil]
        by_cases h1 : x.length = 64
        · rw [addS_none (by rw [show [(false, x)] = [] ++ [(false, x)] from rfl, left_snoc]; simp; omega), chop_some (b := x ++ b) (by simp [hx]), List.take_append_of_le_length (by omega), List.drop_append_of_le_length (by omega), List.take_of_length_le h64, List.drop_of_length_le h64]
          rfl
        · rw [show [(false, x)] = [] ++ [(false, x)] from rfl, addS_some [] x b (by omega), chop_some (b := x ++ b) (by simp [hx]), List.take_append, List.drop_append, List.take_of_length_le h64, List.drop_of_length_le h64]
          rfl
      · have hd : x.drop 64 ≠ [] := by intro e; have := congrArg List.length e; simp at this; omega
        have hc : chop (x.drop 64) ≠ [] := by rw [chop_some hd]; simp
        rw [chop_some hx, addS_cons _ _ hc, addS_chop n _ b (by rw [List.length_drop]; omega), chop_some (b := x ++ b) (by simp [hx]), List.take_append_of_le_length (by omega), List.drop_append_of_le_length (by omega)]
theorem none_flat (n : Nat) : (List.replicate n ([] : List Ck)).flatten = [] := by simp
theorem set_get {tiles : List (List Ck)} {t : Nat} {cs : List Ck} (h : t < tiles.length) : (tiles.set t cs)[t]? = some cs := by simp [h]
end Go.Proofs.Ytakobldhjndeiaa
/- Chapter 17's law: its bytes, its awake, a system that is made. -/
namespace Go.Proofs.Ytakobldhjndeiaa
open Go.RowKit
set_option linter.unusedVariables false
set_option linter.unusedSimpArgs false

theorem sys_made {w0 w1 w1' w2 w2' w3 : World} {SA SD SL : List Nat} {g gd lb r n : Nat} {free : List Int} {mem : Nat → List UInt8} {d : Dev} (hA : Ar w1 g SA r free [] 0 mem) (hSA : ∀ k ∈ SA, w0.heap.size ≤ k ∧ k < w1.heap.size) (h1 : Below w1.heap.size w1 w1')
    (hD : Dv w2 gd SD d) (hdL : d.L = []) (hSD : ∀ k ∈ SD, w1'.heap.size ≤ k) (h2 : Below w1'.heap.size w1' w2) (h2' : Below w2.heap.size w2 w2')
    (hL : Ls w3 lb SL (some ⟨g, 0, none⟩) (some ⟨gd, 0, none⟩) (List.replicate n [])) (hSL : ∀ k ∈ SL, w2'.heap.size ≤ k) (h3 : Below w2'.heap.size w2' w3) (h01 : w0.heap.size ≤ w1.heap.size) :
    ∃ S, Sys w3 S g gd lb r (List.replicate n []) d ∧ (∀ k ∈ S, w0.heap.size ≤ k) := by
  have e : (List.replicate n ([] : List Ck)).flatten = [] := by simp
  have s1 := h1.size
  have s2 := h2.size
  have s2' := h2'.size
  have s3 := h3.size
  have hx : SysX w3 SA SD SL g gd lb r free [] 0 mem (List.replicate n []) (List.replicate n []).flatten d := by
    refine ⟨((hA.keep h1).keep h2 |>.keep h2').keep h3, (hD.keep h2').keep h3, hL, by rw [e, hdL]; exact Rel.nil mem, ?_, ?_, ?_, by omega⟩
    · intro k hk hm; have := (hSA k hk).2; have := hSD k hm; omega
    · intro k hk hm; have := (hSA k hk).2; have := hSL k hm; omega
    · intro k hk hm; have := hD.lt k hk; have := hSL k hm; omega
  refine ⟨_, ⟨SA, SD, SL, _, _, _, _, hx, rfl⟩, fun k hk => ?_⟩
  simp only [List.mem_append] at hk
  rcases hk with hk | hk | hk
  · exact (hSA k hk).1
  · have := hSD k hk; omega
  · have := hSL k hk; omega
/-- A system's frame, from below. -/
theorem Sys.below {w0 w w' : World} {S : List Nat} (hf : Fr S w w') (hb : Below w0.heap.size w0 w) (hS : ∀ k ∈ S, w0.heap.size ≤ k) : Below w0.heap.size w0 w' := Fr.below hb hf hS hb.size

/-- The law's bytes. -/
def byt (a : Int) (n : Nat) : List UInt8 := (List.range n).map (fun j : Nat => UInt8.ofNat ((a + (j : Int)) % 256).toNat)
theorem byt_len (a : Int) (n : Nat) : (byt a n).length = n := by simp [byt]
theorem byte_of17 (z : Int) (h : 0 ≤ z ∧ z < 256) : ((UInt8.ofNat z.toNat).toNat : Int) = z := by
  rw [UInt8.toNat_ofNat']
  omega
theorem make_bytes17 (n : Nat) (hn : n ≤ 4096) (w : World) : (Instr.makeSlice 22 (.int .i64 (n : Int)) (.int .i64 (n : Int))).run Try.prog w = .ok (.slice (some ⟨w.heap.size, 0, none⟩) n n) (w.alloc (.cells (bytesArr (List.replicate n 0)) 5)) := by
  obtain ⟨i, hi, hz0, hz1, hz2⟩ := info_parts Try.elU8.hi
  exact run_make_bytes w 22 5 i Try.elU8.ht hi hz0 hz1 hz2 n (by omega)
set_option maxRecDepth 10000 in
set_option maxHeartbeats 1000000 in
theorem bytes17_calls (a : Int) (ha : 0 ≤ a ∧ a < 256) (n : Nat) (hn : n ≤ 255) (w : World) :
    Calls Try.prog 12 #[.int .u8 a, .int .i64 (n : Int)] w fun e w' => e = .returned (.slice (some ⟨w.heap.size, 0, none⟩) n n) ∧ Bytes w' (some ⟨w.heap.size, 0, none⟩) n n (byt a n) ∧ Below w.heap.size w w' := by
  have hmk := make_bytes17 n (by omega)
  obtain ⟨zs, hzs⟩ : ∃ zs, List.replicate n (0 : UInt8) = zs := ⟨_, rfl⟩
  rw [hzs] at hmk
  have hzl : zs.length = n := by rw [← hzs]; simp
  have HZL := hid hzl
  clear hzs hzl
  go_enter Try.func12, Try.ntmps12
  go_wp2
  go_loopw [6, 11] (fun _ i wr => ∃ (k : Nat) (l : List UInt8), k ≤ n ∧ i = .int .i64 k ∧ Hid (l.length = n) ∧ Hid (∀ j, j < k → l.getD j 0 = (byt a n).getD j 0) ∧ Hid (wr.heap[w.heap.size]? = some (.cells (bytesArr l) 5 (0, 0))) ∧ Below w.heap.size w wr) (fun _ i _ => n - (intOf i).toNat)
  case atStart => exact ⟨0, zs, by omega, rfl, HZL, fun j hj => by omega, heap_new _ _, (Below.refl _ _).alloc (Nat.le_refl _) _⟩
  case round =>
    clear hmk HZL
    obtain ⟨k, l, hk, rfl, HL, HE, HH, hb⟩ := hrel
    by_cases hlt : k < n
    · have g3 := bytes_cell HH.out k (by rw [HL.out]; omega)
      have f3 := free_at HH.out k
      have q1 : IntKind.u8.wrap (k : Int) = k := IntWalk.u8_in _ (by omega)
      go_wp2
      go_roundw
      case rel =>
        refine ⟨k + 1, l.set k (UInt8.ofNat ((a + (k : Int)) % 256).toNat), by omega, by go_num, by show _ = _; rw [List.length_set, HL.out], fun j hj => ?_, ?_, hb.setCell (Nat.le_refl _) _⟩
        · rw [List.getD_eq_getElem?_getD, List.getElem?_set]
          by_cases hjk : k = j
          · subst hjk
            rw [List.getD_eq_getElem?_getD]
            simp [HL.out, hlt, byt]
          · rw [if_neg hjk, ← List.getD_eq_getElem?_getD]; exact HE.out j (by omega)
        · have h1 := heap_set (a := ⟨w.heap.size, k, none⟩) HH.out rfl (.int .u8 ((UInt8.ofNat ((a + (k : Int)) % 256).toNat).toNat : Int))
          rw [bytesArr_set, byte_of17 _ (by omega)] at h1
          exact h1
      case measure => simp [intOf]; omega
    · obtain rfl : k = n := by omega
      have hl : l = byt a k := by
        apply List.ext_getElem (by rw [HL.out, byt_len])
        intro j h1 h2
        have := HE.out j (by rw [HL.out] at h1; exact h1)
        simpa [List.getD, h1, h2] using this
      subst hl
      go_wp2
      go_ret
      exact ⟨rfl, Bytes.of_heap HH.out (by rw [byt_len]) (by rw [byt_len]; omega) (by unfold maxLen; omega), hb⟩
theorem needN_nil (n : Nat) : needN ([].map Ck.sh) n = (n + 63) / 64 := rfl
set_option maxRecDepth 10000 in
set_option maxHeartbeats 1000000 in
theorem awake17 (w : World) : Calls Try.prog 8 #[] w fun e w' => e = .returned (.bool true) ∧ Below w.heap.size w w' := by
  obtain ⟨zs, hzs⟩ : ∃ zs, List.replicate 70 (0 : UInt8) = zs := ⟨_, rfl⟩
  have hmk := make_bytes17 70 (by omega)
  rw [hzs] at hmk
  have hmk2 : ∀ w : World, (Instr.makeSlice 22 (.int .i64 70) (.int .i64 70)).run Try.prog w = .ok (.slice (some ⟨w.heap.size, 0, none⟩) 70 70) (w.alloc (.cells (bytesArr zs) 5)) := hmk
  have hzl : zs.length = 70 := by rw [← hzs]; simp
  have HZL := hid hzl
  clear hzs hzl hmk
  go_enter Try.func8, Try.ntmps8
  go_upto_region 2 with (first
    | (go_at_call 10; refine (new_calls 9 _).mono ?_; rintro e w1 ⟨g, SA, rfl, hA, hSA, hb1⟩))
  go_upto_region 3 with (first
    | (go_at_call 11; refine (dv_new 0 _).mono ?_; rintro e w2 ⟨gd, SD, rfl, hD, hSD, hb2⟩)
    | (go_at_call 9; refine (lnew_calls 2 _ _ _).mono ?_; rintro e w3 ⟨lb, SL, rfl, hL, hSL, hb3⟩))
  obtain ⟨S, hs, hS⟩ := sys_made (n := 2) hA hSA (Below.refl w1.heap.size w1) hD rfl hSD hb2 (Below.refl _ _) hL hSL hb3 hb1.size
  rw [show (min (max (9 : Int) 0) 4096).toNat = 9 from rfl] at hs
  have hk := (Below.refl w3.heap.size w3).alloc (Nat.le_refl _) (.cells (bytesArr zs) 5)
  have hb13 : Below w.heap.size w w3 := (hb1.trans (hb2.mono hb1.size)).trans (hb3.mono (Nat.le_trans hb1.size hb2.size))
  have HS := hid (hs.keep hk)
  have HB := hid (hb13.alloc hb13.size (.cells (bytesArr zs) 5))
  have HY := hid (show Bytes (w3.alloc (.cells (bytesArr zs) 5)) (some ⟨w3.heap.size, 0, none⟩) 70 70 zs from Bytes.of_heap (heap_new _ _) HZL.out.symm (by rw [HZL.out]; omega) (by decide))
  have HOF := hid (show zs ≠ [] → ∀ p, (some ⟨w3.heap.size, 0, none⟩ : Option Addr) = some p → p.block ∉ S from fun _ p hp hm => by cases hp; exact absurd (hs.lt _ hm) (Nat.lt_irrefl _))
  have HSF := hid hS
  have HR := hid (show needN (([] : List Ck).map Ck.sh) zs.length + hereN (List.replicate 2 ([] : List Ck)).flatten ≤ 9 from by rw [HZL.out]; decide)
  clear hs hk hb13 hS hA hSA hb1 hD hSD hb2 hL hSL hb3
  go_wp2_with (first
    | (go_at_call 13; refine (add_ok HS.out (t := 1) (cs := []) rfl (by decide) (by decide) HY.out HOF.out HR.out).mono ?_; rintro e w4 ⟨rfl, S4, cs4, hs4, hsh4, hG4, hf4⟩; have hn4 := add_numbers (tiles := List.replicate 2 []) (t := 1) (cs := []) rfl hsh4; have HN4 := hid hn4; have HS4 := hid hs4; have HB4 := hid (Fr.below HB.out hf4 HSF.out HB.out.size); have h2 : hereN ((List.replicate 2 []).set 1 cs4).flatten = 2 := (by rw [hn4.2.1, HZL.out]; decide); have HH := hid h2; have h3 : (text cs4).length = 70 := (by rw [hn4.1]; show ([] ++ zs : List UInt8).length = 70; exact HZL.out); have HT := hid h3; clear hs4 hsh4 hG4 hf4 hn4 h2 h3)
    | (go_at_call 16; have hu := sys_used HS4.out; rw [HH.out] at hu; refine hu.mono ?_; rintro e w5 ⟨rfl, rfl⟩; clear hu)
    | (go_at_call 17; have hu := sys_len HS4.out (t := 1) (cs := cs4) rfl (by decide); rw [HT.out] at hu; refine hu.mono ?_; rintro e w6 ⟨rfl, hb6⟩; clear hu))
  go_ret
  exact ⟨rfl, HB4.out.trans (hb6.mono HB4.out.size)⟩
end Go.Proofs.Ytakobldhjndeiaa
