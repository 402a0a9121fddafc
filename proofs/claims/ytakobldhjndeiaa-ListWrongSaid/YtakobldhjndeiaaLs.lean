/-
  Texts joined: XLs, XLsNew, XLsP, XLsRead, XLsSys, XLsPut.
-/
import Derived.Test.YtakobldhjndeiaaDvNew
import Derived.Test.YtakobldhjndeiaaRecsOwn
import Derived.Test.YtakobldhjndeiaaArTake
import Derived.Test.YtakobldhjndeiaaArGive
import Derived.Test.YtakobldhjndeiaaArBytes
import Derived.Test.YtakobldhjndeiaaArNew
import Derived.Test.YtakobldhjndeiaaArRoundsP
import Derived.Deep.CutRange
import Derived.Deep.QuietTactic
import Derived.BigQuiet
import Derived.Outline
import Derived.Deep.RegionHeldLaw
import Derived.BigRegion
/- The lists' own part: the object, its row of lists, each list's chunks. -/
namespace Go.Proofs.Ytakobldhjndeiaa
open Go.RowKit
set_option linter.unusedVariables false
set_option linter.unusedSimpArgs false

/-- A chunk, with the bytes that it stands for. -/
structure Ck where
  away : Bool
  id : Int
  bs : List UInt8
def Ck.cells (c : Ck) : List Value := [.bool c.away, .int .i64 c.id, .int .i64 (c.bs.length : Int)]
theorem ck_sz (c : Ck) : c.cells.length = 3 := rfl
structure Lsx (w : World) (lb cb : Nat) (pa pd : Option Addr) (vs : List Value) (tiles : List (List Ck)) : Prop where
  top : w.heap[lb]? = some (.cells #[.pointer pa, .pointer pd, .slice (some ⟨cb, 0, none⟩) vs.length vs.length] 61 (0, 0))
  row : w.heap[cb]? = some (.cells vs.toArray 71 (0, 0))
  len : vs.length = tiles.length
  rows : ∀ (t : Nat) v cs, vs[t]? = some v → tiles[t]? = some cs → OwnL 73 3 Ck.cells w 0 v cs
  apart : lb ≠ cb ∧ ∀ (t : Nat) v k, vs[t]? = some v → v.ownBlock = some k → k ≠ lb ∧ k ≠ cb
  inj : ∀ (t s : Nat) v u k, vs[t]? = some v → vs[s]? = some u → v.ownBlock = some k → u.ownBlock = some k → t = s
  small : tiles.length ≤ 64
def lsBlocks (lb cb : Nat) (vs : List Value) : List Nat := lb :: cb :: vs.filterMap Value.ownBlock
/-- The lists at lb; SL: their blocks. -/
def Ls (w : World) (lb : Nat) (SL : List Nat) (pa pd : Option Addr) (tiles : List (List Ck)) : Prop := ∃ cb vs, Lsx w lb cb pa pd vs tiles ∧ SL = lsBlocks lb cb vs
theorem vs_mem {vs : List Value} {t k : Nat} {v : Value} (h : vs[t]? = some v) (hk : v.ownBlock = some k) : k ∈ vs.filterMap Value.ownBlock :=
  List.mem_filterMap.2 ⟨v, List.mem_of_getElem? h, hk⟩
theorem Ls.fr {w w' : World} {lb : Nat} {SL S : List Nat} {pa pd : Option Addr} {tiles : List (List Ck)} (h : Ls w lb SL pa pd tiles) (hf : Fr S w w') (hn : ∀ k ∈ SL, k ∉ S) : Ls w' lb SL pa pd tiles := by
  obtain ⟨cb, vs, h, rfl⟩ := h
  unfold lsBlocks at hn
  exact ⟨cb, vs, ⟨hf.heap h.top (hn lb (by simp)), hf.heap h.row (hn cb (by simp)), h.len, fun t v cs h1 h2 => own_fr (h.rows t v cs h1 h2) hf (fun k hk => hn k (by have := vs_mem h1 hk; simp [this])), h.apart, h.inj, h.small⟩, rfl⟩
theorem Ls.keep {w w' : World} {lb : Nat} {SL : List Nat} {pa pd : Option Addr} {tiles : List (List Ck)} (h : Ls w lb SL pa pd tiles) (hb : Below w.heap.size w w') : Ls w' lb SL pa pd tiles := h.fr (Fr.ofBelow hb) (fun k _ hm => by cases hm)
end Go.Proofs.Ytakobldhjndeiaa
/- list.New. -/
namespace Go.Proofs.Ytakobldhjndeiaa
open Go.RowKit
set_option linter.unusedVariables false
set_option linter.unusedSimpArgs false

theorem Try.elTile : El Try.prog 59 71 (.slice none 0 0) 1 24 := ⟨Try.underlying59, by kernel_rfl, rfl, by decide⟩
theorem run_make_tiles (w : World) (n : Nat) (hn : n ≤ 4096) :
    (Instr.makeSlice 59 (.int .i64 (n : Int)) (.int .i64 (n : Int))).run Try.prog w = .ok (.slice (some ⟨w.heap.size, 0, none⟩) n n) (w.alloc (.cells (List.replicate n (Value.slice none 0 0)).toArray 71)) := by
  obtain ⟨i, hi, hz0, hz1, hz2⟩ := info_parts Try.elTile.hi
  have h := run_make w 59 71 i _ Try.elTile.ht hi hz0 .i64 .i64 (n : Int) n (by omega) (by omega) (by rw [hz2]; omega) (by omega)
  rw [h, hz1, Int.toNat_natCast]
  have : madeCells (Value.slice none 0 0).cells (n * 1) = (List.replicate n (Value.slice none 0 0)).toArray := by
    apply Array.toList_inj.1
    rw [Nat.mul_one]
    show (madeCells #[Value.slice none 0 0] n).toList = _
    rw [toList_madeCells_one]
  rw [this]
set_option maxRecDepth 10000 in
set_option maxHeartbeats 1000000 in
theorem lnew_calls (many : Int) (pa pd : Option Addr) (w : World) :
    Calls Try.prog 9 #[.int .i64 many, .pointer pa, .pointer pd] w fun e w' => ∃ lb SL, e = .returned (.pointer (some ⟨lb, 0, none⟩)) ∧ Ls w' lb SL pa pd (List.replicate (min (max many 0) 64).toNat []) ∧ (∀ k ∈ SL, w.heap.size ≤ k) ∧ Below w.heap.size w w' := by
  obtain ⟨m, hm, hm2⟩ : ∃ m : Int, (if (0 : Int) > many then (0 : Int) else many) = m ∧ m = max many 0 := ⟨_, rfl, by split <;> omega⟩
  obtain ⟨r, hr, hr2⟩ : ∃ r : Nat, (if (64 : Int) < m then (64 : Int) else m) = (r : Int) ∧ r = (min (max many 0) 64).toNat := ⟨(min (max many 0) 64).toNat, by split <;> omega, rfl⟩
  rw [← hr2]
  have hr3 : r ≤ 64 := by omega
  have hmk := fun w => run_make_tiles w r (by omega)
  have HR := hid hr3
  obtain ⟨zs, hzs⟩ : ∃ zs, List.replicate r (Value.slice none 0 0) = zs := ⟨_, rfl⟩
  rw [hzs] at hmk
  have HZ := hid hzs
  clear hm2 hr2 hzs
  go_enter Try.func9, Try.ntmps9
  go_wp2
  go_ret
  have hzl : zs.length = r := by rw [← HZ.out]; simp
  have hz : ∀ (t : Nat) v, zs[t]? = some v → v = .slice none 0 0 := fun t v h => by
    rw [← HZ.out, List.getElem?_replicate] at h
    split at h
    · exact (Option.some.inj h).symm
    · cases h
  have hob : ∀ (t : Nat) v k, zs[t]? = some v → v.ownBlock = some k → False := fun t v k h1 h2 => by
    rw [hz t v h1] at h2; cases h2
  refine ⟨_, _, rfl, ⟨w.heap.size, zs, ⟨?_, heap_keep (heap_new w _) _, by simp [hzl], fun t v cs h1 h2 => ?_, ⟨?_, fun t v k h1 h2 => (hob t v k h1 h2).elim⟩, fun t s v u k h1 _ h2 _ => (hob t v k h1 h2).elim, by simp; omega⟩, rfl⟩, fun k hk => ?_, ((Below.refl _ _).alloc (Nat.le_refl _) _).alloc (by simp) _⟩
  · rw [hzl]
    have e : w.heap.size + 1 = (w.alloc (.cells zs.toArray 71)).heap.size := by simp
    rw [e]
    exact heap_new _ _
  · rw [hz t v h1]
    have : cs = [] := by
      rw [List.getElem?_replicate] at h2
      split at h2
      · exact (Option.some.inj h2).symm
      · cases h2
    rw [this]
    exact OwnL.nil _ _
  · simp
  · unfold lsBlocks at hk
    have h0 : zs.filterMap Value.ownBlock = [] := by
      rw [List.filterMap_eq_nil_iff]
      intro a ha
      obtain ⟨t, ht⟩ := List.getElem?_of_mem ha
      rw [hz t a ht]; rfl
    rw [h0] at hk
    simp at hk
    omega
end Go.Proofs.Ytakobldhjndeiaa
/- The lists' plain part: what a list holds without its numbers; chunks, the arena's numbers and the device's. -/
namespace Go.Proofs.Ytakobldhjndeiaa
open Go.RowKit
set_option linter.unusedVariables false
set_option linter.unusedSimpArgs false

def Ck.sh (c : Ck) : Bool × List UInt8 := (c.away, c.bs)
/-- Bytes in blocks of 64. -/
def chop (b : List UInt8) : List (Bool × List UInt8) := if h : b = [] then [] else (false, b.take 64) :: chop (b.drop 64)
termination_by b.length
decreasing_by have : 0 < b.length := List.length_pos_iff.2 h; simp; omega
theorem chop_nil : chop [] = [] := by rw [chop]; simp
theorem chop_some {b : List UInt8} (h : b ≠ []) : chop b = (false, b.take 64) :: chop (b.drop 64) := by rw [chop]; simp [h]
/-- How many bytes more go into the last block. -/
def left (l : List (Bool × List UInt8)) : Nat := match l.getLast? with
  | some (false, x) => 64 - x.length
  | _ => 0
def lastBs (l : List (Bool × List UInt8)) : List UInt8 := match l.getLast? with
  | some (_, x) => x
  | _ => []
def addS (l : List (Bool × List UInt8)) (b : List UInt8) : List (Bool × List UInt8) :=
  if left l = 0 then l ++ chop b else l.dropLast ++ (false, lastBs l ++ b.take (left l)) :: chop (b.drop (left l))
def needN (l : List (Bool × List UInt8)) (n : Nat) : Nat := (n - left l + 63) / 64
theorem left_nil : left [] = 0 := rfl
theorem left_snoc (l : List (Bool × List UInt8)) (a : Bool) (x : List UInt8) : left (l ++ [(a, x)]) = if a then 0 else 64 - x.length := by
  unfold left; rw [List.getLast?_concat]; cases a <;> rfl
theorem lastBs_snoc (l : List (Bool × List UInt8)) (a : Bool) (x : List UInt8) : lastBs (l ++ [(a, x)]) = x := by
  unfold lastBs; rw [List.getLast?_concat]
theorem addS_none {l : List (Bool × List UInt8)} (h : left l = 0) (b : List UInt8) : addS l b = l ++ chop b := by
  unfold addS; rw [if_pos h]
theorem addS_some (l : List (Bool × List UInt8)) (x b : List UInt8) (h : x.length < 64) : addS (l ++ [(false, x)]) b = l ++ (false, x ++ b.take (64 - x.length)) :: chop (b.drop (64 - x.length)) := by
  unfold addS; rw [left_snoc, lastBs_snoc, if_neg (by simp; omega), List.dropLast_concat]; simp
theorem addS_nil (l : List (Bool × List UInt8)) : addS l [] = l := by
  rcases List.eq_nil_or_concat l with rfl | ⟨m, ⟨a, x⟩, rfl⟩
  · rw [addS_none left_nil, chop_nil]; rfl
  · rw [List.concat_eq_append]
    by_cases h : left (m ++ [(a, x)]) = 0
    · rw [addS_none h, chop_nil, List.append_nil]
    · rw [left_snoc] at h
      cases a with
      | true => simp at h
      | false => rw [addS_some m x [] (by simp at h; omega)]; simp [chop_nil]
/-- A block is taken. -/
theorem addS_push {l : List (Bool × List UInt8)} (h : left l = 0) {b : List UInt8} (hb : b ≠ []) : addS (l ++ [(false, [])]) b = addS l b := by
  rw [addS_some l [] b (by simp), addS_none h, chop_some hb]; simp
theorem need_push {l : List (Bool × List UInt8)} (h : left l = 0) {n : Nat} (hn : 0 < n) : needN (l ++ [(false, [])]) n + 1 = needN l n := by
  unfold needN; rw [left_snoc, h]; simp; omega
/-- The last block takes bytes. -/
theorem addS_fill (l : List (Bool × List UInt8)) (x b : List UInt8) (h : x.length < 64) {k : Nat} (hk : k = min b.length (64 - x.length)) : addS (l ++ [(false, x ++ b.take k)]) (b.drop k) = addS (l ++ [(false, x)]) b := by
  rw [addS_some l x b h]
  by_cases hb : b.length < 64 - x.length
  · have e : k = b.length := by omega
    subst e
    rw [List.take_length, List.drop_length, addS_nil, List.take_of_length_le (by omega), List.drop_of_length_le (by omega), chop_nil]
  · have e : k = 64 - x.length := by omega
    subst e
    rw [addS_none (by rw [left_snoc]; simp; omega)]
    simp
theorem need_fill (l : List (Bool × List UInt8)) (x : List UInt8) (n k : Nat) (h : x.length < 64) (hk : k = min n (64 - x.length)) (y : List UInt8) (hy : y.length = x.length + k) : needN (l ++ [(false, y)]) (n - k) = needN (l ++ [(false, x)]) n := by
  unfold needN
  rw [left_snoc, left_snoc, hy]
  simp only [Bool.false_eq_true, if_false]
  by_cases hb : n < 64 - x.length
  · have e : k = n := by omega
    rw [e]
    have h1 : n - n - (64 - (x.length + n)) = 0 := by omega
    have h2 : n - (64 - x.length) = 0 := by omega
    rw [h1, h2]
  · have e : k = 64 - x.length := by omega
    congr 2
    omega
/-- The chunks of some lists as they lie: the arena's, the device's. -/
structure Rel (F : List Ck) (U : List Int) (mem : Nat → List UInt8) (L : List (Int × List UInt8)) : Prop where
  len : ∀ c ∈ F, c.bs.length ≤ 64
  here : ∀ c ∈ F, c.away = false → 0 ≤ c.id ∧ (mem c.id.toNat).take c.bs.length = c.bs
  away : ∀ c ∈ F, c.away = true → ∃ blk, (c.id, blk) ∈ L ∧ blk.take c.bs.length = c.bs
  us : ((F.filter (fun c => !c.away)).map Ck.id).Perm U
  ls : ((F.filter (fun c => c.away)).map Ck.id).Perm (L.map (·.1))
theorem Rel.perm {F F' : List Ck} {U : List Int} {mem : Nat → List UInt8} {L : List (Int × List UInt8)} (h : Rel F U mem L) (hp : F'.Perm F) : Rel F' U mem L :=
  ⟨fun c hc => h.len c (hp.mem_iff.1 hc), fun c hc => h.here c (hp.mem_iff.1 hc), fun c hc => h.away c (hp.mem_iff.1 hc), ((hp.filter _).map _).trans h.us, ((hp.filter _).map _).trans h.ls⟩
theorem Rel.nil (mem : Nat → List UInt8) : Rel [] [] mem [] := ⟨(fun c hc => by cases hc), (fun c hc => by cases hc), (fun c hc => by cases hc), List.Perm.refl _, List.Perm.refl _⟩
def hereN (F : List Ck) : Nat := (F.filter (fun c => !c.away)).length
def awayN (F : List Ck) : Nat := (F.filter (fun c => c.away)).length
theorem Rel.hereN {F : List Ck} {U : List Int} {mem : Nat → List UInt8} {L : List (Int × List UInt8)} (h : Rel F U mem L) : U.length = hereN F := by
  rw [← h.us.length_eq, List.length_map]; rfl
theorem Rel.awayN {F : List Ck} {U : List Int} {mem : Nat → List UInt8} {L : List (Int × List UInt8)} (h : Rel F U mem L) : L.length = awayN F := by
  have := h.ls.length_eq
  rw [List.length_map, List.length_map] at this
  exact this.symm
theorem Rel.memU {F : List Ck} {U : List Int} {mem : Nat → List UInt8} {L : List (Int × List UInt8)} (h : Rel F U mem L) {c : Ck} (hc : c ∈ F) (ha : c.away = false) : c.id ∈ U :=
  h.us.mem_iff.1 (List.mem_map.2 ⟨c, List.mem_filter.2 ⟨hc, by simp [ha]⟩, rfl⟩)
theorem Rel.take {F : List Ck} {U : List Int} {mem : Nat → List UInt8} {L : List (Int × List UInt8)} (h : Rel F U mem L) {z : Nat} (hz : (z : Int) ∉ U) (m0 : List UInt8) : Rel (⟨false, z, []⟩ :: F) (U ++ [(z : Int)]) (fun i => if i = z then m0 else mem i) L := by
  refine ⟨?_, ?_, ?_, ?_, ?_⟩
  · intro c hc
    rcases List.mem_cons.1 hc with rfl | hc
    · simp
    · exact h.len c hc
  · intro c hc ha
    rcases List.mem_cons.1 hc with rfl | hc
    · exact ⟨Int.natCast_nonneg _, by simp⟩
    · have h1 := h.here c hc ha
      have h2 := h.memU hc ha
      have h3 : c.id.toNat ≠ z := fun e => hz (by rw [← e, Int.toNat_of_nonneg h1.1]; exact h2)
      exact ⟨h1.1, by rw [if_neg h3]; exact h1.2⟩
  · intro c hc ha
    rcases List.mem_cons.1 hc with rfl | hc
    · cases ha
    · exact h.away c hc ha
  · simp only [List.filter_cons, Bool.not_false, if_true, List.map_cons]
    exact (h.us.cons _).trans (List.perm_append_singleton _ _).symm
  · simpa [List.filter_cons] using h.ls
theorem Rel.write {F : List Ck} {U : List Int} {mem : Nat → List UInt8} {L : List (Int × List UInt8)} {z : Nat} {x : List UInt8} (h : Rel (⟨false, z, x⟩ :: F) U mem L) (hU : U.Nodup) (y rest : List UInt8) (hy : x.length + y.length ≤ 64) : Rel (⟨false, z, x ++ y⟩ :: F) U (fun i => if i = z then (mem z).take x.length ++ (y ++ rest) else mem i) L := by
  have hnd : (((⟨false, z, x⟩ :: F : List Ck).filter (fun c => !c.away)).map Ck.id).Nodup := h.us.nodup_iff.2 hU
  simp only [List.filter_cons, Bool.not_false, if_true, List.map_cons, List.nodup_cons] at hnd
  refine ⟨?_, ?_, ?_, ?_, ?_⟩
  · intro c hc
    rcases List.mem_cons.1 hc with rfl | hc
    · simp only [List.length_append]; exact hy
    · exact h.len c (List.mem_cons_of_mem _ hc)
  · intro c hc ha
    rcases List.mem_cons.1 hc with rfl | hc
    · have h1 := (h.here _ (List.mem_cons_self ..) rfl).2
      refine ⟨Int.natCast_nonneg _, ?_⟩
      simp only [Int.toNat_natCast, if_true] at h1 ⊢
      rw [h1, ← List.append_assoc]
      exact List.take_left
    · have h1 := h.here c (List.mem_cons_of_mem _ hc) ha
      have h3 : c.id.toNat ≠ z := fun e => hnd.1 (List.mem_map.2 ⟨c, List.mem_filter.2 ⟨hc, by simp [ha]⟩, by rw [← e, Int.toNat_of_nonneg h1.1]⟩)
      exact ⟨h1.1, by rw [if_neg h3]; exact h1.2⟩
  · intro c hc ha
    rcases List.mem_cons.1 hc with rfl | hc
    · cases ha
    · exact h.away c (List.mem_cons_of_mem _ hc) ha
  · simpa [List.filter_cons] using h.us
  · simpa [List.filter_cons] using h.ls
theorem less_perm {U V : List Int} {z : Int} (h : (z :: V).Perm U) (hU : U.Nodup) : V.Perm (less U z) := by
  have hnd : (z :: V).Nodup := h.nodup_iff.2 hU
  have h1 := h.filter (fun y => !(y == z))
  have h2 : (z :: V).filter (fun y => !(y == z)) = V := by
    rw [List.filter_cons, if_neg (by simp), List.filter_eq_self]
    intro a ha
    have : a ≠ z := fun e => (List.nodup_cons.1 hnd).1 (e ▸ ha)
    simp [this]
  rw [h2] at h1
  exact h1
theorem Rel.give {F : List Ck} {U : List Int} {mem : Nat → List UInt8} {L : List (Int × List UInt8)} {z : Int} {x : List UInt8} (h : Rel (⟨false, z, x⟩ :: F) U mem L) (hU : U.Nodup) : Rel F (less U z) mem L := by
  refine ⟨fun c hc => h.len c (List.mem_cons_of_mem _ hc), fun c hc => h.here c (List.mem_cons_of_mem _ hc), fun c hc => h.away c (List.mem_cons_of_mem _ hc), ?_, ?_⟩
  · have := h.us
    simp only [List.filter_cons, Bool.not_false, if_true, List.map_cons] at this
    exact less_perm this hU
  · simpa [List.filter_cons] using h.ls
theorem Rel.drop {F : List Ck} {U : List Int} {mem : Nat → List UInt8} {L : List (Int × List UInt8)} {z : Int} {x : List UInt8} (h : Rel (⟨true, z, x⟩ :: F) U mem L) (hL : (L.map (·.1)).Nodup) : Rel F U mem (L.filter (fun p => !(p.1 == z))) := by
  have hp := h.ls
  simp only [List.filter_cons, if_true, List.map_cons] at hp
  have hnd := hp.nodup_iff.2 hL
  refine ⟨fun c hc => h.len c (List.mem_cons_of_mem _ hc), fun c hc => h.here c (List.mem_cons_of_mem _ hc), ?_, ?_, ?_⟩
  · intro c hc ha
    obtain ⟨blk, h1, h2⟩ := h.away c (List.mem_cons_of_mem _ hc) ha
    refine ⟨blk, List.mem_filter.2 ⟨h1, ?_⟩, h2⟩
    have : c.id ≠ z := fun e => (List.nodup_cons.1 hnd).1 (List.mem_map.2 ⟨c, List.mem_filter.2 ⟨hc, by simp [ha]⟩, e⟩)
    simp [this]
  · simpa [List.filter_cons] using h.us
  · have h2 : (L.filter (fun p => !(p.1 == z))).map (·.1) = less (L.map (·.1)) z := by
      unfold less; rw [List.filter_map]; rfl
    rw [h2]
    exact less_perm hp hL
theorem Rel.spill {F : List Ck} {U : List Int} {mem : Nat → List UInt8} {L : List (Int × List UInt8)} {z : Nat} {x : List UInt8} (h : Rel (⟨false, z, x⟩ :: F) U mem L) (hU : U.Nodup) (y : Int) : Rel (⟨true, y, x⟩ :: F) (less U z) mem (L ++ [(y, mem z)]) := by
  have hg := h.give hU
  have h1 := (h.here _ (List.mem_cons_self ..) rfl).2
  simp only [Int.toNat_natCast] at h1
  refine ⟨?_, ?_, ?_, ?_, ?_⟩
  · intro c hc
    rcases List.mem_cons.1 hc with rfl | hc
    · exact (fun (h : x.length ≤ 64) => h) (h.len ⟨false, z, x⟩ (List.mem_cons_self ..))
    · exact hg.len c hc
  · intro c hc ha
    rcases List.mem_cons.1 hc with rfl | hc
    · cases ha
    · exact hg.here c hc ha
  · intro c hc ha
    rcases List.mem_cons.1 hc with rfl | hc
    · exact ⟨mem z, by simp, h1⟩
    · obtain ⟨blk, h2, h3⟩ := hg.away c hc ha
      exact ⟨blk, List.mem_append_left _ h2, h3⟩
  · simpa [List.filter_cons] using hg.us
  · simp only [List.filter_cons, if_true, List.map_cons, List.map_append, List.map_nil]
    exact (hg.ls.cons _).trans (List.perm_append_singleton _ _).symm
/-- The lists one behind the other: one of them first. -/
theorem flat_perm : ∀ (tiles : List (List Ck)) (t : Nat) (cs : List Ck), t < tiles.length → (tiles.set t cs).flatten.Perm (cs ++ (tiles.set t []).flatten)
  | [], t, cs, h => by simp at h
  | x :: tiles, 0, cs, _ => by simp
  | x :: tiles, t + 1, cs, h => by
    simp only [List.set_cons_succ, List.flatten_cons]
    exact ((flat_perm tiles t cs (by simpa using h)).append_left x).trans (by
      rw [← List.append_assoc, ← List.append_assoc]
      exact List.perm_append_comm.append_right _)
theorem flat_set_self {tiles : List (List Ck)} {t : Nat} {cs : List Ck} (h : tiles[t]? = some cs) : tiles.set t cs = tiles := by
  apply List.ext_getElem?
  intro i
  rw [List.getElem?_set]
  split
  · next e => subst e; rw [h, if_pos (List.getElem?_eq_some_iff.1 h).1]
  · rfl
theorem flat_perm_at {tiles : List (List Ck)} {t : Nat} {cs : List Ck} (h : tiles[t]? = some cs) : tiles.flatten.Perm (cs ++ (tiles.set t []).flatten) := by
  have := flat_perm tiles t cs (List.getElem?_eq_some_iff.1 h).1
  rwa [flat_set_self h] at this
theorem hereN_perm {F F' : List Ck} (h : F.Perm F') : hereN F = hereN F' := (h.filter _).length_eq
theorem awayN_perm {F F' : List Ck} (h : F.Perm F') : awayN F = awayN F' := (h.filter _).length_eq
theorem hereN_app (F G : List Ck) : hereN (F ++ G) = hereN F + hereN G := by unfold hereN; rw [List.filter_append, List.length_append]
theorem awayN_app (F G : List Ck) : awayN (F ++ G) = awayN F + awayN G := by unfold awayN; rw [List.filter_append, List.length_append]
end Go.Proofs.Ytakobldhjndeiaa
/- The lists read: valid, needs, Len. -/
namespace Go.Proofs.Ytakobldhjndeiaa
open Go.RowKit
set_option linter.unusedVariables false
set_option linter.unusedSimpArgs false

theorem valid_nil (t : Int) (w : World) : Calls Try.prog 22 #[.pointer none, .int .i64 t] w fun e w' => e = .returned (.bool false) ∧ w' = w := by
  go_enter Try.func22, Try.ntmps22
  go_wp2
  go_ret
  exact ⟨rfl, rfl⟩
theorem valid_yes {w : World} {lb : Nat} {SL : List Nat} {pa pd : Option Addr} {tiles : List (List Ck)} (h : Ls w lb SL pa pd tiles) (t : Nat) (ht : t < tiles.length) :
    Calls Try.prog 22 #[.pointer (some ⟨lb, 0, none⟩), .int .i64 t] w fun e w' => e = .returned (.bool true) ∧ w' = w := by
  obtain ⟨cb, vs, h, rfl⟩ := h
  have hl := h.len
  have c2 := cell_at h.top 2
  have b1 : t < vs.length := by omega
  clear hl ht
  go_enter Try.func22, Try.ntmps22
  go_wp2
  go_ret
  exact ⟨rfl, rfl⟩
theorem valid_no {w : World} {lb : Nat} {SL : List Nat} {pa pd : Option Addr} {tiles : List (List Ck)} (h : Ls w lb SL pa pd tiles) (t : Int) (ht : t < 0 ∨ (tiles.length : Int) ≤ t) :
    Calls Try.prog 22 #[.pointer (some ⟨lb, 0, none⟩), .int .i64 t] w fun e w' => e = .returned (.bool false) ∧ w' = w := by
  obtain ⟨cb, vs, h, rfl⟩ := h
  have hl := h.len
  have c2 := cell_at h.top 2
  rcases Int.lt_or_le t 0 with h0 | h0
  · have b0 : ¬ (0 ≤ t) := by omega
    clear hl ht
    go_enter Try.func22, Try.ntmps22
    go_wp2
    go_ret
    exact ⟨rfl, rfl⟩
  · have b1 : ¬ (t < (vs.length : Int)) := by omega
    clear hl ht
    go_enter Try.func22, Try.ntmps22
    go_wp2
    go_ret
    exact ⟨rfl, rfl⟩

theorem ret_i64 {k : IntKind} {a b : Int} (h : a = b) : Ending.returned (.int k a) = .returned (.int k b) := by rw [h]
/-- A tile's row. -/
theorem Lsx.at {w : World} {lb cb : Nat} {pa pd : Option Addr} {vs : List Value} {tiles : List (List Ck)} (h : Lsx w lb cb pa pd vs tiles) {t : Nat} {cs : List Ck} (ht : tiles[t]? = some cs) :
    ∃ a cap, vs[t]? = some (.slice a cs.length cap) ∧ w.cell? ⟨cb, t, none⟩ = some (.slice a cs.length cap) ∧ w.frozen? ⟨cb, t, none⟩ = false ∧ OwnL 73 3 Ck.cells w 0 (.slice a cs.length cap) cs ∧ t < vs.length ∧ cs.length ≤ cap ∧ cap ≤ maxLen := by
  have hl := (List.getElem?_eq_some_iff.1 ht).1
  have hv : t < vs.length := by rw [h.len]; exact hl
  have h1 : vs[t]? = some vs[t] := by simp
  have h2 := h.rows t _ cs h1 ht
  obtain ⟨a, cap, e, hs⟩ := h2.read
  rw [e] at h1 h2
  exact ⟨a, cap, h1, by rw [cell_at h.row]; simpa using h1, free_at h.row t, h2, hv, hs.le, hs.max⟩

theorem needs_calls {w : World} {lb : Nat} {SL : List Nat} {pa pd : Option Addr} {tiles : List (List Ck)} (h : Ls w lb SL pa pd tiles) {t : Nat} {cs : List Ck} (ht : tiles[t]? = some cs) (h64 : ∀ c ∈ cs, c.bs.length ≤ 64) (n : Nat) (hn : n ≤ 9000000000000000) :
    Calls Try.prog 23 #[.pointer (some ⟨lb, 0, none⟩), .int .i64 t, .int .i64 n] w fun e w' => e = .returned (.int .i64 (needN (cs.map Ck.sh) n : Nat)) ∧ w' = w := by
  obtain ⟨cb, vs, h, rfl⟩ := h
  have c2 := cell_at h.top 2
  obtain ⟨a, cap, hv, ct, ft, ho, hvl, hle, hmx⟩ := h.at ht
  unfold maxLen at hmx
  have z0 : (0 : Int) ≤ (t : Int) := Int.natCast_nonneg _
  rcases List.eq_nil_or_concat cs with rfl | ⟨m, c, rfl⟩
  · have HN := hid (show needN ([].map Ck.sh) n = (n + 63) / 64 from rfl)
    clear ht h64 ho hv
    go_enter Try.func23, Try.ntmps23
    go_wp2
    go_ret
    exact ⟨ret_i64 (by rw [HN.out]; omega), rfl⟩
  · obtain ⟨aw, z, bs⟩ := c
    have hc64 := h64 ⟨aw, z, bs⟩ (by simp)
    simp only [List.concat_eq_append, List.length_append, List.length_singleton] at ct ho hle hv
    obtain ⟨g, cap', e, _, _⟩ := ho.there ck_sz (by decide) (by simp)
    simp only [Value.slice.injEq] at e
    obtain ⟨rfl, _, rfl⟩ := e
    have k0 := ho.cells ck_sz (by decide) m.length (by simp) 0 (by decide)
    have k2 := ho.cells ck_sz (by decide) m.length (by simp) 2 (by decide)
    simp only [List.getElem_append_right (Nat.le_refl _), Nat.sub_self, List.getElem_singleton, Ck.cells, List.getElem?_cons_zero, List.getElem?_cons_succ, Nat.add_zero] at k0 k2
    have HN := hid (show needN ((m.concat ⟨aw, z, bs⟩).map Ck.sh) n = (n - (if aw then 0 else 64 - bs.length) + 63) / 64 by
      unfold needN; rw [List.concat_eq_append, List.map_append, List.map_singleton]; show (n - left (m.map Ck.sh ++ [(aw, bs)]) + 63) / 64 = _; rw [left_snoc])
    obtain ⟨k, hk⟩ : ∃ k, m.length = k := ⟨_, rfl⟩
    obtain ⟨q, hq⟩ : ∃ q, bs.length = q := ⟨_, rfl⟩
    rw [hk] at ct k0 k2 hle
    rw [hq] at k2 HN hc64
    have hc : (k : Int) < (k : Int) + 1 := by omega
    have hc2 : k < k + 1 := by omega
    have hq1 : IntKind.i64.wrap ((k : Int) + 1 - 1) = k := by rw [show ((k : Int) + 1 - 1) = k by omega]; exact IntWalk.i64_in _ (by omega)
    obtain ⟨N, hN⟩ : ∃ N, needN ((m.concat ⟨aw, z, bs⟩).map Ck.sh) n = N := ⟨_, rfl⟩
    rw [hN] at HN ⊢
    clear ht h64 ho hv hk hq hN
    cases aw
    · have r1 : IntKind.i64.wrap (64 - (q : Int)) = 64 - (q : Int) := IntWalk.i64_in _ (by omega)
      have r2 : IntKind.i64.wrap ((n : Int) - (64 - (q : Int))) = (n : Int) - (64 - (q : Int)) := IntWalk.i64_in _ (by omega)
      go_enter Try.func23, Try.ntmps23
      go_wp2
      all_goals
        go_ret
        exact ⟨ret_i64 (by rw [HN.out]; simp; omega), rfl⟩
    · go_enter Try.func23, Try.ntmps23
      go_wp2
      all_goals
        go_ret
        exact ⟨ret_i64 (by rw [HN.out]; simp; omega), rfl⟩

/-- The bytes that some chunks stand for. -/
def text (cs : List Ck) : List UInt8 := (cs.map Ck.bs).flatten
theorem text_snoc (cs : List Ck) (k : Nat) (h : k < cs.length) : text (cs.take (k + 1)) = text (cs.take k) ++ cs[k].bs := by
  unfold text; rw [List.take_succ_eq_append_getElem h, List.map_append, List.flatten_append]; simp
theorem text_le {cs : List Ck} (h : ∀ c ∈ cs, c.bs.length ≤ 64) : (text cs).length ≤ 64 * cs.length := by
  induction cs with
  | nil => simp [text]
  | cons c cs ih =>
    have h1 := h c (by simp)
    have h2 := ih (fun c hc => h c (by simp [hc]))
    unfold text at *
    simp only [List.map_cons, List.flatten_cons, List.length_append, List.length_cons]
    omega
theorem text_take_le {cs : List Ck} (h : ∀ c ∈ cs, c.bs.length ≤ 64) (k : Nat) : (text (cs.take k)).length ≤ 64 * k := by
  have h1 := text_le (cs := cs.take k) (fun c hc => h c (List.mem_of_mem_take hc))
  have h2 : (cs.take k).length ≤ k := List.length_take_le _ _
  omega
theorem len_no {w : World} {lb : Nat} {SL : List Nat} {pa pd : Option Addr} {tiles : List (List Ck)} (h : Ls w lb SL pa pd tiles) (t : Int) (ht : t < 0 ∨ (tiles.length : Int) ≤ t) :
    Calls Try.prog 17 #[.pointer (some ⟨lb, 0, none⟩), .int .i64 t] w fun e w' => e = .returned (.int .i64 0) ∧ w' = w := by
  go_enter Try.func17, Try.ntmps17
  go_wp2_with (go_at_call 22; refine (valid_no h t ht).mono ?_; rintro e w1 ⟨rfl, rfl⟩)
  go_ret
  exact ⟨rfl, rfl⟩
theorem len_nil (t : Int) (w : World) : Calls Try.prog 17 #[.pointer none, .int .i64 t] w fun e w' => e = .returned (.int .i64 0) ∧ w' = w := by
  go_enter Try.func17, Try.ntmps17
  go_wp2_with (go_at_call 22; refine (valid_nil t _).mono ?_; rintro e w1 ⟨rfl, rfl⟩)
  go_ret
  exact ⟨rfl, rfl⟩
set_option maxRecDepth 10000 in
theorem len_calls {w : World} {lb : Nat} {SL : List Nat} {pa pd : Option Addr} {tiles : List (List Ck)} (h : Ls w lb SL pa pd tiles) {t : Nat} {cs : List Ck} (ht : tiles[t]? = some cs) (h64 : ∀ c ∈ cs, c.bs.length ≤ 64) (hcl : cs.length ≤ 1000000) :
    Calls Try.prog 17 #[.pointer (some ⟨lb, 0, none⟩), .int .i64 t] w fun e w' => e = .returned (.int .i64 (text cs).length) ∧ Below w.heap.size w w' := by
  have HV := valid_yes h t (List.getElem?_eq_some_iff.1 ht).1
  obtain ⟨cb, vs, h, rfl⟩ := h
  have c2 := cell_at h.top 2
  obtain ⟨a, cap, hv, ct, ft, ho, hvl, hle, hmx⟩ := h.at ht
  unfold maxLen at hmx
  have z0 : (0 : Int) ≤ (t : Int) := Int.natCast_nonneg _
  have HO := hid ho
  have H64 := hid h64
  clear ht h64 ho hv h
  go_enter Try.func17, Try.ntmps17
  go_wp2_with (go_at_call 22; refine HV.mono ?_; rintro e w1 ⟨rfl, rfl⟩)
  go_loopw [5, 7, 19] (fun n _ i wr => ∃ k : Nat, k ≤ cs.length ∧ i = .int .i64 (k : Int) ∧ n = .int .i64 ((text (cs.take k)).length : Int) ∧ Below w1.heap.size w1 wr) (fun _ _ i _ => cs.length - (intOf i).toNat)
  case atStart => exact ⟨0, by omega, rfl, rfl, Below.refl _ _⟩
  case round =>
    obtain ⟨k, hk, rfl, rfl, hb⟩ := hrel
    by_cases hlt : k < cs.length
    · have hts := text_snoc cs k hlt
      have htl := text_take_le H64.out k
      have hck := H64.out cs[k] (by simp)
      obtain ⟨g, cap', e, _, _⟩ := HO.out.there ck_sz (by decide) (by rintro rfl; simp at hlt)
      simp only [Value.slice.injEq] at e
      obtain ⟨rfl, _, rfl⟩ := e
      have ho2 : OwnL 73 3 Ck.cells wr 0 (.slice (some ⟨g, 0, none⟩) cs.length cap) cs := OwnL.keep HO.out hb
      have k0 := ho2.cells ck_sz (by decide) k hlt 0 (by decide)
      have k1 := ho2.cells ck_sz (by decide) k hlt 1 (by decide)
      have k2 := ho2.cells ck_sz (by decide) k hlt 2 (by decide)
      obtain ⟨c, hc⟩ : ∃ c, cs[k] = c := ⟨_, rfl⟩
      rw [hc] at k0 k1 k2 hts hck
      obtain ⟨aw, z, bs⟩ := c
      simp only [Ck.cells, List.getElem?_cons_zero, List.getElem?_cons_succ, Nat.add_zero] at k0 k1 k2
      simp only [] at hts hck
      obtain ⟨q, hq⟩ : ∃ q, bs.length = q := ⟨_, rfl⟩
      rw [hq] at k2 hck
      have hts2 : (text (cs.take (k + 1))).length = (text (cs.take k)).length + q := by rw [hts, List.length_append, hq]
      have HTS := hid hts2
      obtain ⟨T, hT⟩ : ∃ T, (text (cs.take k)).length = T := ⟨_, rfl⟩
      rw [hT] at HTS htl ⊢
      clear hts hts2 hc ho2 hq hT
      go_wp2
      go_roundw
      case rel => exact ⟨k + 1, by omega, by go_num, by rw [HTS.out]; go_num, (hb.alloc hb.size _)⟩
      case measure => simp [intOf]; omega
    · obtain rfl : k = cs.length := by omega
      go_wp2
      go_ret
      exact ⟨ret_i64 (by rw [List.take_length]), hb⟩
theorem away_nil (w : World) : Calls Try.prog 20 #[.pointer none] w fun e w' => e = .returned (.int .i64 0) ∧ w' = w := by
  go_enter Try.func20, Try.ntmps20
  go_wp2
  go_ret
  exact ⟨rfl, rfl⟩
theorem away_calls {w : World} {lb gd : Nat} {SL SD : List Nat} {pa : Option Addr} {tiles : List (List Ck)} (h : Ls w lb SL pa (some ⟨gd, 0, none⟩) tiles) {d : Dev} (hd : Dv w gd SD d) :
    Calls Try.prog 20 #[.pointer (some ⟨lb, 0, none⟩)] w fun e w' => e = .returned (.int .i64 d.L.length) ∧ w' = w := by
  obtain ⟨cb, vs, h, rfl⟩ := h
  have c1 := cell_at h.top 1
  go_enter Try.func20, Try.ntmps20
  go_wp2_with (go_at_call 19; refine (dv_used hd).mono ?_; rintro e w1 ⟨rfl, rfl⟩)
  go_ret
  exact ⟨rfl, rfl⟩
end Go.Proofs.Ytakobldhjndeiaa
/- The lists with their arena and device. -/
namespace Go.Proofs.Ytakobldhjndeiaa
open Go.RowKit
set_option linter.unusedVariables false
set_option linter.unusedSimpArgs false

theorem Dv.lt {w : World} {g : Nat} {SD : List Nat} {d : Dev} (h : Dv w g SD d) : ∀ k ∈ SD, k < w.heap.size := by
  obtain ⟨mb, bb, v1, v2, V, h, rfl⟩ := h
  have hs : ∀ (v : Value) (zs : List Int), (∃ a n c, v = .slice a n c ∧ Sl w a n c 1 (zs.map i64) ∧ (zs.map i64 ≠ [] → ∀ p, a = some p → p.block ∉ [g, mb])) → ∀ k ∈ blockOf v zs, k < w.heap.size := by
    rintro v zs ⟨a, n, c, rfl, h1, _⟩ k hk
    cases a with
    | none => simp [blockOf] at hk
    | some p => cases zs with
      | nil => simp [blockOf] at hk
      | cons z zs =>
        simp [blockOf] at hk
        subst hk
        obtain ⟨b, off, e1, e2, _⟩ := h1.row (by simp)
        cases e1
        exact e2
  intro k hk
  unfold dvBlocks at hk
  simp only [List.mem_cons, List.mem_append] at hk
  rcases hk with rfl | rfl | rfl | ((hk | hk) | hk)
  · exact heap_lt h.top
  · exact h.map.lt
  · exact h.bends.lt
  · exact hs _ _ h.full k hk
  · exact hs _ _ h.fail k hk
  · obtain ⟨p, hp, e⟩ := rowBlocks_mem.1 hk
    exact rows_lt h.rows p hp k e
theorem Dv.nodup {w : World} {g : Nat} {SD : List Nat} {d : Dev} (h : Dv w g SD d) : (d.L.map (·.1)).Nodup := by
  obtain ⟨mb, bb, v1, v2, V, h, rfl⟩ := h
  rw [← rows_keys h.rows]
  exact h.map.nodup
theorem Dv.nums {w : World} {g : Nat} {SD : List Nat} {d : Dev} (h : Dv w g SD d) : ∀ p ∈ d.L, 1 ≤ p.1 ∧ p.1 ≤ d.next := by
  obtain ⟨mb, bb, v1, v2, V, h, rfl⟩ := h
  exact h.nums
theorem Ls.lt {w : World} {lb : Nat} {SL : List Nat} {pa pd : Option Addr} {tiles : List (List Ck)} (h : Ls w lb SL pa pd tiles) : ∀ k ∈ SL, k < w.heap.size := by
  obtain ⟨cb, vs, h, rfl⟩ := h
  intro k hk
  unfold lsBlocks at hk
  rcases List.mem_cons.1 hk with rfl | hk
  · exact heap_lt h.top
  rcases List.mem_cons.1 hk with rfl | hk
  · exact heap_lt h.row
  obtain ⟨v, hv, e⟩ := List.mem_filterMap.1 hk
  obtain ⟨t, ht⟩ := List.getElem?_of_mem hv
  have htl : t < tiles.length := by rw [← h.len]; exact (List.getElem?_eq_some_iff.1 ht).1
  have := h.rows t v tiles[t] ht (by simp)
  exact (World.ownsRow.lt this k e).2
theorem Ar.mem64 {w : World} {g : Nat} {S : List Nat} {r : Nat} {free U : List Int} {most : Int} {mem : Nat → List UInt8} (h : Ar w g S r free U most mem) {n : Nat} (hn : (n : Int) ∈ U) : (mem n).length = 64 := by
  obtain ⟨gb, mb, fv, bl, h, rfl, rfl⟩ := h
  obtain ⟨b, _, _, _, _, _, h64⟩ := h.block hn
  exact h64

structure SysX (w : World) (SA SD SL : List Nat) (g gd lb r : Nat) (free U : List Int) (most : Int) (mem : Nat → List UInt8) (tiles : List (List Ck)) (F : List Ck) (d : Dev) : Prop where
  ar : Ar w g SA r free U most mem
  dv : Dv w gd SD d
  ls : Ls w lb SL (some ⟨g, 0, none⟩) (some ⟨gd, 0, none⟩) tiles
  rel : Rel F U mem d.L
  ad : ∀ k ∈ SA, k ∉ SD
  al : ∀ k ∈ SA, k ∉ SL
  dl : ∀ k ∈ SD, k ∉ SL
  mo : most ≤ r
section
variable {w w' : World} {SA SD SL SA' SD' SL' : List Nat} {g gd lb r : Nat} {free U free' U' : List Int} {most most' : Int} {mem mem' : Nat → List UInt8} {tiles tiles' : List (List Ck)} {F F' : List Ck} {d d' : Dev}
theorem SysX.arena (h : SysX w SA SD SL g gd lb r free U most mem tiles F d) (hA : Ar w' g SA' r free' U' most' mem') (hG : Grows SA w SA') (hf : Fr SA w w') (hR : Rel F' U' mem' d.L) (hm : most' ≤ r) : SysX w' SA' SD SL g gd lb r free' U' most' mem' tiles F' d := by
  refine ⟨hA, h.dv.fr hf (fun k hk hm => h.ad k hm hk), h.ls.fr hf (fun k hk hm => h.al k hm hk), hR, ?_, ?_, h.dl, hm⟩
  · intro k hk hm
    rcases hG k hk with h1 | h1
    · exact h.ad k h1 hm
    · have := h.dv.lt k hm; omega
  · intro k hk hm
    rcases hG k hk with h1 | h1
    · exact h.al k h1 hm
    · have := h.ls.lt k hm; omega
theorem SysX.device (h : SysX w SA SD SL g gd lb r free U most mem tiles F d) (hD : Dv w' gd SD' d') (hG : Grows SD w SD') (hf : Fr SD w w') (hR : Rel F' U mem d'.L) : SysX w' SA SD' SL g gd lb r free U most mem tiles F' d' := by
  refine ⟨h.ar.fr hf (fun k hk hm => h.ad k hk hm), hD, h.ls.fr hf (fun k hk hm => h.dl k hm hk), hR, ?_, h.al, ?_, h.mo⟩
  · intro k hk hm
    rcases hG k hm with h1 | h1
    · exact h.ad k hk h1
    · have := h.ar.lt k hk; omega
  · intro k hk hm
    rcases hG k hk with h1 | h1
    · exact h.dl k h1 hm
    · have := h.ls.lt k hm; omega
theorem SysX.lists (h : SysX w SA SD SL g gd lb r free U most mem tiles F d) (hL : Ls w' lb SL' (some ⟨g, 0, none⟩) (some ⟨gd, 0, none⟩) tiles') (hG : Grows SL w SL') (hf : Fr SL w w') (hR : Rel F' U mem d.L) : SysX w' SA SD SL' g gd lb r free U most mem tiles' F' d := by
  refine ⟨h.ar.fr hf (fun k hk hm => h.al k hk hm), h.dv.fr hf (fun k hk hm => h.dl k hk hm), hL, hR, h.ad, ?_, ?_, h.mo⟩
  · intro k hk hm
    rcases hG k hm with h1 | h1
    · exact h.al k hk h1
    · have := h.ar.lt k hk; omega
  · intro k hk hm
    rcases hG k hm with h1 | h1
    · exact h.dl k hk h1
    · have := h.dv.lt k hk; omega
theorem SysX.fr (h : SysX w SA SD SL g gd lb r free U most mem tiles F d) {S : List Nat} (hf : Fr S w w') (hn : ∀ k ∈ SA ++ (SD ++ SL), k ∉ S) : SysX w' SA SD SL g gd lb r free U most mem tiles F d :=
  ⟨h.ar.fr hf (fun k hk => hn k (by simp [hk])), h.dv.fr hf (fun k hk => hn k (by simp [hk])), h.ls.fr hf (fun k hk => hn k (by simp [hk])), h.rel, h.ad, h.al, h.dl, h.mo⟩
theorem SysX.keep (h : SysX w SA SD SL g gd lb r free U most mem tiles F d) (hb : Below w.heap.size w w') : SysX w' SA SD SL g gd lb r free U most mem tiles F d := h.fr (Fr.ofBelow hb) (fun k _ hm => by cases hm)
theorem SysX.perm (h : SysX w SA SD SL g gd lb r free U most mem tiles F d) (hp : F'.Perm F) : SysX w SA SD SL g gd lb r free U most mem tiles F' d := ⟨h.ar, h.dv, h.ls, h.rel.perm hp, h.ad, h.al, h.dl, h.mo⟩
theorem fr_a (h : Fr SA w w') : Fr (SA ++ (SD ++ SL)) w w' := h.mono (fun k hk => .inl (by simp [hk]))
theorem fr_d (h : Fr SD w w') : Fr (SA ++ (SD ++ SL)) w w' := h.mono (fun k hk => .inl (by simp [hk]))
theorem fr_l (h : Fr SL w w') : Fr (SA ++ (SD ++ SL)) w w' := h.mono (fun k hk => .inl (by simp [hk]))
theorem grows_a (h : Grows SA w SA') : Grows (SA ++ (SD ++ SL)) w (SA' ++ (SD ++ SL)) := by
  intro k hk
  rcases List.mem_append.1 hk with h1 | h1
  · rcases h k h1 with h2 | h2
    · exact .inl (List.mem_append_left _ h2)
    · exact .inr h2
  · exact .inl (List.mem_append_right _ h1)
theorem grows_d (h : Grows SD w SD') : Grows (SA ++ (SD ++ SL)) w (SA ++ (SD' ++ SL)) := by
  intro k hk
  simp only [List.mem_append] at hk ⊢
  rcases hk with h1 | h1 | h1
  · exact .inl (.inl h1)
  · rcases h k h1 with h2 | h2
    · exact .inl (.inr (.inl h2))
    · exact .inr h2
  · exact .inl (.inr (.inr h1))
theorem grows_l (h : Grows SL w SL') : Grows (SA ++ (SD ++ SL)) w (SA ++ (SD ++ SL')) := by
  intro k hk
  simp only [List.mem_append] at hk ⊢
  rcases hk with h1 | h1 | h1
  · exact .inl (.inl h1)
  · exact .inl (.inr (.inl h1))
  · rcases h k h1 with h2 | h2
    · exact .inl (.inr (.inr h2))
    · exact .inr h2
theorem grows_less {S S' : List Nat} (h : ∀ k ∈ S', k ∈ S) : Grows S w S' := fun k hk => .inl (h k hk)
end
/-- Lists, their arena and device, over the blocks S. -/
def Sys (w : World) (S : List Nat) (g gd lb r : Nat) (tiles : List (List Ck)) (d : Dev) : Prop :=
  ∃ SA SD SL free U most mem, SysX w SA SD SL g gd lb r free U most mem tiles tiles.flatten d ∧ S = SA ++ (SD ++ SL)
theorem Sys.fr {w w' : World} {S S' : List Nat} {g gd lb r : Nat} {tiles : List (List Ck)} {d : Dev} (h : Sys w S g gd lb r tiles d) (hf : Fr S' w w') (hn : ∀ k ∈ S, k ∉ S') : Sys w' S g gd lb r tiles d := by
  obtain ⟨SA, SD, SL, free, U, most, mem, h, rfl⟩ := h
  exact ⟨SA, SD, SL, free, U, most, mem, h.fr hf hn, rfl⟩
theorem Sys.keep {w w' : World} {S : List Nat} {g gd lb r : Nat} {tiles : List (List Ck)} {d : Dev} (h : Sys w S g gd lb r tiles d) (hb : Below w.heap.size w w') : Sys w' S g gd lb r tiles d := h.fr (Fr.ofBelow hb) (fun k _ hm => by cases hm)
theorem Sys.lt {w : World} {S : List Nat} {g gd lb r : Nat} {tiles : List (List Ck)} {d : Dev} (h : Sys w S g gd lb r tiles d) : ∀ k ∈ S, k < w.heap.size := by
  obtain ⟨SA, SD, SL, free, U, most, mem, h, rfl⟩ := h
  intro k hk
  simp only [List.mem_append] at hk
  rcases hk with hk | hk | hk
  · exact h.ar.lt k hk
  · exact h.dv.lt k hk
  · exact h.ls.lt k hk
theorem Sys.away {w : World} {S : List Nat} {g gd lb r : Nat} {tiles : List (List Ck)} {d : Dev} (h : Sys w S g gd lb r tiles d) : d.L.length = awayN tiles.flatten := by
  obtain ⟨SA, SD, SL, free, U, most, mem, h, rfl⟩ := h
  exact h.rel.awayN
theorem Sys.here {w : World} {S : List Nat} {g gd lb r : Nat} {tiles : List (List Ck)} {d : Dev} (h : Sys w S g gd lb r tiles d) : hereN tiles.flatten ≤ r := by
  obtain ⟨SA, SD, SL, free, U, most, mem, h, rfl⟩ := h
  have := h.ar.nodup
  rw [← h.rel.hereN]; omega
theorem Sys.len64 {w : World} {S : List Nat} {g gd lb r : Nat} {tiles : List (List Ck)} {d : Dev} (h : Sys w S g gd lb r tiles d) {t : Nat} {cs : List Ck} (ht : tiles[t]? = some cs) : ∀ c ∈ cs, c.bs.length ≤ 64 := by
  obtain ⟨SA, SD, SL, free, U, most, mem, h, rfl⟩ := h
  exact fun c hc => h.rel.len c (List.mem_flatten.2 ⟨cs, List.mem_of_getElem? ht, hc⟩)
theorem len_parts : ∀ cs : List Ck, cs.length = hereN cs + awayN cs
  | [] => rfl
  | c :: cs => by
    have ih := len_parts cs
    unfold hereN awayN at *
    cases hc : c.away <;> simp [List.filter_cons, hc] <;> omega
theorem Sys.count {w : World} {S : List Nat} {g gd lb r : Nat} {tiles : List (List Ck)} {d : Dev} (h : Sys w S g gd lb r tiles d) {t : Nat} {cs : List Ck} (ht : tiles[t]? = some cs) : cs.length ≤ 4096 + d.L.length := by
  have h1 := h.away
  have h2 := h.here
  obtain ⟨SA, SD, SL, free, U, most, mem, h, rfl⟩ := h
  have h3 := h.ar.nodup
  have h4 := hereN_perm (flat_perm_at ht)
  have h5 := awayN_perm (flat_perm_at ht)
  rw [hereN_app] at h4
  rw [awayN_app] at h5
  have h6 := len_parts cs
  omega
theorem Sys.ls {w : World} {S : List Nat} {g gd lb r : Nat} {tiles : List (List Ck)} {d : Dev} (h : Sys w S g gd lb r tiles d) : ∃ SL, Ls w lb SL (some ⟨g, 0, none⟩) (some ⟨gd, 0, none⟩) tiles := by
  obtain ⟨SA, SD, SL, free, U, most, mem, h, rfl⟩ := h
  exact ⟨_, h.ls⟩
theorem sys_used {w : World} {S : List Nat} {g gd lb r : Nat} {tiles : List (List Ck)} {d : Dev} (h : Sys w S g gd lb r tiles d) :
    Calls Try.prog 16 #[.pointer (some ⟨g, 0, none⟩)] w fun e w' => e = .returned (.int .i64 (hereN tiles.flatten)) ∧ w' = w := by
  obtain ⟨SA, SD, SL, free, U, most, mem, h, rfl⟩ := h
  rw [← h.rel.hereN]
  exact used_calls h.ar
theorem sys_most {w : World} {S : List Nat} {g gd lb r : Nat} {tiles : List (List Ck)} {d : Dev} (h : Sys w S g gd lb r tiles d) :
    Calls Try.prog 21 #[.pointer (some ⟨g, 0, none⟩)] w fun e w' => ∃ m : Int, e = .returned (.int .i64 m) ∧ m ≤ r ∧ w' = w := by
  obtain ⟨SA, SD, SL, free, U, most, mem, h, rfl⟩ := h
  exact (most_calls h.ar).mono fun e w' ⟨h1, h2⟩ => ⟨most, h1, h.mo, h2⟩
theorem sys_dused {w : World} {S : List Nat} {g gd lb r : Nat} {tiles : List (List Ck)} {d : Dev} (h : Sys w S g gd lb r tiles d) :
    Calls Try.prog 19 #[.pointer (some ⟨gd, 0, none⟩)] w fun e w' => e = .returned (.int .i64 (awayN tiles.flatten)) ∧ w' = w := by
  have := h.away
  obtain ⟨SA, SD, SL, free, U, most, mem, h, rfl⟩ := h
  rw [← this]
  exact dv_used h.dv
theorem sys_away {w : World} {S : List Nat} {g gd lb r : Nat} {tiles : List (List Ck)} {d : Dev} (h : Sys w S g gd lb r tiles d) :
    Calls Try.prog 20 #[.pointer (some ⟨lb, 0, none⟩)] w fun e w' => e = .returned (.int .i64 (awayN tiles.flatten)) ∧ w' = w := by
  have := h.away
  obtain ⟨SA, SD, SL, free, U, most, mem, h, rfl⟩ := h
  rw [← this]
  exact away_calls h.ls h.dv
theorem sys_len {w : World} {S : List Nat} {g gd lb r : Nat} {tiles : List (List Ck)} {d : Dev} (h : Sys w S g gd lb r tiles d) {t : Nat} {cs : List Ck} (ht : tiles[t]? = some cs) (hd : d.L.length ≤ 100000) :
    Calls Try.prog 17 #[.pointer (some ⟨lb, 0, none⟩), .int .i64 t] w fun e w' => e = .returned (.int .i64 (text cs).length) ∧ Below w.heap.size w w' := by
  have h1 := h.len64 ht
  have h2 := h.count ht
  obtain ⟨SA, SD, SL, free, U, most, mem, h, rfl⟩ := h
  exact len_calls h.ls ht h1 (by omega)
end Go.Proofs.Ytakobldhjndeiaa
/- The lists' memory: a row put anew, a cell of a row written. -/
namespace Go.Proofs.Ytakobldhjndeiaa
open Go.RowKit
set_option linter.unusedVariables false
set_option linter.unusedSimpArgs false

theorem own_beside_fr {w w' : World} {B : Nat} {e : TypeId} {size : Nat} {v : Value} {n : Nat} {xs : List Value} (h : w.ownsRow B e size v n xs) {S : List Nat} (hf : Fr S w w') (hn : ∀ k, v.ownBlock = some k → k ∉ S) : w'.ownsRow B e size v n xs := own_fr h hf hn
theorem Lsx.put {w w2 : World} {lb cb : Nat} {pa pd : Option Addr} {vs : List Value} {tiles : List (List Ck)} (h : Lsx w lb cb pa pd vs tiles) {t : Nat} {cs cs2 : List Ck} {v v2 : Value} (ht : tiles[t]? = some cs) (hv : vs[t]? = some v)
    (o : OwnL 73 3 Ck.cells w2 0 v2 cs2) (hf : Fr v.ownBlock.toList w w2) (hl : ∀ k, v2.ownBlock = some k → v.ownBlock = some k ∨ w.heap.size ≤ k) :
    Lsx (w2.setCell ⟨cb, t, none⟩ v2) lb cb pa pd (vs.set t v2) (tiles.set t cs2) ∧ Fr (lsBlocks lb cb vs) w (w2.setCell ⟨cb, t, none⟩ v2) ∧ Grows (lsBlocks lb cb vs) w (lsBlocks lb cb (vs.set t v2)) := by
  have hap := h.apart
  have htl : t < vs.length := (List.getElem?_eq_some_iff.1 hv).1
  have htt : t < tiles.length := (List.getElem?_eq_some_iff.1 ht).1
  have n1 : lb ∉ v.ownBlock.toList := by intro hm; simp at hm; exact (hap.2 t v lb hv hm).1 rfl
  have n2 : cb ∉ v.ownBlock.toList := by intro hm; simp at hm; exact (hap.2 t v cb hv hm).2 rfl
  have top2 := hf.heap h.top n1
  have row2 := hf.heap h.row n2
  have hs : Fr [cb] w2 (w2.setCell ⟨cb, t, none⟩ v2) := Fr.set (Fr.refl _ _) _ (.inl (by simp)) _
  have hlb := heap_lt h.top
  have hcb := heap_lt h.row
  have hv2 : ∀ k, v2.ownBlock = some k → k ≠ lb ∧ k ≠ cb := by
    intro k hk
    rcases hl k hk with h1 | h1
    · exact hap.2 t v k hv h1
    · exact ⟨by omega, by omega⟩
  have hget : ∀ (s : Nat) u, (vs.set t v2)[s]? = some u → (s = t ∧ u = v2) ∨ (s ≠ t ∧ vs[s]? = some u) := by
    intro s u hu
    rw [List.getElem?_set] at hu
    split at hu
    · next e =>
      subst e
      try rw [if_pos htl] at hu
      exact .inl ⟨rfl, (Option.some.inj hu).symm⟩
    · next e => exact .inr ⟨fun e' => e e'.symm, hu⟩
  have hgett : ∀ (s : Nat) u, (tiles.set t cs2)[s]? = some u → (s = t ∧ u = cs2) ∨ (s ≠ t ∧ tiles[s]? = some u) := by
    intro s u hu
    rw [List.getElem?_set] at hu
    split at hu
    · next e =>
      subst e
      try rw [if_pos htt] at hu
      exact .inl ⟨rfl, (Option.some.inj hu).symm⟩
    · next e => exact .inr ⟨fun e' => e e'.symm, hu⟩
  refine ⟨⟨?_, ?_, by simpa using h.len, ?_, ⟨hap.1, ?_⟩, ?_, by simpa using h.small⟩, ?_, ?_⟩
  · rw [List.length_set]
    exact hs.heap top2 (by simpa using hap.1)
  · rw [heap_set (a := ⟨cb, t, none⟩) row2 rfl]
    congr 2
    apply Array.toList_inj.1
    simp
  · intro s u c hu hc
    rcases hget s u hu with ⟨rfl, rfl⟩ | ⟨hne, hu⟩
    · rcases hgett s c hc with ⟨_, rfl⟩ | ⟨h1, _⟩
      · exact own_fr o hs (fun k hk => by simpa using (hv2 k hk).2)
      · exact absurd rfl h1
    · rcases hgett s c hc with ⟨h1, _⟩ | ⟨_, hc⟩
      · exact absurd h1 hne
      · refine own_fr (own_fr (h.rows s u c hu hc) hf ?_) hs (fun k hk => by simpa using (hap.2 s u k hu hk).2)
        intro k hk hm
        simp at hm
        exact hne (h.inj s t u v k hu hv hk hm)
  · intro s u k hu hk
    rcases hget s u hu with ⟨rfl, rfl⟩ | ⟨hne, hu⟩
    · exact hv2 k hk
    · exact hap.2 s u k hu hk
  · have hlow : ∀ (s : Nat) u k, vs[s]? = some u → u.ownBlock = some k → k < w.heap.size := by
      intro s u k hu hk
      have hsl : s < tiles.length := by rw [← h.len]; exact (List.getElem?_eq_some_iff.1 hu).1
      exact (World.ownsRow.lt (h.rows s u tiles[s] hu (by simp)) k hk).2
    intro s q u x k hu hx hk hk'
    rcases hget s u hu with ⟨h1, h1'⟩ | ⟨h1, hu1⟩ <;> rcases hget q x hx with ⟨h2, h2'⟩ | ⟨h2, hx1⟩
    · rw [h1, h2]
    · rw [h1'] at hk
      rcases hl k hk with h3 | h3
      · exact absurd (h.inj t q v x k hv hx1 h3 hk').symm h2
      · have := hlow q x k hx1 hk'; omega
    · rw [h2'] at hk'
      rcases hl k hk' with h3 | h3
      · exact absurd (h.inj s t u v k hu1 hv hk h3) h1
      · have := hlow s u k hu1 hk; omega
    · exact h.inj s q u x k hu1 hx1 hk hk'
  · refine (hf.mono ?_).trans (hs.mono (S' := lsBlocks lb cb vs) ?_) (Grows.refl _ _)
    · intro k hk
      simp at hk
      left
      unfold lsBlocks
      have := vs_mem hv hk
      simp [this]
    · intro k hk; simp at hk; left; simp [lsBlocks, hk]
  · intro k hk
    unfold lsBlocks at hk ⊢
    simp only [List.mem_cons, List.mem_filterMap] at hk ⊢
    rcases hk with hk | hk | ⟨u, hu, hk⟩
    · exact .inl (.inl hk)
    · exact .inl (.inr (.inl hk))
    · obtain ⟨s, hs⟩ := List.getElem?_of_mem hu
      rcases hget s u hs with ⟨rfl, rfl⟩ | ⟨_, h1⟩
      · rcases hl k hk with h1 | h1
        · exact .inl (.inr (.inr ⟨v, List.mem_of_getElem? hv, h1⟩))
        · exact .inr h1
      · exact .inl (.inr (.inr ⟨u, List.mem_of_getElem? h1, hk⟩))
/-- One cell of a chunk. -/
theorem Lsx.cell {w : World} {lb cb : Nat} {pa pd : Option Addr} {vs : List Value} {tiles : List (List Ck)} (h : Lsx w lb cb pa pd vs tiles) {t g n cap : Nat} {cs : List Ck} (ht : tiles[t]? = some cs) (hv : vs[t]? = some (.slice (some ⟨g, 0, none⟩) n cap)) (j r : Nat) (hj : j < cs.length) (hr : r < 3) (c : Ck) (u : Value) (hc : c.cells = cs[j].cells.set r u) :
    Lsx (w.setCell ⟨g, j * 3 + r, none⟩ u) lb cb pa pd vs (tiles.set t (cs.set j c)) ∧ Fr (lsBlocks lb cb vs) w (w.setCell ⟨g, j * 3 + r, none⟩ u) := by
  have hap := h.apart
  have htt : t < tiles.length := (List.getElem?_eq_some_iff.1 ht).1
  obtain ⟨n1, n2⟩ := hap.2 t _ g hv rfl
  have hs : Fr [g] w (w.setCell ⟨g, j * 3 + r, none⟩ u) := Fr.set (Fr.refl _ _) _ (.inl (by simp)) _
  refine ⟨⟨hs.heap h.top (by simpa using n1.symm), hs.heap h.row (by simpa using n2.symm), by simpa using h.len, ?_, hap, h.inj, by simpa using h.small⟩, hs.mono ?_⟩
  · intro s v ds hs1 hs2
    rw [List.getElem?_set] at hs2
    split at hs2
    · next e =>
      subst e
      try rw [if_pos htt] at hs2
      cases hs2
      rw [hv] at hs1
      cases hs1
      exact (h.rows t _ cs hv ht).store ck_sz j r hj hr c u hc
    · next e =>
      refine own_fr (h.rows s v ds hs1 hs2) hs ?_
      intro k hk hm
      simp at hm
      subst hm
      exact e (h.inj s t v _ k hs1 hv hk rfl).symm
  · intro k hk
    simp at hk
    left
    unfold lsBlocks
    have := vs_mem (k := k) hv (by rw [hk]; rfl)
    simp [this]
theorem Lsx.fr {w w' : World} {lb cb : Nat} {S : List Nat} {pa pd : Option Addr} {vs : List Value} {tiles : List (List Ck)} (h : Lsx w lb cb pa pd vs tiles) (hf : Fr S w w') (hn : ∀ k ∈ lsBlocks lb cb vs, k ∉ S) : Lsx w' lb cb pa pd vs tiles := by
  unfold lsBlocks at hn
  exact ⟨hf.heap h.top (hn lb (by simp)), hf.heap h.row (hn cb (by simp)), h.len, fun t v cs h1 h2 => own_fr (h.rows t v cs h1 h2) hf (fun k hk => hn k (by have := vs_mem h1 hk; simp [this])), h.apart, h.inj, h.small⟩
theorem Lsx.keep {w w' : World} {lb cb : Nat} {pa pd : Option Addr} {vs : List Value} {tiles : List (List Ck)} (h : Lsx w lb cb pa pd vs tiles) (hb : Below w.heap.size w w') : Lsx w' lb cb pa pd vs tiles := h.fr (Fr.ofBelow hb) (fun k _ hm => by cases hm)
/-- Is a list's last block full, away, or none? Read from memory. -/
def full1 (w : World) (lb t : Nat) : Nat := match w.cell? ⟨lb, 2, none⟩ with
  | some (.slice (some p) _ _) => (match w.cell? ⟨p.block, t, none⟩ with
    | some (.slice (some q) (n + 1) _) => (match w.cell? ⟨q.block, n * 3, none⟩, w.cell? ⟨q.block, n * 3 + 2, none⟩ with
      | some (.bool false), some (.int _ x) => if x = 64 then 1 else 0
      | _, _ => 1)
    | _ => 1)
  | _ => 1
theorem Lsx.full {w : World} {lb cb : Nat} {pa pd : Option Addr} {vs : List Value} {tiles : List (List Ck)} (h : Lsx w lb cb pa pd vs tiles) {t : Nat} {cs : List Ck} (ht : tiles[t]? = some cs) (h64 : ∀ c ∈ cs, c.bs.length ≤ 64) : full1 w lb t = if left (cs.map Ck.sh) = 0 then 1 else 0 := by
  obtain ⟨a, cap, hv, ct, ft, ho, hvl, hle, hmx⟩ := h.at ht
  have c2 := cell_at h.top 2
  simp only [List.getElem?_toArray, List.getElem?_cons_zero, List.getElem?_cons_succ] at c2
  unfold full1
  rw [c2]
  simp only [ct]
  rcases List.eq_nil_or_concat cs with rfl | ⟨m, ⟨aw, z, bs⟩, rfl⟩
  · cases a <;> simp [left]
  · rw [List.concat_eq_append] at ho h64 ct ⊢
    have h1 := h64 ⟨aw, z, bs⟩ (by simp)
    obtain ⟨g, cap', e, _, _⟩ := ho.there ck_sz (by decide) (by simp)
    simp only [Value.slice.injEq] at e
    obtain ⟨rfl, _, rfl⟩ := e
    have k0 := ho.cells ck_sz (by decide) m.length (by simp) 0 (by decide)
    have k2 := ho.cells ck_sz (by decide) m.length (by simp) 2 (by decide)
    simp only [List.getElem_append_right (Nat.le_refl _), Nat.sub_self, List.getElem_singleton, Ck.cells, List.getElem?_cons_zero, List.getElem?_cons_succ, Nat.add_zero] at k0 k2
    simp only [List.length_append, List.length_singleton, k0, k2, List.map_append, List.map_singleton]
    show _ = if left (m.map Ck.sh ++ [(aw, bs)]) = 0 then 1 else 0
    rw [left_snoc]
    cases aw
    · simp only [Bool.false_eq_true, if_false]
      simp only [] at h1
      by_cases e : bs.length = 64
      · rw [if_pos (by omega), if_pos (by omega)]
      · rw [if_neg (by omega), if_neg (by omega)]
    · simp
section
variable {α : Type} {e : TypeId} {sz : Nat} {f : α → List Value} {P : Program} {t : TypeId} {z : Value} {bytes : Nat}
/-- 'append(x, y)' of one record, in a region that draws. -/
theorem step_app_rec (hE : El P t e z sz bytes) (hf : ∀ x, (f x).length = sz) (h1 : ∀ x, ∀ u ∈ f x, u.oneCell' = true) (y : α) {w : World} {ops : Array Oper} {o : Oper} {a : Act} {K : Act → World → Prop} {Q : Exit → Act → World → Prop} {E : Prop} {cs : Array Value} {e' : TypeId} (hgd : o.guard = none) (s x : Operand)
    (ho : o.op = .call { callee := .builtin .append, args := #[s, x], argTypes := #[t, t] })
    {B g : Nat} {v : Value} {xs : List α} (hs : a.eval s = v) (hown : OwnL e sz f w B v xs)
    (hx : a.eval x = .slice (some ⟨g, 0, none⟩) 1 1) (hg : g = w.heap.size) (hcs : cs.toList = f y)
    (hB : bytes ≤ 1000) (h63 : xs.length ≤ 1000000) (hbase : B ≤ w.heap.size)
    (h : ∀ v' w', OwnL e sz f w' B v' (xs ++ [y]) → (w.alloc (.cells cs e')).grownBy w' v.ownBlock → (v'.ownBlock = v.ownBlock ∨ v'.ownBlock = some (w.heap.size + 1)) → K (a.put o.dst v') w') :
    if Region.wanted o (yielded ops a.tmps) = true then Oper.wp P o a (w.alloc (.cells cs e')) K Q else E := by
  subst hg
  rw [if_pos (by simp [Region.wanted, hgd])]
  obtain ⟨i, hi, hz0, hz1, hz2⟩ := info_parts hE.hi
  have hown2 : (w.alloc (.cells cs e')).ownsRow B e sz v xs.length (xs.map f).flatten := own_keep hown ((Below.refl _ _).alloc (Nat.le_refl _) _)
  have hsl : Sl (w.alloc (.cells cs e')) (some ⟨w.heap.size, 0, none⟩) 1 1 sz (f y) := Sl.of_heap (heap_new w _) (by simp [hf]) (by rw [hcs, List.take_of_length_le (by rw [hf]; simp)]) (Nat.le_refl _) (by decide)
  have hm := Nat.mul_le_mul (show xs.length + 1 ≤ 1000001 by omega) hB
  obtain ⟨v', w', hr, h2, h3, _, h5⟩ := run_append_own_at (P := P) (w.alloc (.cells cs e')) B t o.type e i z sz bytes hE.ht hi hz0 hz1 hz2 hE.hz hE.pos v xs.length _ hown2 ⟨w.heap.size, 0, none⟩ 1 1 (f y) (by rw [hf]; omega) (by
    intro j u hu
    have hj : j < (f y).length := by
      rcases Nat.lt_or_ge j (f y).length with h | h
      · exact h
      · rw [List.getElem?_eq_none h] at hu; simp at hu
    rw [add_addr, hsl.cell j hj, ← hu]
    simp [hj]) (h1 y) (by unfold maxLen; omega) (by omega) (by simp; omega)
  unfold Oper.wp
  simp [execOp, ho, resolve, invoke, builtin, hs, hx, hr, Result.andThen]
  refine h v' w' ?_ h3 (by simpa using h5)
  unfold OwnL
  rw [List.length_append, recs_append]
  simpa using h2
end
theorem ck_one (c : Ck) : ∀ u ∈ c.cells, u.oneCell' = true := by
  intro u hu
  simp only [Ck.cells, List.mem_cons, List.not_mem_nil, or_false] at hu
  rcases hu with rfl | rfl | rfl <;> rfl
theorem Try.elCk : El Try.prog 71 73 (.agg #[.bool false, .int .i64 0, .int .i64 0]) 3 24 := ⟨Try.underlying71, by kernel_rfl, rfl, by decide⟩
end Go.Proofs.Ytakobldhjndeiaa
