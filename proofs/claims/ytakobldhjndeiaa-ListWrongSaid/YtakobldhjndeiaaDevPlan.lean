/-
  Making a device with a plan.
-/
import Derived.Test.YtakobldhjndeiaaDevPlanL
import Derived.Test.YtakobldhjndeiaaRegAny
namespace Go.Proofs.Ytakobldhjndeiaa
open Go.RowKit
set_option linter.unusedVariables false
set_option linter.unusedSimpArgs false

/-- An append to an empty slice. -/
theorem run_app_empty {w : World} {o : Oper} {a : Act} (s x : Operand)
    (ho : o.op = .call { callee := .builtin .append, args := #[s, x], argTypes := #[31, 31] }) {b0 : Nat} (hs : a.eval s = .slice (some ⟨b0, 0, none⟩) 0 0) {ad : Option Addr} {m c : Nat} {ys : List Int} (hx : a.eval x = .slice ad m c) (hsl : Ints w ad m c ys) (hm : m ≤ 1000) :
    ∃ v' w', (execOp a.eval o).run Try.prog w = .ok (.value v') w' ∧ AppEmpty w w' v' ys := by
  obtain ⟨i, hi, hz0, hz1, hz2⟩ := info_parts Try.elI64.hi
  have hl := hsl.len
  subst hl
  by_cases h0 : ys.length = 0
  · obtain rfl : ys = [] := List.eq_nil_of_length_eq_zero h0
    have hsrc : Src Try.prog i.size 31 (.slice ad 0 c) 0 [] w := by
      cases ad with
      | none => exact Src.ofNil w Try.elI64.ht c
      | some ad => exact Src.ofSlice w Try.elI64.ht ad 0 c [] (by simp) (fun j u h => by simp at h) (fun _ h => by cases h)
    have hrun := run_append_nothing (P := Try.prog) w 31 31 o.type 3 i Try.elI64.ht hi (some ⟨b0, 0, none⟩) 0 0 (Nat.le_refl _) _ hsrc
    refine ⟨.slice (some ⟨b0, 0, none⟩) 0 0, w, ?_, ⟨⟨_, 0, 0, rfl, sl_zero _ _, fun h => absurd rfl h⟩, Below.refl _ _⟩⟩
    simp [execOp, ho, resolve, invoke, builtin, hs, hx, hrun, Result.andThen]
  · obtain ⟨b, off, rfl, _⟩ := hsl.at 0 (by omega)
    obtain ⟨v', w', hrun, hown, hg⟩ := run_append_arg_grows (P := Try.prog) (w := w) 31 o.type 3 i (.int .i64 0) 1 8 Try.elI64.ht hi hz0 hz1 hz2 Try.elI64.hz (by omega) ⟨b0, 0, none⟩ 0 0 [] rfl (fun j u h => by simp at h) ⟨b, off, none⟩ ys.length c (ys.map i64) (by simp) (by
      intro j u hj
      have hjl : j < ys.length := by
        rcases Nat.lt_or_ge j ys.length with h | h
        · exact h
        · rw [List.getElem?_eq_none (by simpa using h)] at hj; cases hj
      rw [add_addr, hsl.cell j hjl, ← hj]
      simp [hjl]) (by omega) (by unfold maxLen; omega) (by omega)
    rw [Nat.zero_add, List.nil_append] at hown
    obtain ⟨a', c', rfl, hI⟩ := OwnI.ints (show OwnI w' w.heap.size v' ys from hown)
    refine ⟨_, w', ?_, ⟨⟨a', ys.length, c', rfl, hI, fun _ p hp => (World.ownsRow.lt hown p.block (by rw [hp]; rfl)).1⟩, (Below.refl _ _).grown hg (Nat.le_refl _) (fun k hk => by cases hk)⟩⟩
    simp [execOp, ho, resolve, invoke, builtin, hs, hx, hrun, Result.andThen]

/-- A slice of ints that lies from block B on. -/
def Got (B : Nat) (zs : List Int) (v : Value) (w : World) : Prop := ∃ a n c, v = .slice a n c ∧ Ints w a n c zs ∧ (zs ≠ [] → ∀ p, a = some p → B ≤ p.block)
theorem Got.keep {B : Nat} {zs : List Int} {v : Value} {w w' : World} (h : Got B zs v w) (hb : Below w.heap.size w w') : Got B zs v w' := by
  obtain ⟨a, n, c, rfl, h1, h2⟩ := h
  exact ⟨a, n, c, rfl, h1.keep hb, h2⟩
theorem Got.fr {B : Nat} {zs : List Int} {v : Value} {w w' : World} {S : List Nat} (h : Got B zs v w) (hf : Fr S w w') (hS : ∀ k ∈ S, k < B) : Got B zs v w' := by
  obtain ⟨a, n, c, rfl, h1, h2⟩ := h
  refine ⟨a, n, c, rfl, Sl.fr2 h1 hf (fun hne p hp hm => ?_), h2⟩
  have := h2 (by intro e; subst e; simp at hne) p hp
  have := hS _ hm
  omega
/-- A slice that lies from block B on. -/
def FreshP (B : Nat) (v : Value) (zs : List Int) : Prop := ∃ a n c, v = .slice a n c ∧ (zs ≠ [] → ∀ p, a = some p → B ≤ p.block)
/-- The device, where others' blocks are written. -/
theorem Dvx.frP {w w' : World} {B g mb bb : Nat} {v1 v2 : Value} {V : List (Int × Value)} {d : Dev} {S : List Nat} (h : Dvx w g mb bb v1 v2 V d) (hf : Fr S w w') (hS : g ∉ S ∧ mb ∉ S ∧ bb ∉ S) (hV : ∀ p ∈ V, ∀ k, p.2.ownBlock = some k → k ∉ S) (h1 : FreshP B v1 d.fu) (h2 : FreshP B v2 d.fa) (hB : ∀ k ∈ S, k < B) : Dvx w' g mb bb v1 v2 V d := by
  obtain ⟨a1, n1, c1, rfl, s1, o1⟩ := h.full
  obtain ⟨a2, n2, c2, rfl, s2, o2⟩ := h.fail
  obtain ⟨x1, y1, z1, e1, f1⟩ := h1
  obtain ⟨x2, y2, z2, e2, f2⟩ := h2
  simp only [Value.slice.injEq] at e1 e2
  obtain ⟨rfl, rfl, rfl⟩ := e1
  obtain ⟨rfl, rfl, rfl⟩ := e2
  exact ⟨hf.heap h.top hS.1, h.map.fr hf hS.2.1, rows_fr hf h.rows hV, ⟨_, _, _, rfl, Sl.fr2 s1 hf (fun hne p hp hm => by have := f1 (by intro e; rw [e] at hne; simp at hne) p hp; have := hB _ hm; omega), o1⟩, ⟨_, _, _, rfl, Sl.fr2 s2 hf (fun hne p hp hm => by have := f2 (by intro e; rw [e] at hne; simp at hne) p hp; have := hB _ hm; omega), o2⟩, h.bends.fr hf hS.2.2, h.apart, h.nums, h.room4⟩
theorem got_apart {B bb : Nat} {zs : List Int} {v : Value} {w : World} {es : Array MapEntry} {cl : Nat} (h : Got B zs v w) (hbb : w.heap[bb]? = some (.map es cl)) : ∀ a n c, v = .slice a n c → zs ≠ [] → ∀ p, a = some p → p.block < w.heap.size ∧ p.block ≠ bb := by
  rintro a n c rfl hne p rfl
  obtain ⟨a', n', c', e, h1, _⟩ := h
  simp only [Value.slice.injEq] at e
  obtain ⟨rfl, rfl, rfl⟩ := e
  obtain ⟨b, off, e, hl, hc⟩ := h1.row (by intro e; apply hne; simpa using e)
  cases e
  refine ⟨hl, fun e => ?_⟩
  have h0 := hc 0 (by simp; exact List.length_pos_iff.2 hne)
  subst e
  simp [World.cell?, hbb] at h0
theorem got_app {W0 w : World} {o : Oper} {a : Act} (s x : Operand)
    (ho : o.op = .call { callee := .builtin .append, args := #[s, x], argTypes := #[31, 31] }) {b0 : Nat} (hs : a.eval s = .slice (some ⟨b0, 0, none⟩) 0 0) {ad : Option Addr} {m c : Nat} {ys : List Int} (hx : a.eval x = .slice ad m c) (hsl : Ints w ad m c ys) (hm : m ≤ 1000) (hC : Below W0.heap.size W0 w) :
    ∃ v' w', (execOp a.eval o).run Try.prog w = .ok (.value v') w' ∧ Got W0.heap.size ys v' w' ∧ Below W0.heap.size W0 w' ∧ Below w.heap.size w w' := by
  obtain ⟨v', w', hrun, ⟨x, n, c, rfl, hI, hlow⟩, hb'⟩ := run_app_empty s x ho hs hx hsl hm
  exact ⟨_, w', hrun, ⟨x, n, c, rfl, hI, fun h p hp => Nat.le_trans hC.size (hlow h p hp)⟩, hC.trans (hb'.mono hC.size), hb'⟩
def NewMap (B : Nat) (v : Value) (w : World) : Prop := ∃ m, v = .map (some m) ∧ w.heap[m]? = some (.map #[] 0) ∧ B ≤ m
theorem NewMap.keep {B : Nat} {v : Value} {w w' : World} (h : NewMap B v w) (hb : Below w.heap.size w w') : NewMap B v w' := by
  obtain ⟨m, rfl, h1, h2⟩ := h
  exact ⟨m, rfl, (Fr.ofBelow hb).heap h1 (by simp), h2⟩
/-- A bend, as a map holds it. -/
def bv (f m : Int) : Value := .agg #[.int .i64 f, .int .u32 m]
/-- What the operations of store.New's second statement leave. -/
def NewSpec (B g pb : Nat) (s1 s2 : Value) (zs1 zs2 : List Int) (k : Nat) (v : Value) (w : World) : Prop :=
  match k with
  | 0 => v = .pointer (some ⟨g, 0, none⟩)
  | 1 => ∃ b, v = .slice (some ⟨b, 0, none⟩) 0 0
  | 2 => v = .pointer (some ⟨pb, 0, none⟩)
  | 3 => v = s1
  | 4 => Got B zs1 v w
  | 5 => ∃ b, v = .slice (some ⟨b, 0, none⟩) 0 0
  | 6 => v = .pointer (some ⟨pb, 1, none⟩)
  | 7 => v = s2
  | 8 => Got B zs2 v w
  | 9 => NewMap B v w
  | 10 => ∃ x y z, v = .agg #[x, y, z] ∧ Got B zs1 x w ∧ Got B zs2 y w ∧ NewMap B z w
  | 11 => v = .pointer (some ⟨g, 0, none⟩)
  | 12 => v = .pointer (some ⟨g, 6, none⟩)
  | _ => True
theorem NewSpec.keep {B g pb : Nat} {s1 s2 : Value} {zs1 zs2 : List Int} (k : Nat) (v : Value) (w w' : World) (h : NewSpec B g pb s1 s2 zs1 zs2 k v w) (hb : Below w.heap.size w w') : NewSpec B g pb s1 s2 zs1 zs2 k v w' := by
  unfold NewSpec at *
  split at h
  · exact h
  · exact h
  · exact h
  · exact h
  · exact h.keep hb
  · exact h
  · exact h
  · exact h
  · exact h.keep hb
  · exact h.keep hb
  · obtain ⟨x, y, z, h1, h2, h3, h4⟩ := h
    exact ⟨x, y, z, h1, h2.keep hb, h3.keep hb, h4.keep hb⟩
  · exact h
  · exact h
  · trivial

set_option maxRecDepth 10000 in
set_option maxHeartbeats 4000000 in
theorem dnew_plan {a1 a2 : Option Addr} {n1 c1 n2 c2 pm : Nat} {zs1 zs2 : List Int} {L : List (Int × Value)} {w : World} (HI1 : Ints w a1 n1 c1 zs1) (HI2 : Ints w a2 n2 c2 zs2) (hn1 : n1 ≤ 1000) (hn2 : n2 ≤ 1000) (HD : DictAt w pm L) (HL0 : ∀ p ∈ L, ∃ f m, p.2 = bv f m) (many : Int) :
    Calls Try.prog 11 #[.int .i64 many, .agg #[.slice a1 n1 c1, .slice a2 n2 c2, .map (some pm)]] w fun e w' => ∃ g mb bb v1 v2 be, e = .returned (.pointer (some ⟨g, 0, none⟩)) ∧ Dvx w' g mb bb v1 v2 [] ⟨[], (min (max many 0) 4096).toNat, 0, 0, 0, 0, zs1, zs2, be⟩ ∧ (∀ p, p ∈ be ↔ p ∈ L) ∧ (w.heap.size ≤ g ∧ w.heap.size ≤ mb ∧ w.heap.size ≤ bb) ∧ FreshP w.heap.size v1 zs1 ∧ FreshP w.heap.size v2 zs2 ∧ Below w.heap.size w w' := by
  have HL := hid HL0
  clear HL0
  obtain ⟨m, hm, hm2⟩ : ∃ m : Int, (if (0 : Int) > many then (0 : Int) else many) = m ∧ m = max many 0 := ⟨_, rfl, by split <;> omega⟩
  obtain ⟨r, hr, hr2⟩ : ∃ r : Nat, (if (4096 : Int) < m then (4096 : Int) else m) = (r : Int) ∧ r = (min (max many 0) 4096).toNat := ⟨(min (max many 0) 4096).toNat, by split <;> omega, rfl⟩
  rw [← hr2]
  have hr3 : r ≤ 4096 := by omega
  have hmm := @run_makeMap Try.prog
  clear hm2 hr2
  go_enter Try.func11, Try.ntmps11
  go_upto_region 2 with (fail)
  obtain ⟨W0, hW0⟩ : ∃ W0, ((w.alloc (.cells #[.slice a1 n1 c1, .slice a2 n2 c2, .map (some pm)] 34)).alloc (.map #[] 0)).alloc (.cells #[.map (some (w.heap.size + 1)), .int .i64 (r : Int), .int .i64 0, .int .i64 0, .int .i64 0, .int .i64 0, .slice none 0 0, .slice none 0 0, .map none] 68) = W0 := ⟨_, rfl⟩
  have hb0 : Below w.heap.size w W0 := by rw [← hW0]; exact (((Below.refl _ _).alloc (Nat.le_refl _) _).alloc (by simp) _).alloc (by simp; omega) _
  have hp0 : W0.heap[w.heap.size]? = some (.cells #[.slice a1 n1 c1, .slice a2 n2 c2, .map (some pm)] 34 (0, 0)) := by rw [← hW0]; exact heap_keep (heap_keep (heap_new _ _) _) _
  have hm0 : W0.heap[w.heap.size + 1]? = some (.map #[] 0) := by
    rw [← hW0]
    have := heap_new (w.alloc (.cells #[.slice a1 n1 c1, .slice a2 n2 c2, .map (some pm)] 34)) (.map #[] 0)
    exact heap_keep (by simpa using this) _
  have hg0 : W0.heap[w.heap.size + 1 + 1]? = some (.cells #[.map (some (w.heap.size + 1)), .int .i64 (r : Int), .int .i64 0, .int .i64 0, .int .i64 0, .int .i64 0, .slice none 0 0, .slice none 0 0, .map none] 68 (0, 0)) := by
    rw [← hW0]
    have := heap_new ((w.alloc (.cells #[.slice a1 n1 c1, .slice a2 n2 c2, .map (some pm)] 34)).alloc (.map #[] 0)) (.cells #[.map (some (w.heap.size + 1)), .int .i64 (r : Int), .int .i64 0, .int .i64 0, .int .i64 0, .int .i64 0, .slice none 0 0, .slice none 0 0, .map none] 68)
    simpa using this
  rw [hW0]
  obtain ⟨pb, hpb⟩ : ∃ pb, w.heap.size = pb := ⟨_, rfl⟩
  obtain ⟨mb, hmb⟩ : ∃ mb, w.heap.size + 1 = mb := ⟨_, rfl⟩
  obtain ⟨g, hg⟩ : ∃ g, w.heap.size + 1 + 1 = g := ⟨_, rfl⟩
  rw [hpb] at hp0
  rw [hg, hmb] at hg0
  rw [hmb] at hm0
  rw [hg, hpb]
  have HP0 := hid hp0
  have HM0 := hid hm0
  have HG0 := hid hg0
  have HB0 := hid hb0
  have HPB := hid hpb
  have HMB := hid hmb
  have HGE := hid hg
  have HI1' := hid HI1
  have HI2' := hid HI2
  have HD' := hid HD
  have hz1 := hid hn1
  have hz2 := hid hn2
  have HR3 := hid hr3
  have HMM := hid hmm
  clear hW0 hb0 hp0 hm0 hg0 hpb hg hmb hm hr HI1 HI2 HD hr3 hn1 hn2 hmm
  go_cut [] from 14 to 26 (fun wx => ∃ v1 v2 v3, wx.heap[pb]? = some (.cells #[.slice a1 n1 c1, .slice a2 n2 c2, .map (some pm)] 34 (0, 0)) ∧ wx.heap[mb]? = some (.map #[] 0) ∧ wx.heap[g]? = some (.cells #[.map (some mb), .int .i64 (r : Int), .int .i64 0, .int .i64 0, .int .i64 0, .int .i64 0, v1, v2, v3] 68 (0, 0)) ∧ Got W0.heap.size zs1 v1 wx ∧ Got W0.heap.size zs2 v2 wx ∧ NewMap W0.heap.size v3 wx ∧ Below w.heap.size w wx)
  case first =>
    refine wp_region_all (n := 13) (C := fun w' => Below W0.heap.size W0 w') (Spec := NewSpec W0.heap.size g pb (.slice a1 n1 c1) (.slice a2 n2 c2) zs1 zs2) (by kernel_rfl) ⟨by kernel_rfl, by kernel_rfl, fun k v w w' h _ hb => NewSpec.keep k v w w' h hb, ?_⟩ (Below.refl _ _).drew ?_
    · intro k hk
      rcases (show k = 0 ∨ k = 1 ∨ k = 2 ∨ k = 3 ∨ k = 4 ∨ k = 5 ∨ k = 6 ∨ k = 7 ∨ k = 8 ∨ k = 9 ∨ k = 10 ∨ k = 11 ∨ k = 12 by omega) with rfl | rfl | rfl | rfl | rfl | rfl | rfl | rfl | rfl | rfl | rfl | rfl | rfl
      all_goals
        intro o ho a wx hC hb hp
        simp only [List.getElem?_toArray, List.getElem?_cons_zero, List.getElem?_cons_succ, Option.some.injEq] at ho
        subst ho
      · have e5 : a.eval (.tmp 5) = .pointer (some ⟨g, 0, none⟩) := hb 5 (by kernel_rfl)
        exact ⟨_, wx, by unfold execOp; simp only [e5, Sem.run_pure], rfl, hC, Below.refl _ _⟩
      · exact ⟨.slice (some ⟨wx.heap.size, 0, none⟩) 0 0, wx.alloc (.cells #[] 3), by go_simp, ⟨_, rfl⟩, hC.alloc hC.size _, (Below.refl _ _).alloc (Nat.le_refl _) _⟩
      · have e3 : a.tmps[3]?.getD undef = .pointer (some ⟨pb, 0, none⟩) := by rw [← getD_get]; exact hb 3 (by kernel_rfl)
        exact ⟨.pointer (some ⟨pb, 0, none⟩), wx, by go_simp, rfl, hC, Below.refl _ _⟩
      · have e16 : a.tmps[16]?.getD undef = .pointer (some ⟨pb, 0, none⟩) := by rw [← getD_get]; exact hp 2 16 (by kernel_rfl)
        have c := cell_at ((Fr.ofBelow hC).heap HP0.out (by simp)) 0
        exact ⟨.slice a1 n1 c1, wx, by go_simp, rfl, hC, Below.refl _ _⟩
      · obtain ⟨b, e15⟩ := hp 1 15 (by kernel_rfl)
        have e17 := hp 3 17 (by kernel_rfl)
        exact got_app (.tmp 15) (.tmp 17) rfl e15 e17 ((HI1'.out.keep HB0.out).keep hC) hz1.out hC
      · exact ⟨.slice (some ⟨wx.heap.size, 0, none⟩) 0 0, wx.alloc (.cells #[] 3), by go_simp, ⟨_, rfl⟩, hC.alloc hC.size _, (Below.refl _ _).alloc (Nat.le_refl _) _⟩
      · have e3 : a.tmps[3]?.getD undef = .pointer (some ⟨pb, 0, none⟩) := by rw [← getD_get]; exact hb 3 (by kernel_rfl)
        exact ⟨.pointer (some ⟨pb, 1, none⟩), wx, by go_simp, rfl, hC, Below.refl _ _⟩
      · have e16 : a.tmps[20]?.getD undef = .pointer (some ⟨pb, 1, none⟩) := by rw [← getD_get]; exact hp 6 20 (by kernel_rfl)
        have c := cell_at ((Fr.ofBelow hC).heap HP0.out (by simp)) 1
        exact ⟨.slice a2 n2 c2, wx, by go_simp, rfl, hC, Below.refl _ _⟩
      · obtain ⟨b, e15⟩ := hp 5 19 (by kernel_rfl)
        have e17 := hp 7 21 (by kernel_rfl)
        exact got_app (.tmp 19) (.tmp 21) rfl e15 e17 ((HI2'.out.keep HB0.out).keep hC) hz2.out hC
      · have hmm := HMM.out
        exact ⟨.map (some wx.heap.size), wx.alloc (.map #[] 0), by go_simp, ⟨_, rfl, heap_new _ _, hC.size⟩, hC.alloc hC.size _, (Below.refl _ _).alloc (Nat.le_refl _) _⟩
      · have h18 := hp 4 18 (by kernel_rfl)
        have h22 := hp 8 22 (by kernel_rfl)
        have h23 := hp 9 23 (by kernel_rfl)
        obtain ⟨x1, y1, q1, e18, _⟩ := h18
        obtain ⟨x2, y2, q2, e22, _⟩ := h22
        obtain ⟨x3, e23, _⟩ := h23
        rw [getD_get] at e18 e22 e23
        refine ⟨.agg #[.slice x1 y1 q1, .slice x2 y2 q2, .map (some x3)], wx, by go_simp, ⟨_, _, _, rfl, ?_, ?_, ?_⟩, hC, Below.refl _ _⟩
        · have := hp 4 18 (by kernel_rfl); rw [getD_get, e18] at this; exact this
        · have := hp 8 22 (by kernel_rfl); rw [getD_get, e22] at this; exact this
        · have := hp 9 23 (by kernel_rfl); rw [getD_get, e23] at this; exact this
      · have e14 : a.tmps[14]?.getD undef = .pointer (some ⟨g, 0, none⟩) := by rw [← getD_get]; exact hp 0 14 (by kernel_rfl)
        have c := cell_at ((Fr.ofBelow hC).heap HG0.out (by simp)) 0
        exact ⟨.pointer (some ⟨g, 0, none⟩), wx, by go_simp, rfl, hC, Below.refl _ _⟩
      · have e25 : a.tmps[25]?.getD undef = .pointer (some ⟨g, 0, none⟩) := by rw [← getD_get]; exact hp 11 25 (by kernel_rfl)
        exact ⟨.pointer (some ⟨g, 6, none⟩), wx, by go_simp, rfl, hC, Below.refl _ _⟩
    · intro f wx hC hs
      obtain ⟨v1, v2, v3, e24, hx, hy, hz⟩ := hs 10 _ 24 (by decide) rfl rfl
      have e26 : f 26 = .pointer (some ⟨g, 6, none⟩) := hs 12 _ 26 (by decide) rfl rfl
      have hg := (Fr.ofBelow hC).heap HG0.out (by simp)
      have c6 := cell_at hg 6
      have c7 := cell_at hg 7
      have c8 := cell_at hg 8
      have z6 := free_at hg 6
      have z7 := free_at hg 7
      have z8 := free_at hg 8
      simp only [putF, List.foldl_cons, List.foldl_nil, Act.put, List.setIfInBounds_toArray, List.set_cons_succ, List.set_cons_zero, e24, e26]
      have hfr : Fr [g] wx (((wx.setCell ⟨g, 6, none⟩ v1).setCell ⟨g, 7, none⟩ v2).setCell ⟨g, 8, none⟩ v3) := (((Fr.refl [g] wx).set ⟨g, 6, none⟩ (.inl (by simp)) v1).set ⟨g, 7, none⟩ (.inl (by simp)) v2).set ⟨g, 8, none⟩ (.inl (by simp)) v3
      have hg6 := heap_set (a := ⟨g, 6, none⟩) hg rfl v1
      have hg7 := heap_set (a := ⟨g, 7, none⟩) hg6 rfl v2
      have hg8 := heap_set (a := ⟨g, 8, none⟩) hg7 rfl v3
      have hgl : g < W0.heap.size := heap_lt HG0.out
      have HX := hid hx
      have HY := hid hy
      have HZ := hid hz
      obtain ⟨x1, y1, q1, rfl, hx1, hx2⟩ := hx
      obtain ⟨x2, y2, q2, rfl, hy1, hy2⟩ := hy
      obtain ⟨x3, rfl, hz1', hz2'⟩ := hz
      refine wpOp_skip rfl rfl rfl _ (by go_simp; rfl) ?_
      have HW := hid (fun (x : World) (hx : x = (((wx.setCell ⟨g, 6, none⟩ (.slice x1 y1 q1)).setCell ⟨g, 7, none⟩ (.slice x2 y2 q2)).setCell ⟨g, 8, none⟩ (.map (some x3)))) => hx)
      clear c6 c7 c8 z6 z7 z8 e24 e26 hs
      go_wp2
      go_meet
      case rel =>
        have hpl : pb ≠ g := by have := HPB.out; have := HGE.out; omega
        have hml : mb ≠ g := by have := HMB.out; have := HGE.out; omega
        refine ⟨_, _, _, hfr.heap ((Fr.ofBelow hC).heap HP0.out (by simp)) (by simpa using hpl), hfr.heap ((Fr.ofBelow hC).heap HM0.out (by simp)) (by simpa using hml), hg8, HX.out.fr hfr (fun k hk => by rw [List.mem_singleton.1 hk]; exact hgl), HY.out.fr hfr (fun k hk => by rw [List.mem_singleton.1 hk]; exact hgl), ⟨x3, rfl, hfr.heap hz1' (fun hm => by have := List.mem_singleton.1 hm; omega), hz2'⟩, Fr.below (HB0.out.trans (hC.mono HB0.out.size)) hfr (fun k hk => by rw [List.mem_singleton.1 hk]; have := HGE.out; omega) (Nat.le_trans HB0.out.size hC.size)⟩
  case rest =>
    obtain ⟨v1, v2, v3, h0, h1, h2, hv1, hv2, ⟨bb, rfl, hbb, hbl⟩, hb⟩ := hcut
    have hlt := HGE.out
    have hltm := HMB.out
    have hltp := HPB.out
    have hw0 : g < W0.heap.size := heap_lt HG0.out
    obtain ⟨oi, hrg, hD0⟩ := (HD'.out.keep hb).range (P := Try.prog) (t := 32) Try.underlying32
    have c2 := cell_at h0 2
    have hpm : pm < w.heap.size := HD'.out.lt
    have hbw : bb < wc.heap.size := heap_lt hbb
    have hbi := (Below.refl wc.heap.size wc).alloc (Nat.le_refl _) oi
    have HGI := hid (heap_keep h2 oi)
    have HMI := hid (heap_keep h1 oi)
    have HV1 := hid (hv1.keep hbi)
    have HV2 := hid (hv2.keep hbi)
    have HBI : Hid (DictAt (wc.alloc oi) bb []) := hid ⟨#[], 0, heap_keep hbb oi, rfl, MapKept.stamped_empty 0, fun _ h => by cases h⟩
    have HBW := hid (hb.alloc hb.size oi)
    have hmne : wc.heap.size ≠ pm := by have := hb.size; omega
    have HNE := hid (show bb ≠ pm ∧ bb ≠ g ∧ bb ≠ mb ∧ g ≠ mb ∧ wc.heap.size ≠ g ∧ wc.heap.size ≠ mb ∧ wc.heap.size ≠ bb ∧ pm ≠ bb from ⟨by omega, by omega, by omega, by omega, by have := heap_lt h2; omega, by have := heap_lt h1; omega, by omega, by omega⟩)
    have HSZ := hid (show w.heap.size ≤ wc.heap.size ∧ w.heap.size ≤ bb ∧ bb < wc.heap.size from ⟨hb.size, by omega, hbw⟩)
    have HLOW := hid (show w.heap.size ≤ g ∧ w.heap.size ≤ mb ∧ g < W0.heap.size ∧ mb < W0.heap.size from ⟨by omega, by omega, hw0, heap_lt HM0.out⟩)
    have HA1 := hid (got_apart hv1 hbb)
    have HA2 := hid (got_apart hv2 hbb)
    clear h0 h1 h2 hv1 hv2 hbb hbl hb hlt hltm hltp hw0 hpm hbw hbi
    go_wp2
    obtain ⟨WI, hWI⟩ : ∃ WI, wc.alloc oi = WI := ⟨_, rfl⟩
    obtain ⟨R, hR⟩ : ∃ R, wc.heap.size = R := ⟨_, rfl⟩
    rw [hWI, hR] at hD0
    rw [hWI] at HGI HMI HV1 HV2 HBI HBW ⊢
    rw [hR] at hmne HNE HSZ HA1 HA2 ⊢
    clear hrg c2
    go_loopw [] (fun wr => ∃ rest cnt be, DIter wr pm R L rest cnt ∧ DictAt wr bb be ∧ (∀ p ∈ be, p ∈ L ∧ p ∉ rest) ∧ (∀ p ∈ L, p ∈ rest ∨ p ∈ be) ∧ Fr [R, bb] WI wr) (fun wr => wr.rangeLeft pm R)
    case atStart => exact ⟨L, _, [], hD0, HBI.out, (fun p h => by cases h), (fun p h => .inl h), Fr.refl _ _⟩
    case round =>
      clear hD0
      obtain ⟨rest, cnt, be, hD, hB, hin, hall, hf⟩ := hrel
      obtain ⟨wo, rfl⟩ : ∃ wo : World, wo = wr := ⟨_, rfl⟩
      rcases hD.next (P := Try.prog) hmne with ⟨hre, hnx⟩ | ⟨p, cnt', w6, hp, hlt', hnx, hD6, hf6, hen⟩
      · have HD9 := hid hD
        have HB9 := hid hB
        have HF9 := hid hf
        have HIN := hid (show ∀ p, p ∈ be ↔ p ∈ L from fun p => ⟨fun h => (hin p h).1, fun h => (hall p h).elim (fun h => by rw [hre] at h; cases h) id⟩)
        clear hD hB hin hall hf hre
        go_wp2
        go_ret
        have hne := HNE.out
        have hgr := HF9.out.heap HGI.out (by simp; omega)
        have hmr := HF9.out.heap HMI.out (by simp; omega)
        obtain ⟨x1, y1, q1, rfl, hx0, hx2⟩ := HV1.out
        obtain ⟨x2, y2, q2, rfl, hy0, hy2⟩ := HV2.out
        have hx1 := Sl.fr2 hx0 HF9.out (fun hne p hp hm => by have := HA1.out _ _ _ rfl (by intro e; subst e; simp at hne) p hp; simp at hm; omega)
        have hy1 := Sl.fr2 hy0 HF9.out (fun hne p hp hm => by have := HA2.out _ _ _ rfl (by intro e; subst e; simp at hne) p hp; simp at hm; omega)
        have hlow := HLOW.out
        refine ⟨g, mb, bb, _, _, be, rfl, ⟨hgr, ⟨#[], 0, hmr, rfl, MapKept.stamped_empty 0, fun _ h => by cases h⟩, trivial, ⟨x1, y1, q1, rfl, hx1, fun h p hp hm => by have := hx2 (by intro e; subst e; simp at h) p hp; simp at hm; omega⟩, ⟨x2, y2, q2, rfl, hy1, fun h p hp hm => by have := hy2 (by intro e; subst e; simp at h) p hp; simp at hm; omega⟩, HB9.out, ⟨hne.2.2.2.1, hne.2.1, hne.2.2.1⟩, (fun p h => by cases h), HR3.out⟩, HIN.out, ⟨hlow.1, hlow.2.1, HSZ.out.2.1⟩, ⟨_, _, _, rfl, fun h p hp => Nat.le_trans HB0.out.size (hx2 h p hp)⟩, ⟨_, _, _, rfl, fun h p hp => Nat.le_trans HB0.out.size (hy2 h p hp)⟩, ?_⟩
        exact Fr.below HBW.out HF9.out (fun k hk => by have := HSZ.out; simp at hk; omega) HBW.out.size
      · obtain ⟨z, v⟩ := p
        obtain ⟨fz, mz, rfl⟩ : ∃ fz mz, v = bv fz mz := HL.out _ (hD.sub _ hp)
        have hwf := HD'.out.wf _ (hD.sub _ hp)
        have hB6 := hB.fr hf6 (by simpa using fun e => HNE.out.2.2.2.2.2.2.1 e.symm)
        have hf06 : Fr [R, bb] WI w6 := hf.trans (hf6.mono (S' := [R, bb]) (fun k hk => by simp at hk; subst hk; exact .inl (by simp))) (Grows.refl _ _)
        have hno : ∀ q ∈ be, q.1 ≠ z := fun q hq e => by
          have h1 := hin q hq
          have h2 := nodup_at (HD'.out.nodup) h1.1 (hD.sub _ hp) e
          exact h1.2 (h2 ▸ hp)
        have HLE := hid hD.left_eq
        have HLT := hid hlt'
        have HD6 := hid hD6
        have HB6 := hid hB6
        have HF6 := hid hf06
        have HNO := hid hno
        have HWF := hid hwf
        have HIN := hid hin
        have HALL := hid hall
        have HP := hid (hD.sub _ hp)
        simp only [bv] at hnx hen
        clear hp hlt' hD6 hB6 hf06 hno hwf hin hall hD hB hf hf6
        go_upto_region 6 with fail
        have hk6 := (Below.refl w6.heap.size w6).alloc (Nat.le_refl _) (.cells #[.int .i64 fz, .int .u32 mz] 49)
        have hbx := heap_new w6 (.cells #[.int .i64 fz, .int .u32 mz] 49)
        have hg6 := (Fr.ofBelow hk6).heap (HF6.out.heap HGI.out (by have := HNE.out; simp; omega)) (by simp)
        have HB7 := hid (HB6.out.keep hk6)
        have HD7 := hid (HD6.out.keep hk6)
        have HF7 := hid (HF6.out.trans ((Fr.ofBelow hk6).nilMono (S := [R, bb])) (Grows.refl _ _))
        obtain ⟨W6, hW6⟩ : ∃ W6, w6.alloc (.cells #[.int .i64 fz, .int .u32 mz] 49) = W6 := ⟨_, rfl⟩
        obtain ⟨X, hX⟩ : ∃ X, w6.heap.size = X := ⟨_, rfl⟩
        rw [hW6] at hbx hg6 HB7 HD7 HF7 ⊢
        rw [hX] at hbx ⊢
        obtain ⟨w8, hup, hD8, hf8⟩ := DictAt.add (P := Try.prog) (w := W6.drew) (b := bb) (L := be) (HB7.out.keep ((Below.refl _ _).drew)) Try.underlying32 Try.underlying3 HWF.out HNO.out (.agg #[.int .i64 fz, .int .u32 mz])
        have HD8 := hid hD8
        have HF8 := hid hf8
        have c8 := cell_at hg6 8
        have x0 := cell_at hbx 0
        have x1 := cell_at hbx 1
        have hd7k := HD7.out.keep ((Below.refl W6.heap.size W6).drew)
        have HD9 := hid (hd7k.fr hf8 (by have := HNE.out; simp; omega) (by have := HNE.out; simp; omega))
        clear hk6 hg6 hbx hW6 hX hD8 hf8 hd7k
        go_region
        all_goals
          go_wp2
          go_roundw
          case rel =>
            refine ⟨_, _, _, HD9.out, HD8.out, ?_, ?_, (HF7.out.trans (show Fr [R, bb] W6 W6.drew from (Fr.refl _ _).drewN 1) (Grows.refl _ _)).trans (HF8.out.mono (S' := [R, bb]) (fun k hk => by rw [List.mem_singleton.1 hk]; exact .inl (by simp))) (Grows.refl _ _)⟩
            · intro p hp
              rcases List.mem_append.1 hp with h | h
              · exact ⟨(HIN.out p h).1, fun hm => (HIN.out p h).2 (List.mem_filter.1 hm).1⟩
              · obtain rfl := List.mem_singleton.1 h
                exact ⟨HP.out, fun hm => by have := (List.mem_filter.1 hm).2; simp at this⟩
            · intro p hp
              rcases HALL.out p hp with h | h
              · by_cases e : p.1 = z
                · have := nodup_at HD'.out.nodup hp HP.out e
                  subst this
                  exact .inr (List.mem_append.2 (.inr (List.mem_singleton.2 rfl)))
                · exact .inl (List.mem_filter.2 ⟨h, by simpa using e⟩)
              · exact .inr (List.mem_append.2 (.inl h))
          case measure => rw [HD9.out.left_eq, HLE.out]; exact HLT.out
end Go.Proofs.Ytakobldhjndeiaa
