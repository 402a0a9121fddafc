/-
  A region that draws its order, whatever the order: each operation is looked at once. What an operation leaves is told by a relation that lasts.
-/
import Derived.Test.YtakobldhjndeiaaHeldG
namespace Go.Proofs.Ytakobldhjndeiaa
open Go.RowKit
set_option linter.unusedVariables false
set_option linter.unusedSimpArgs false
section
variable {P : Program} {ops : Array Oper} {Q : Exit → Act → World → Prop} {md : Region.Mode}

theorem ready_spec {listed : Array Bool} {i : Nat} (h : i ∈ Region.ready md ops listed) : i < ops.size ∧ listed.getD i true = false ∧ ∀ o, ops[i]? = some o → ∀ e ∈ o.after, Region.binds md e = true → listed.getD e.on false = true := by
  unfold Region.ready at h
  rw [List.mem_filter, List.mem_range] at h
  obtain ⟨h1, h2⟩ := h
  rw [Bool.and_eq_true] at h2
  refine ⟨h1, by simpa using h2.1, fun o ho e he hb => ?_⟩
  have h3 := h2.2
  rw [ho] at h3
  simp only [Option.map_some, Option.getD_some] at h3
  have h4 := (Array.all_eq_true_iff_forall_mem.1 h3) e he
  simpa [hb] using h4

theorem count_set : ∀ (l : List Bool) (i : Nat), l[i]? = some false → (l.set i true).count false + 1 = l.count false
  | [], _, h => by simp at h
  | x :: l, 0, h => by
    simp at h
    subst h
    simp
  | x :: l, i + 1, h => by
    have := count_set l i (by simpa using h)
    simp only [List.set_cons_succ, List.count_cons]
    omega

theorem wpAny_inv (I : Array Bool → Act → World → Prop) (hsz : ∀ l a w, I l a w → l.size = ops.size)
    (hstep : ∀ l a w i, I l a w → i ∈ Region.ready md ops l → wpOp P ops Q i (fun a' w' => I (l.setIfInBounds i true) a' w') a w)
    (hend : ∀ l a w, I l a w → Region.ready md ops l = [] → Q .normal a w) :
    ∀ (fuel : Nat) (l : Array Bool) (a : Act) (w : World), l.toList.count false ≤ fuel → I l a w → wpAny P md ops Q fuel l a w
  | 0, l, a, w, hc, hI => by
    have h0 : Region.ready md ops l = [] := by
      cases hr : Region.ready md ops l with
      | nil => rfl
      | cons i rs =>
        obtain ⟨h1, h2, _⟩ := ready_spec (md := md) (ops := ops) (listed := l) (i := i) (by rw [hr]; simp)
        have h3 : l.toList[i]? = some false := by
          have hl := hsz l a w hI
          rw [Array.getElem?_toList, Array.getElem?_eq_getElem (by omega)]
          have h4 : l.getD i true = l[i] := by simp [Array.getD, show i < l.size by omega]
          rw [← h4, h2]
        have := count_set _ _ h3
        omega
    exact ⟨h0, hend l a w hI h0⟩
  | fuel + 1, l, a, w, hc, hI => by
    refine ⟨hend l a w hI, fun i hi => wpOp_mono (fun a' w' h' => wpAny_inv I hsz hstep hend fuel _ a' w' ?_ h') (hstep l a w i hI hi)⟩
    obtain ⟨h1, h2, _⟩ := ready_spec hi
    have h3 : l.toList[i]? = some false := by
      have hl := hsz l a w hI
      rw [Array.getElem?_toList, Array.getElem?_eq_getElem (by omega)]
      have h4 : l.getD i true = l[i] := by simp [Array.getD, show i < l.size by omega]
      rw [← h4, h2]
    have := count_set _ _ h3
    rw [Array.toList_setIfInBounds]
    omega

/-- What the operations leave in their slots, all at once. -/
def putF (l : List Oper) (f : Nat → Value) (a : Act) : Act := l.foldl (fun a o => a.put o.dst (match o.dst with | some d => f d | none => undef)) a
theorem put_size (a : Act) (d : Option Tmp) (v : Value) : (a.put d v).tmps.size = a.tmps.size := by cases d <;> simp [Act.put]
theorem put_defers (a : Act) (d : Option Tmp) (v : Value) : (a.put d v).defers = a.defers := by cases d <;> rfl
theorem getD_get (a : Array Value) (t : Nat) : a.getD t undef = a[t]?.getD undef := by
  rw [Array.getD_eq_getD_getElem?]
theorem put_get (a : Act) (d : Tmp) (v : Value) (t : Nat) (h : t < a.tmps.size) : (a.put (some d) v).tmps.getD t undef = if t = d then v else a.tmps.getD t undef := by
  rw [getD_get, getD_get]
  simp only [Act.put]
  by_cases e : t = d
  · subst e; simp [h]
  · rw [if_neg e, Array.getElem?_setIfInBounds_ne (fun h => e h.symm)]
theorem putF_size (f : Nat → Value) : ∀ (l : List Oper) (a : Act), (putF l f a).tmps.size = a.tmps.size
  | [], _ => rfl
  | o :: l, a => (putF_size f l _).trans (put_size _ _ _)
theorem putF_defers (f : Nat → Value) : ∀ (l : List Oper) (a : Act), (putF l f a).defers = a.defers
  | [], _ => rfl
  | o :: l, a => (putF_defers f l _).trans (put_defers _ _ _)
theorem putF_get (f : Nat → Value) (t : Nat) : ∀ (l : List Oper) (a : Act), t < a.tmps.size → (putF l f a).tmps.getD t undef = if l.any (fun o => o.dst == some t) = true then f t else a.tmps.getD t undef
  | [], _, _ => rfl
  | o :: l, a, h => by
    show (putF l f (a.put o.dst _)).tmps.getD t undef = _
    rw [putF_get f t l _ (by rw [put_size]; exact h), List.any_cons]
    by_cases hl : l.any (fun o => o.dst == some t) = true
    · simp [hl]
    · cases hd : o.dst with
      | none => simp [hl, Act.put]
      | some d =>
        rw [put_get a d _ t h]
        by_cases e : t = d
        · subst e; simp [hl]
        · have : (some d == some t) = false := by simpa using fun h => e h.symm
          simp [hl, this, e]
theorem act_putF {l : List Oper} {a0 a : Act} (hs : a.tmps.size = a0.tmps.size) (hd : a.defers = a0.defers) (hb : ∀ t, l.any (fun o => o.dst == some t) = false → a.tmps.getD t undef = a0.tmps.getD t undef) : a = putF l (fun t => a.tmps.getD t undef) a0 := by
  have h1 : a.tmps = (putF l (fun t => a.tmps.getD t undef) a0).tmps := by
    apply Array.ext
    · rw [putF_size, hs]
    · intro i h1 h2
      have h3 := putF_get (fun t => a.tmps.getD t undef) i l a0 (by omega)
      have h4 : (putF l (fun t => a.tmps.getD t undef) a0).tmps.getD i undef = (putF l (fun t => a.tmps.getD t undef) a0).tmps[i] := by rw [getD_get, Array.getElem?_eq_getElem h2]; rfl
      have h5 : a.tmps.getD i undef = a.tmps[i] := by rw [getD_get, Array.getElem?_eq_getElem h1]; rfl
      rw [← h4, ← h5, h3]
      by_cases e : l.any (fun o => o.dst == some i) = true
      · rw [if_pos e]
      · rw [if_neg e, hb i (by simpa using e)]
  have h2 : a.defers = (putF l (fun t => a.tmps.getD t undef) a0).defers := by rw [putF_defers, hd]
  obtain ⟨x, y⟩ : ∃ x : Act, x = putF l (fun t => a.tmps.getD t undef) a0 := ⟨_, rfl⟩
  rw [← y] at h1 h2 ⊢
  cases a
  cases x
  simp only at h1 h2
  rw [h1, h2]

/-- Does operation k wait for operation j, which leaves its value in slot d? -/
def preB (md : Region.Mode) (ops : Array Oper) (k j d : Nat) : Bool := match ops[k]?, ops[j]? with
  | some o, some p => o.after.any (fun e => Region.binds md e && e.on == j) && p.dst == some d
  | _, _ => false
/-- The last one waits for all; no two leave their values in one slot; nothing is guarded. -/
def lastB (md : Region.Mode) (ops : Array Oper) (n : Nat) : Bool :=
  (ops.size == n + 1) && (match ops[n]? with
    | some o => (List.range n).all (fun j => o.after.any (fun e => Region.binds md e && (e.on == j || (match ops[e.on]? with | some p => p.after.any (fun e' => Region.binds md e' && e'.on == j) | none => false)))) && o.dst == none
    | none => false) && (List.range n).all (fun k => match ops[k]? with
    | some o => o.guard == none && (match o.dst with | some d => (List.range n).all (fun j => j == k || (match ops[j]? with | some p => !(p.dst == some d) | none => false)) | none => false)
    | none => false) && (List.range ops.size).all (fun k => match ops[k]? with | some o => o.after.all (fun e => decide (e.on < k)) | none => false)

structure RegFacts (P : Program) (md : Region.Mode) (ops : Array Oper) (n : Nat) (a0 : Act) (C : World → Prop) (Spec : Nat → Value → World → Prop) : Prop where
  closed : lastB md ops n = true
  room : ops.all (fun o => match o.dst with | some d => decide (d < a0.tmps.size) | none => true) = true
  mono : ∀ k v w w', Spec k v w → C w → Below w.heap.size w w' → Spec k v w'
  step : ∀ (k : Nat), k < n → ∀ (o : Oper), ops[k]? = some o → ∀ (a : Act) (w : World), C w → (∀ t, ops.toList.any (fun o => o.dst == some t) = false → a.tmps.getD t undef = a0.tmps.getD t undef) → (∀ j d, preB md ops k j d = true → Spec j (a.tmps.getD d undef) w) →
    ∃ v w', (execOp a.eval o).run P w = .ok (.value v) w' ∧ Spec k v w' ∧ C w' ∧ Below w.heap.size w w'

theorem any_dst {k : Nat} {o : Oper} {d : Nat} (h : ops[k]? = some o) (hd : o.dst = some d) : ops.toList.any (fun o => o.dst == some d) = true := by
  rw [List.any_eq_true]
  refine ⟨o, ?_, by rw [hd]; simp⟩
  rw [← Array.getElem?_toList] at h
  exact List.mem_of_getElem? h

theorem RegFacts.dst {n : Nat} {a0 : Act} {C : World → Prop} {Spec : Nat → Value → World → Prop} (F : RegFacts P md ops n a0 C Spec) (k : Nat) (o : Oper) (d : Nat) (ho : ops[k]? = some o) (hd : o.dst = some d) : d < a0.tmps.size := by
  have h := (Array.all_eq_true_iff_forall_mem.1 F.room) o (Array.mem_of_getElem? ho)
  rw [hd] at h
  simpa using h
/-- An operation that leaves no value. -/
theorem wpOp_skip {K : Act → World → Prop} {i : Nat} {o : Oper} {a : Act} {w : World} (hi : ops[i]? = some o) (hg : o.guard = none) (hdst : o.dst = none) (w' : World) (hrun : (execOp a.eval o).run P w = .ok .skip w') (h : K a w') : wpOp P ops Q i K a w := by
  refine wpOp_step hi (fun K' hK => ?_)
  rw [if_pos (by simp [Region.wanted, hg])]
  unfold Oper.wp
  rw [hrun]
  refine hK _ _ ?_
  rw [hdst]
  exact h

theorem wp_region_all {id n : Nat} {a0 : Act} {w0 : World} {C : World → Prop} {Spec : Nat → Value → World → Prop} (hm : P.follows .mixedOrders = true) (F : RegFacts P .any ops n a0 C Spec) (hC : C w0.drew)
    (hlast : ∀ (f : Nat → Value) (w : World), C w → (∀ k o d, k < n → ops[k]? = some o → o.dst = some d → Spec k (f d) w) → wpOp P ops Q n (fun a' w' => Q .normal a' w') (putF ops.toList f a0) w) :
    (Code.region id ops true).wp P Q a0 w0 := by
  have hcl := F.closed
  unfold lastB at hcl
  rw [Bool.and_eq_true, Bool.and_eq_true, Bool.and_eq_true, List.all_eq_true, List.all_eq_true] at hcl
  obtain ⟨⟨⟨hs, hl⟩, ho⟩, hba⟩ := hcl
  have hs : ops.size = n + 1 := by simpa using hs
  obtain ⟨on, hon⟩ : ∃ o, ops[n]? = some o := ⟨_, Array.getElem?_eq_getElem (by omega)⟩
  rw [hon] at hl
  simp only [Bool.and_eq_true, List.all_eq_true] at hl
  refine wp_region_any hm ?_
  have hlen : ∀ (l : Array Bool) (i j : Nat), l.size = ops.size → i < ops.size → (l.setIfInBounds i true).getD j true = if j = i then true else l.getD j true := by
    intro l i j h1 h2
    rw [Array.getD_eq_getD_getElem?, Array.getD_eq_getD_getElem?]
    by_cases e : j = i
    · subst e; simp [h1, h2]
    · rw [if_neg e, Array.getElem?_setIfInBounds_ne (fun h => e h.symm)]
  have hlen2 : ∀ (l : Array Bool) (i j : Nat), l.size = ops.size → i < ops.size → (l.setIfInBounds i true).getD j false = if j = i then true else l.getD j false := by
    intro l i j h1 h2
    rw [Array.getD_eq_getD_getElem?, Array.getD_eq_getD_getElem?]
    by_cases e : j = i
    · subst e; simp [h1, h2]
    · rw [if_neg e, Array.getElem?_setIfInBounds_ne (fun h => e h.symm)]
  have hsame : ∀ (l : Array Bool) (j : Nat), l.size = ops.size → j < ops.size → l.getD j true = l.getD j false := by
    intro l j h1 h2
    rw [Array.getD_eq_getD_getElem?, Array.getD_eq_getD_getElem?, Array.getElem?_eq_getElem (by omega)]; rfl
  refine wpAny_inv (fun l a w => l.size = ops.size ∧ (∀ k o, ops[k]? = some o → l.getD k false = true → ∀ e ∈ o.after, Region.binds .any e = true → l.getD e.on false = true) ∧ (if l.getD n true = true then (∀ k, k < n → l.getD k true = true) ∧ Q .normal a w else C w ∧ a.tmps.size = a0.tmps.size ∧ a.defers = a0.defers ∧ (∀ t, ops.toList.any (fun o => o.dst == some t) = false → a.tmps.getD t undef = a0.tmps.getD t undef) ∧ ∀ k o d, k < n → ops[k]? = some o → o.dst = some d → l.getD k false = true → Spec k (a.tmps.getD d undef) w))
    (fun l a w h => h.1) ?_ ?_ _ _ _ _ ?_ ?_
  · intro l a w i hI hi
    obtain ⟨h1, h2, h3⟩ := ready_spec hi
    obtain ⟨hsz, hdc, hI⟩ := hI
    have hdc2 : ∀ k o, ops[k]? = some o → (l.setIfInBounds i true).getD k false = true → ∀ e ∈ o.after, Region.binds .any e = true → (l.setIfInBounds i true).getD e.on false = true := by
      intro k o hk hkl e he hb
      rw [hlen2 l i k hsz h1] at hkl
      rw [hlen2 l i e.on hsz h1]
      by_cases hki : k = i
      · subst hki
        split
        · rfl
        · exact h3 o hk e he hb
      · rw [if_neg hki] at hkl
        split
        · rfl
        · exact hdc k o hk hkl e he hb
    by_cases hn : l.getD n true = true
    · exfalso
      rw [if_pos hn] at hI
      rcases Nat.lt_or_ge i n with h | h
      · rw [hI.1 i h] at h2; cases h2
      · obtain rfl : i = n := by omega
        rw [hn] at h2; cases h2
    · rw [if_neg hn] at hI
      obtain ⟨hC', hts, htd, hbase, hspec⟩ := hI
      rcases Nat.lt_or_ge i n with hlt | hge
      · obtain ⟨o, hoi⟩ : ∃ o, ops[i]? = some o := ⟨_, Array.getElem?_eq_getElem (by omega)⟩
        have hoo := ho i (List.mem_range.2 hlt)
        rw [hoi] at hoo
        rw [Bool.and_eq_true] at hoo
        obtain ⟨hg, hdst⟩ := hoo
        have hg : o.guard = none := by simpa using hg
        obtain ⟨d, hd⟩ : ∃ d, o.dst = some d := by
          cases hq : o.dst with
          | none => rw [hq] at hdst; cases hdst
          | some d => exact ⟨d, rfl⟩
        rw [hd] at hdst
        simp only [List.all_eq_true, List.mem_range] at hdst
        obtain ⟨v, w', hrun, hv, hC2, hb⟩ := F.step i hlt o hoi a w hC' hbase (fun j d' hp => by
          unfold preB at hp
          rw [hoi] at hp
          cases hj : ops[j]? with
          | none => rw [hj] at hp; cases hp
          | some p =>
            rw [hj, Bool.and_eq_true, Array.any_eq_true] at hp
            obtain ⟨⟨q, hq, he⟩, hpd⟩ := hp
            rw [Bool.and_eq_true] at he
            have h5 := h3 o hoi o.after[q] (Array.getElem_mem hq) he.1
            have h6 : o.after[q].on = j := by simpa using he.2
            rw [h6] at h5
            have hjn : j < n := by
              rcases Nat.lt_or_ge j n with h | h
              · exact h
              · exfalso
                have hjs : j < ops.size := by
                  rcases Nat.lt_or_ge j ops.size with h' | h'
                  · exact h'
                  · rw [Array.getElem?_eq_none h'] at hj; cases hj
                obtain rfl : j = n := by omega
                rw [hsame l j hsz hjs] at hn
                exact hn h5
            exact hspec j p d' hjn hj (by simpa using hpd) h5)
        refine wpOp_step hoi (fun K hK => ?_)
        rw [if_pos (by simp [Region.wanted, hg])]
        unfold Oper.wp
        rw [hrun]
        refine hK _ _ ⟨by simpa using hsz, hdc2, ?_⟩
        rw [hlen l i n hsz h1, if_neg (show ¬ n = i by omega), if_neg hn]
        have hdr := F.dst i o d hoi hd
        refine ⟨hC2, by rw [put_size]; exact hts, by rw [put_defers]; exact htd, ?_, ?_⟩
        · intro t ht
          rw [hd]
          have htd' : t ≠ d := fun e => by rw [e, any_dst hoi hd] at ht; cases ht
          by_cases htl : t < a.tmps.size
          · rw [put_get _ _ _ _ htl, if_neg htd']; exact hbase t ht
          · rw [← hbase t ht, getD_get, getD_get, Array.getElem?_eq_none (show (a.put (some d) v).tmps.size ≤ t by rw [put_size]; exact Nat.le_of_not_lt htl), Array.getElem?_eq_none (Nat.le_of_not_lt htl)]
        · intro k p d' hk hp hpd hkl
          rw [hlen2 l i k hsz h1] at hkl
          rw [hd]
          by_cases e : k = i
          · subst e
            rw [hoi] at hp
            cases hp
            rw [hd] at hpd
            cases hpd
            rw [put_get _ _ _ _ (by omega), if_pos rfl]; exact hv
          · rw [if_neg e] at hkl
            have hdd := hdst k hk
            rw [hp] at hdd
            have hne : d' ≠ d := fun h => by
              subst h
              simp [e, hpd] at hdd
            have hdr' := F.dst k p d' hp hpd
            rw [put_get _ _ _ _ (by omega), if_neg hne]
            exact F.mono k _ _ _ (hspec k p d' hk hp hpd hkl) hC' hb
      · obtain rfl : i = n := by omega
        have hall : ∀ k, k < i → l.getD k false = true := fun k hk => by
          have := hl.1 k (List.mem_range.2 hk)
          rw [Array.any_eq_true] at this
          obtain ⟨q, hq, he⟩ := this
          rw [Bool.and_eq_true, Bool.or_eq_true] at he
          have h5 := h3 on hon on.after[q] (Array.getElem_mem hq) he.1
          rcases he.2 with he2 | he2
          · have h6 : on.after[q].on = k := by simpa using he2
            rw [h6] at h5
            exact h5
          · cases hq2 : ops[on.after[q].on]? with
            | none => rw [hq2] at he2; cases he2
            | some p =>
              rw [hq2] at he2
              simp only [Array.any_eq_true] at he2
              obtain ⟨q2, hq3, he3⟩ := he2
              rw [Bool.and_eq_true] at he3
              have h7 := hdc _ p hq2 h5 p.after[q2] (Array.getElem_mem hq3) he3.1
              have h8 : p.after[q2].on = k := by simpa using he3.2
              rw [h8] at h7
              exact h7
        rw [act_putF hts htd hbase]
        refine wpOp_mono ?_ (hlast (fun t => a.tmps.getD t undef) w hC' (fun k o d hk hok hd => hspec k o d hk hok hd (hall k hk)))
        intro a' w' hq
        refine ⟨by simpa using hsz, hdc2, ?_⟩
        rw [hlen l i i hsz h1, if_pos rfl, if_pos rfl]
        refine ⟨fun k hk => ?_, hq⟩
        rw [hlen l i k hsz h1, if_neg (by omega), hsame l k hsz (by omega)]
        exact hall k hk
  · intro l a w hI hr
    obtain ⟨hsz, _, hI⟩ := hI
    by_cases hn : l.getD n true = true
    · rw [if_pos hn] at hI; exact hI.2
    · exfalso
      have hall : ∀ k, k < ops.size → l.getD k true = true := by
        intro k
        induction k using Nat.strongRecOn with
        | _ k ih =>
          intro hk
          cases hv : l.getD k true with
          | true => rfl
          | false =>
            exfalso
            have hin : k ∈ Region.ready .any ops l := by
              unfold Region.ready
              rw [List.mem_filter, List.mem_range]
              obtain ⟨o, hok⟩ : ∃ o, ops[k]? = some o := ⟨_, Array.getElem?_eq_getElem hk⟩
              refine ⟨hk, ?_⟩
              rw [hv, hok]
              simp only [Option.map_some, Option.getD_some, Bool.not_false, Bool.true_and]
              rw [Array.all_eq_true_iff_forall_mem]
              intro e he
              have h1 := hba k (List.mem_range.2 hk)
              rw [hok] at h1
              have h2 := (Array.all_eq_true_iff_forall_mem.1 h1) e he
              have h3 : e.on < k := by simpa using h2
              rw [← hsame l e.on hsz (by omega), ih e.on h3 (by omega), Bool.or_true]
            rw [hr] at hin
            cases hin
      exact hn (hall n (by omega))
  · simp
  · refine ⟨by simp, fun k o _ hkl => ?_, ?_⟩
    · rw [Array.getD_eq_getD_getElem?, Array.getElem?_replicate] at hkl
      split at hkl <;> cases hkl
    have hz : (Array.replicate ops.size false).getD n true = false := by
      rw [Array.getD_eq_getD_getElem?, Array.getElem?_replicate, if_pos (show n < ops.size by rw [hs]; exact Nat.lt_succ_self n)]; rfl
    rw [if_neg (by rw [hz]; decide)]
    refine ⟨hC, rfl, rfl, fun _ _ => rfl, fun k o d hk _ _ hkl => ?_⟩
    rw [Array.getD_eq_getD_getElem?, Array.getElem?_replicate] at hkl
    split at hkl <;> cases hkl
end
end Go.Proofs.Ytakobldhjndeiaa
