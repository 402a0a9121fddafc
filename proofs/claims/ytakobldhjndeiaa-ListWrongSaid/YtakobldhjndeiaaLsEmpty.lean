/-
  Lists.Empty.
-/
import Derived.Test.YtakobldhjndeiaaLsSpill
import Derived.Outline
namespace Go.Proofs.Ytakobldhjndeiaa
open Go.RowKit
set_option linter.unusedVariables false
set_option linter.unusedSimpArgs false

theorem app_bytes_at {w : World} {ops : Array Oper} {rest : List Oper} {o : Oper} {a : Act} {Q : Exit → Act → World → Prop} (hgd : o.guard = none) (s x : Operand)
    (ho : o.op = .call { callee := .builtin .append, args := #[s, x], argTypes := #[22, 22] })
    {B : Nat} {v : Value} {xs : List UInt8} (hs : a.eval s = v) (hown : OwnB w B v xs)
    {ad : Option Addr} {m c : Nat} {ys : List UInt8} (hx : a.eval x = .slice ad m c) (hsl : Bytes w ad m c ys)
    (h63 : xs.length + m ≤ 140737488355328) (hbase : B ≤ w.heap.size)
    (h : ∀ v' w', OwnB w' B v' (xs ++ ys) → w.grownBy w' v.ownBlock → (v'.ownBlock = v.ownBlock ∨ v'.ownBlock = some w.heap.size) → wpList Try.prog ops Q rest (a.put o.dst v') w') : wpList Try.prog ops Q (o :: rest) a w := by
  refine app_sl_at Try.elU8 hgd s x ho hs hown hx hsl (oneCell_u8 _) h63 (by omega) hbase ?_
  intro v' w' h2 h3 h4
  refine h v' w' ?_ h3 h4
  unfold OwnB
  have hm := hsl.len
  rw [List.length_append, List.map_append, Bytes.len hsl]
  exact h2
def EmpInv (w0 : World) (S0 : List Nat) (g gd lb cb r t : Nat) (vs : List Value) (tiles : List (List Ck)) (d : Dev) (cs : List Ck) (wr : World) (k : Nat) (err : Int) (out : Value) : Prop :=
  ∃ SA SD free U most mem dk, SysX wr SA SD (lsBlocks lb cb vs) g gd lb r free U most mem tiles (tiles.set t (cs.drop k)).flatten dk ∧ Lsx wr lb cb (some ⟨g, 0, none⟩) (some ⟨gd, 0, none⟩) vs tiles ∧ DSame d dk ∧
    (d.takes ≤ dk.takes ∧ dk.takes ≤ d.takes + k) ∧ Grows S0 w0 (SA ++ (SD ++ lsBlocks lb cb vs)) ∧ Fr S0 w0 wr ∧
    ((err = 0 ∧ OwnB wr w0.heap.size out (text (cs.take k)) ∧ (∀ p, out.ownBlock = some p → p ∉ SA ++ (SD ++ lsBlocks lb cb vs))) ∨ (err = 10 ∧ ∃ q, d.takes ≤ q ∧ q < dk.takes ∧ Bad d q))
def EmptyPost (w : World) (S : List Nat) (g gd lb r : Nat) (tiles : List (List Ck)) (d : Dev) (t : Nat) (cs : List Ck) (e : Ending) (w' : World) : Prop :=
  ∃ S' d', Sys w' S' g gd lb r (tiles.set t []) d' ∧ DSame d d' ∧ (d.takes ≤ d'.takes ∧ d'.takes ≤ d.takes + cs.length) ∧ Grows S w S' ∧ Fr S w w' ∧
    ((∃ v, e = .returned (.tuple #[v, .int .i64 0]) ∧ OwnB w' w.heap.size v (text cs) ∧ (∀ p, v.ownBlock = some p → p ∉ S')) ∨ (e = .returned (.tuple #[.slice none 0 0, .int .i64 10]) ∧ ∃ q, d.takes ≤ q ∧ q < d'.takes ∧ Bad d q))
theorem Lsx.grown9 {w w' : World} {SA SD : List Nat} {lb cb : Nat} {pa pd : Option Addr} {vs : List Value} {tiles : List (List Ck)} (h : Lsx w lb cb pa pd vs tiles) {v : Value} (hg : w.grownBy w' v.ownBlock) (hv : ∀ p, v.ownBlock = some p → p ∉ SA ++ (SD ++ lsBlocks lb cb vs)) : Lsx w' lb cb pa pd vs tiles := by
  have hf : Fr v.ownBlock.toList w w' := Fr.grown (Fr.refl _ _) hg (fun k hk => .inl (by simp [hk]))
  refine h.fr hf (fun k hk hm => hv k (by simpa using hm) ?_)
  simp [hk]
/-- Beside an append to the call's own bytes. -/
theorem SysX.grown {w w' : World} {SA SD SL : List Nat} {g gd lb r : Nat} {free U : List Int} {most : Int} {mem : Nat → List UInt8} {tiles : List (List Ck)} {F : List Ck} {d : Dev} (h : SysX w SA SD SL g gd lb r free U most mem tiles F d) {v v' : Value} (hg : w.grownBy w' v.ownBlock) (hv : ∀ p, v.ownBlock = some p → p ∉ SA ++ (SD ++ SL)) (hl : v'.ownBlock = v.ownBlock ∨ v'.ownBlock = some w.heap.size) :
    SysX w' SA SD SL g gd lb r free U most mem tiles F d ∧ (∀ p, v'.ownBlock = some p → p ∉ SA ++ (SD ++ SL)) := by
  have hf : Fr v.ownBlock.toList w w' := Fr.grown (Fr.refl _ _) hg (fun k hk => .inl (by simp [hk]))
  refine ⟨h.fr hf (fun k hk hm => hv k (by simpa using hm) hk), fun p hp hm => ?_⟩
  rcases hl with e | e
  · exact hv p (by rw [← e]; exact hp) hm
  · rw [e] at hp
    cases hp
    simp only [List.mem_append] at hm
    rcases hm with hm | hm | hm
    · exact absurd (h.ar.lt _ hm) (Nat.lt_irrefl _)
    · exact absurd (h.dv.lt _ hm) (Nat.lt_irrefl _)
    · exact absurd (h.ls.lt _ hm) (Nat.lt_irrefl _)
set_option maxRecDepth 10000 in
theorem empty_nil (t : Int) (w : World) : Calls Try.prog 15 #[.pointer none, .int .i64 t] w fun e w' => e = .returned (.tuple #[.slice none 0 0, .int .i64 1]) ∧ w' = w := by
  go_enter Try.func15, Try.ntmps15
  go_wp2
  go_ret2
  exact ⟨rfl, rfl⟩
set_option maxRecDepth 10000 in
theorem empty_range {w : World} {lb : Nat} {SL : List Nat} {pa pd : Option Addr} {tiles : List (List Ck)} (h : Ls w lb SL pa pd tiles) (t : Int) (ht : t < 0 ∨ (tiles.length : Int) ≤ t) :
    Calls Try.prog 15 #[.pointer (some ⟨lb, 0, none⟩), .int .i64 t] w fun e w' => e = .returned (.tuple #[.slice none 0 0, .int .i64 2]) ∧ w' = w := by
  go_enter Try.func15, Try.ntmps15
  go_wp2_with (go_at_call 22; refine (valid_no h t ht).mono ?_; rintro e w1 ⟨rfl, rfl⟩)
  go_ret2
  exact ⟨rfl, rfl⟩
set_option maxRecDepth 10000 in
set_option maxHeartbeats 4000000 in
theorem empty_calls {w : World} {S : List Nat} {g gd lb r : Nat} {tiles : List (List Ck)} {d : Dev} (h : Sys w S g gd lb r tiles d) {t : Nat} {cs : List Ck} (ht : tiles[t]? = some cs) (hcl : cs.length ≤ 100000) (htk : d.takes + cs.length < 1000000) (hnx : d.next < 1000000) (hbe : BendsOk d) :
    Calls Try.prog 15 #[.pointer (some ⟨lb, 0, none⟩), .int .i64 t] w (EmptyPost w S g gd lb r tiles d t cs) := by
  have htt := (List.getElem?_eq_some_iff.1 ht).1
  have HS := hid h
  obtain ⟨SA, SD, SL, free, U, most, mem, h, rfl⟩ := h
  have HV := valid_yes h.ls t htt
  obtain ⟨cb, vs, hl, rfl⟩ := h.ls
  obtain ⟨a, cap, hv, ct, ft, ho, hvl, hle, hmx⟩ := hl.at ht
  unfold maxLen at hmx
  have c2 := cell_at hl.top 2
  have HVV := hid hv
  have HT := hid ht
  have HBE0 := hid hbe
  have HI := hid (show EmpInv w (SA ++ (SD ++ lsBlocks lb cb vs)) g gd lb cb r t vs tiles d cs w 0 0 (.slice none 0 0) from
    ⟨SA, SD, free, U, most, mem, d, by rw [List.drop_zero, flat_set_self ht]; exact h, hl, DSame.refl d, ⟨by omega, by omega⟩, Grows.refl _ _, Fr.refl _ _, .inl ⟨rfl, OwnB.nil _ _, fun p hp => by cases hp⟩⟩)
  obtain ⟨S, hS⟩ : ∃ S, SA ++ (SD ++ lsBlocks lb cb vs) = S := ⟨_, rfl⟩
  rw [hS] at HI HS ⊢
  have z0 : (0 : Int) ≤ (t : Int) := Int.natCast_nonneg _
  clear h hl hv ho hS ht hbe
  go_enter Try.func15, Try.ntmps15
  go_wp2_with (go_at_call 22; refine HV.mono ?_; rintro e w1 ⟨rfl, rfl⟩)
  clear c2
  go_loopw [6, 7, 9, 10, 11, 26] (fun out er _ _ _ i wr => ∃ (k : Nat) (ev : Int) (ov : Value), k ≤ cs.length ∧ i = .int .i64 (k : Int) ∧ er = .int .i64 ev ∧ ov = out ∧ EmpInv w1 S g gd lb cb r t vs tiles d cs wr k ev ov) (fun _ _ _ _ _ i _ => cs.length - (intOf i).toNat)
  case atStart => exact ⟨0, 0, _, by omega, rfl, rfl, rfl, HI.out⟩
  case round =>
    clear HI HV
    obtain ⟨k, ev, out, hk, rfl, rfl, rfl, hi⟩ := hrel
    have HI := hid hi
    obtain ⟨SA, SD, free, U, most, mem, dk, hx, hl, hds, htd, hG, hf, hout⟩ := hi
    by_cases hlt : k < cs.length
    · obtain ⟨g1, cap', e, k0, k1, k2, _, _⟩ := hl.ck HT.out HVV.out hlt
      simp only [Value.slice.injEq] at e
      obtain ⟨rfl, _, rfl⟩ := e
      have hdr := List.drop_eq_getElem_cons hlt
      have htx := text_snoc cs k hlt
      rw [hdr] at hx
      obtain ⟨c, hc⟩ : ∃ c, cs[k] = c := ⟨_, rfl⟩
      rw [hc] at hx k0 k1 k2 htx
      obtain ⟨aw, y, x⟩ := c
      have hx64 : x.length ≤ 64 := hx.rel.len ⟨aw, y, x⟩ ((flat_cons htt _ _).mem_iff.2 (List.mem_cons_self ..))
      have hmm : (⟨aw, y, x⟩ : Ck) ∈ (tiles.set t (⟨aw, y, x⟩ :: cs.drop (k + 1))).flatten := (flat_cons htt _ _).mem_iff.2 (List.mem_cons_self ..)
      have htl := text_take_le (cs := cs) (HS.out.len64 HT.out) k
      simp only [] at k0 k1 k2 htx
      obtain ⟨n, hn⟩ : ∃ n, x.length = n := ⟨_, rfl⟩
      rw [hn] at k2 hx64
      have HN := hid hn
      have HTX := hid htx
      have HX := hid hx
      have HL := hid hl
      have HDS := hid hds
      have HG := hid hG
      have HF := hid hf
      have HMM := hid hmm
      have HSL := hid (show w1.heap.size ≤ wr.heap.size from hf.size)
      obtain ⟨td1, td2⟩ := htd
      clear hdr htx hx hl hds hG hf hc hn hmm ct ft
      cases aw
      · obtain ⟨z, rfl⟩ : ∃ z : Nat, y = (z : Int) := ⟨y.toNat, by have := (HX.out.rel.here _ HMM.out rfl).1; simp only [] at this; omega⟩
        rcases hout with ⟨rfl, hob, hoff⟩ | ⟨rfl, hbad⟩
        · go_upto_region 14 with (fail)
          have hb3 := (Below.refl wr.heap.size wr).alloc (Nat.le_refl _) (.cells #[.bool false, .int .i64 (z : Int), .int .i64 (n : Int)] 73)
          have hbx := heap_new wr (.cells #[.bool false, .int .i64 (z : Int), .int .i64 (n : Int)] 73)
          obtain ⟨B, hB⟩ : ∃ B, wr.heap.size = B := ⟨_, rfl⟩
          obtain ⟨W, hW⟩ : ∃ W, wr.alloc (.cells #[.bool false, .int .i64 (z : Int), .int .i64 (n : Int)] 73) = W := ⟨_, rfl⟩
          have HWB := hid (show ∀ j ∈ SA ++ (SD ++ lsBlocks lb cb vs), j < B from fun j hj => by
            rw [← hB]
            simp only [List.mem_append] at hj
            rcases hj with hj | hj | hj
            · exact HX.out.ar.lt j hj
            · exact HX.out.dv.lt j hj
            · exact HX.out.ls.lt j hj)
          rw [hW] at hb3 hbx ⊢
          rw [hB] at hbx ⊢
          have HWS := hid (show B < W.heap.size from heap_lt hbx)
          have HB3 := hid hb3
          have HBX := hid hbx
          have hld := (HL.out.keep hb3).keep (Below.refl _ _).drew
          have s0 := cell_at hld.top 0
          have s1 := cell_at (b := B) (show W.drew.heap[B]? = _ from hbx) 1
          simp only [List.getElem?_toArray, List.getElem?_cons_zero, List.getElem?_cons_succ] at s0 s1
          have HS0 := hid (And.intro s0 s1)
          have HBE := hid hB
          clear hb3 hbx hld s0 s1 k0 k1 k2 hB hW
          have HU := hid (HX.out.rel.memU HMM.out rfl)
          have HAD := hid ((HX.out.ar.keep HB3.out).keep (Below.refl _ _).drew)
          have HM64 := hid (HX.out.ar.mem64 HU.out)
          have HMT := hid (show (mem z).take n = x from by have := (HX.out.rel.here _ HMM.out rfl).2; rw [← HN.out]; simpa using this)
          go_region_held (fun w' => w'.cell? ⟨lb, 0, none⟩ = some (.pointer (some ⟨g, 0, none⟩)) ∧ w'.cell? ⟨B, 1, none⟩ = some (.int .i64 (z : Int))) (first | exact HS0.out | exact HS5.out)
            (first | (go_at_call 27; refine (bytes_ok HAD.out z HU.out).mono ?_; rintro e w5 ⟨v5, rfl, ho5, hb5⟩; obtain ⟨a5, c5, e5, hy5⟩ := ho5.bytes; rw [HM64.out] at e5 hy5; subst e5; have hbw := (Below.refl W.heap.size W).drew.trans (hb5.mono (Nat.le_refl _)); have HB5 := hid (HB3.out.trans (hbw.mono HB3.out.size)); have HBX5 := hid (show w5.heap[B]? = _ from (Fr.ofBelow hbw).heap HBX.out (by simp)); have s0 := cell_at (HL.out.keep HB5.out).top 0; have s1 := cell_at HBX5.out 1; simp only [List.getElem?_toArray, List.getElem?_cons_zero, List.getElem?_cons_succ] at s0 s1; have HS5 := hid (And.intro s0 s1); have HA5 := hid (show ∀ p, a5 = some p → W.heap.size ≤ p.block from fun p hp => by have h1 := (World.ownsRow.lt ho5 p.block (by rw [hp]; rfl)).1; simpa using h1); have HY5 := hid hy5; clear ho5 hb5 hy5 s0 s1 hbw))
          go_upto_region 15 with (fail)
          have hm6 := (HX.out.keep HB5.out).keep (Below.refl w5.heap.size w5).drew
          have HB6 := hid (HB5.out.trans ((Below.refl w5.heap.size w5).drew.mono HB5.out.size))
          have HAR6 := hid hm6.ar
          have hl6 := (HL.out.keep HB5.out).keep (Below.refl w5.heap.size w5).drew
          have hbx6 : w5.drew.heap[B]? = _ := HBX5.out
          have HL6 := hid hl6
          have HBX6 := hid hbx6
          have s0 := cell_at hl6.top 0
          have s1 := cell_at hbx6 1
          simp only [List.getElem?_toArray, List.getElem?_cons_zero, List.getElem?_cons_succ] at s0 s1
          have HS6 := hid (And.intro s0 s1)
          clear hm6 hl6 hbx6 s0 s1
          go_region_held (fun w' => w'.cell? ⟨lb, 0, none⟩ = some (.pointer (some ⟨g, 0, none⟩)) ∧ w'.cell? ⟨B, 1, none⟩ = some (.int .i64 (z : Int))) (first | exact HS6.out | exact HS7.out)
            (first | (go_at_call 29; refine (give_ok HAR6.out z HU.out).mono ?_; rintro e w7 ⟨rfl, SA', hA7, hG7, hf7⟩; have hl7 := HL6.out.fr hf7 (fun k hk hm => HX.out.al k hm hk); have hbx7 := hf7.heap HBX6.out (fun hm => by have h2 := HX.out.ar.lt _ hm; have := HBE.out; omega); have s0 := cell_at hl7.top 0; have s1 := cell_at hbx7 1; have b2 := cell_at hbx7 2; simp only [List.getElem?_toArray, List.getElem?_cons_zero, List.getElem?_cons_succ] at s0 s1 b2; have HS7 := hid (And.intro s0 s1); have HL7 := hid hl7; have HA7 := hid hA7; have HG7 := hid hG7; have HF7 := hid hf7; clear hA7 hG7 hf7 hl7 s0 s1 hbx7))
          obtain ⟨hx7, hg7, hf7⟩ := sys_gave HX.out htt HB6.out HA7.out HG7.out HF7.out
          have HX7 := hid hx7
          have HG8 := hid (HG.out.trans hg7 HF.out.size)
          have HF8 := hid (HF.out.trans hf7 HG.out)
          have HFW := hid hf7
          have HGW := hid hg7
          clear hx7 hg7 hf7
          have HY7 := hid (show Bytes w7 a5 n c5 x from by
            have h1 : Bytes w7 a5 64 c5 (mem z) := Sl.fr (HY5.out.keep (Below.refl _ _).drew) HF7.out (fun p hp hm => by have h1 := HA5.out p hp; have h2 := HX.out.ar.lt _ hm; have h3 := HB3.out.size; omega)
            have := h1.front n hx64
            rwa [HMT.out] at this)
          have hob7 := own_fr hob HFW.out hoff
          have HOF7 := hid (show ∀ p, out.ownBlock = some p → p ∉ SA' ++ (SD ++ lsBlocks lb cb vs) from fun p hp hm => by
            rcases HGW.out p hm with h1 | h1
            · exact hoff p hp h1
            · have := (World.ownsRow.lt hob p hp).2; omega)
          have hc5 : n ≤ c5 := Sl.le HY7.out
          have HOB7 := hid (show OwnB w7 w1.heap.size out (text (cs.take k)) from hob7)
          obtain ⟨ao, no, co, rfl⟩ : ∃ a n c, out = Value.slice a n c := (by obtain ⟨a6, q6, e, _⟩ := hob.bytes; exact ⟨_, _, _, e⟩)
          clear hob hob7 hoff
          go_wp2_with (at_builtin; refine app_bytes_at rfl (.tmp 76) (.tmp 80) rfl rfl HOB7.out rfl HY7.out (by omega) (Nat.le_trans HSL.out HFW.out.size) ?_; intro v9 w9 ho9 hg9 hl9; have HX9 := hid (HX7.out.grown hg9 HOF7.out hl9); have HF9 := hid (show Fr S w1 w9 from Fr.grown HF8.out hg9 (fun p hp => .inr (World.ownsRow.lt HOB7.out p hp).1)); have HL9 := hid (show Lsx w9 lb cb (some ⟨g, 0, none⟩) (some ⟨gd, 0, none⟩) vs tiles from HL7.out.grown9 hg9 HOF7.out); have HO9 := hid ho9; clear ho9 hg9 hl9; obtain ⟨a9, n9, c9, rfl⟩ : ∃ a n c, v9 = Value.slice a n c := (by obtain ⟨a6, q6, e, _⟩ := HO9.out.bytes; exact ⟨_, _, _, e⟩))
          go_roundw
          case rel => exact ⟨k + 1, 0, _, by omega, by go_num, rfl, rfl, SA', SD, _, _, _, _, dk, HX9.out.1, HL9.out, HDS.out, ⟨td1, by omega⟩, HG8.out, HF9.out, .inl ⟨rfl, by rw [HTX.out]; exact HO9.out, HX9.out.2⟩⟩
          case measure => simp [intOf]; omega
        · go_upto_region 14 with (fail)
          have hb3 := (Below.refl wr.heap.size wr).alloc (Nat.le_refl _) (.cells #[.bool false, .int .i64 (z : Int), .int .i64 (n : Int)] 73)
          have hbx := heap_new wr (.cells #[.bool false, .int .i64 (z : Int), .int .i64 (n : Int)] 73)
          obtain ⟨B, hB⟩ : ∃ B, wr.heap.size = B := ⟨_, rfl⟩
          obtain ⟨W, hW⟩ : ∃ W, wr.alloc (.cells #[.bool false, .int .i64 (z : Int), .int .i64 (n : Int)] 73) = W := ⟨_, rfl⟩
          have HWB := hid (show ∀ j ∈ SA ++ (SD ++ lsBlocks lb cb vs), j < B from fun j hj => by
            rw [← hB]
            simp only [List.mem_append] at hj
            rcases hj with hj | hj | hj
            · exact HX.out.ar.lt j hj
            · exact HX.out.dv.lt j hj
            · exact HX.out.ls.lt j hj)
          rw [hW] at hb3 hbx ⊢
          rw [hB] at hbx ⊢
          have HWS := hid (show B < W.heap.size from heap_lt hbx)
          have HB3 := hid hb3
          have HBX := hid hbx
          have hld := (HL.out.keep hb3).keep (Below.refl _ _).drew
          have s0 := cell_at hld.top 0
          have s1 := cell_at (b := B) (show W.drew.heap[B]? = _ from hbx) 1
          simp only [List.getElem?_toArray, List.getElem?_cons_zero, List.getElem?_cons_succ] at s0 s1
          have HS0 := hid (And.intro s0 s1)
          have HBE := hid hB
          clear hb3 hbx hld s0 s1 k0 k1 k2 hB hW
          have HU := hid (HX.out.rel.memU HMM.out rfl)
          have HAD := hid ((HX.out.ar.keep HB3.out).keep (Below.refl _ _).drew)
          have HM64 := hid (HX.out.ar.mem64 HU.out)
          have HMT := hid (show (mem z).take n = x from by have := (HX.out.rel.here _ HMM.out rfl).2; rw [← HN.out]; simpa using this)
          go_region_held (fun w' => w'.cell? ⟨lb, 0, none⟩ = some (.pointer (some ⟨g, 0, none⟩)) ∧ w'.cell? ⟨B, 1, none⟩ = some (.int .i64 (z : Int))) (first | exact HS0.out | exact HS5.out)
            (first | (go_at_call 27; refine (bytes_ok HAD.out z HU.out).mono ?_; rintro e w5 ⟨v5, rfl, ho5, hb5⟩; obtain ⟨a5, c5, e5, hy5⟩ := ho5.bytes; rw [HM64.out] at e5 hy5; subst e5; have hbw := (Below.refl W.heap.size W).drew.trans (hb5.mono (Nat.le_refl _)); have HB5 := hid (HB3.out.trans (hbw.mono HB3.out.size)); have HBX5 := hid (show w5.heap[B]? = _ from (Fr.ofBelow hbw).heap HBX.out (by simp)); have s0 := cell_at (HL.out.keep HB5.out).top 0; have s1 := cell_at HBX5.out 1; simp only [List.getElem?_toArray, List.getElem?_cons_zero, List.getElem?_cons_succ] at s0 s1; have HS5 := hid (And.intro s0 s1); have HA5 := hid (show ∀ p, a5 = some p → W.heap.size ≤ p.block from fun p hp => by have h1 := (World.ownsRow.lt ho5 p.block (by rw [hp]; rfl)).1; simpa using h1); have HY5 := hid hy5; clear ho5 hb5 hy5 s0 s1 hbw))
          go_upto_region 15 with (fail)
          have hm6 := (HX.out.keep HB5.out).keep (Below.refl w5.heap.size w5).drew
          have HB6 := hid (HB5.out.trans ((Below.refl w5.heap.size w5).drew.mono HB5.out.size))
          have HAR6 := hid hm6.ar
          have hl6 := (HL.out.keep HB5.out).keep (Below.refl w5.heap.size w5).drew
          have hbx6 : w5.drew.heap[B]? = _ := HBX5.out
          have HL6 := hid hl6
          have HBX6 := hid hbx6
          have s0 := cell_at hl6.top 0
          have s1 := cell_at hbx6 1
          simp only [List.getElem?_toArray, List.getElem?_cons_zero, List.getElem?_cons_succ] at s0 s1
          have HS6 := hid (And.intro s0 s1)
          clear hm6 hl6 hbx6 s0 s1
          go_region_held (fun w' => w'.cell? ⟨lb, 0, none⟩ = some (.pointer (some ⟨g, 0, none⟩)) ∧ w'.cell? ⟨B, 1, none⟩ = some (.int .i64 (z : Int))) (first | exact HS6.out | exact HS7.out)
            (first | (go_at_call 29; refine (give_ok HAR6.out z HU.out).mono ?_; rintro e w7 ⟨rfl, SA', hA7, hG7, hf7⟩; have hl7 := HL6.out.fr hf7 (fun k hk hm => HX.out.al k hm hk); have hbx7 := hf7.heap HBX6.out (fun hm => by have h2 := HX.out.ar.lt _ hm; have := HBE.out; omega); have s0 := cell_at hl7.top 0; have s1 := cell_at hbx7 1; have b2 := cell_at hbx7 2; simp only [List.getElem?_toArray, List.getElem?_cons_zero, List.getElem?_cons_succ] at s0 s1 b2; have HS7 := hid (And.intro s0 s1); have HL7 := hid hl7; have HA7 := hid hA7; have HG7 := hid hG7; have HF7 := hid hf7; clear hA7 hG7 hf7 hl7 s0 s1 hbx7))
          obtain ⟨hx7, hg7, hf7⟩ := sys_gave HX.out htt HB6.out HA7.out HG7.out HF7.out
          have HX7 := hid hx7
          have HG8 := hid (HG.out.trans hg7 HF.out.size)
          have HF8 := hid (HF.out.trans hf7 HG.out)
          have HFW := hid hf7
          have HGW := hid hg7
          clear hx7 hg7 hf7
          have HBD := hid hbad
          go_wp2
          go_roundw
          case rel => exact ⟨k + 1, 10, _, by omega, by go_num, rfl, rfl, SA', SD, _, _, _, _, dk, HX7.out, HL7.out, HDS.out, ⟨td1, by omega⟩, HG8.out, HF8.out, .inr ⟨rfl, HBD.out⟩⟩
          case measure => simp [intOf]; omega
      · rcases hout with ⟨rfl, hob, hoff⟩ | ⟨rfl, hbad⟩
        · go_upto_region 12 with (fail)
          have hb3 := (Below.refl wr.heap.size wr).alloc (Nat.le_refl _) (.cells #[.bool true, .int .i64 y, .int .i64 (n : Int)] 73)
          have hbx := heap_new wr (.cells #[.bool true, .int .i64 y, .int .i64 (n : Int)] 73)
          obtain ⟨B, hB⟩ : ∃ B, wr.heap.size = B := ⟨_, rfl⟩
          obtain ⟨W, hW⟩ : ∃ W, wr.alloc (.cells #[.bool true, .int .i64 y, .int .i64 (n : Int)] 73) = W := ⟨_, rfl⟩
          have HWB := hid (show ∀ j ∈ SA ++ (SD ++ lsBlocks lb cb vs), j < B from fun j hj => by
            rw [← hB]
            simp only [List.mem_append] at hj
            rcases hj with hj | hj | hj
            · exact HX.out.ar.lt j hj
            · exact HX.out.dv.lt j hj
            · exact HX.out.ls.lt j hj)
          rw [hW] at hb3 hbx ⊢
          rw [hB] at hbx ⊢
          have HWS := hid (show B < W.heap.size from heap_lt hbx)
          have HB3 := hid hb3
          have HBX := hid hbx
          have hld := (HL.out.keep hb3).keep (Below.refl _ _).drew
          have s0 := cell_at hld.top 1
          have s1 := cell_at (b := B) (show W.drew.heap[B]? = _ from hbx) 1
          simp only [List.getElem?_toArray, List.getElem?_cons_zero, List.getElem?_cons_succ] at s0 s1
          have HS0 := hid (And.intro s0 s1)
          have HBE := hid hB
          clear hb3 hbx hld s0 s1 k0 k1 k2 hB hW
          obtain ⟨blk, hblk, htake⟩ := HX.out.rel.away _ HMM.out rfl
          have HBL := hid hblk
          have hnum := HX.out.dv.nums _ hblk
          have hnx2 : dk.next < 1000000 := by rw [HDS.out.next]; exact hnx
          have wy : -9223372036854775808 ≤ y ∧ y < 9223372036854775808 := by simp only [] at hnum; omega
          have HD5 := hid ((HX.out.dv.keep HB3.out).keep (Below.refl _ _).drew)
          have HB4 := hid (HB3.out.trans ((Below.refl W.heap.size W).drew.mono HB3.out.size))
          have HMT := hid (show blk.take n = x from by rw [← HN.out]; exact htake)
          clear hblk htake hnum hnx2
          have HBO := hid (HDS.out.ok HBE0.out)
          go_region_held (fun w' => w'.cell? ⟨lb, 1, none⟩ = some (.pointer (some ⟨gd, 0, none⟩)) ∧ w'.cell? ⟨B, 1, none⟩ = some (.int .i64 y)) (first | exact HS0.out | exact HS7.out)
            (first | (go_at_call 31; refine (dv_takes HD5.out HBL.out wy (by omega) HBO.out).mono ?_; rintro e w7 ⟨v7, ez, rfl, hcase, ⟨SD', hd7, hg7⟩, hf7⟩; have HCS := hid hcase; clear hcase; have hl7 := ((HL.out.keep HB3.out).keep (Below.refl _ _).drew).fr hf7 (fun k hk hm => HX.out.dl k hm hk); have hbx7 := hf7.heap (show W.drew.heap[B]? = _ from HBX.out) (fun hm => by have h2 := HX.out.dv.lt _ hm; have := HBE.out; omega); have s0 := cell_at hl7.top 1; have s1 := cell_at hbx7 1; have b2 := cell_at hbx7 2; simp only [List.getElem?_toArray, List.getElem?_cons_zero, List.getElem?_cons_succ] at s0 s1 b2; have HS7 := hid (And.intro s0 s1); have HL7 := hid hl7; have HD7 := hid hd7; have HG7 := hid hg7; have HF7 := hid hf7; clear hd7 hg7 hf7 hl7 s0 s1 hbx7))
          obtain ⟨hx7, hg7, hf7⟩ := sys_lost HX.out htt HB4.out rfl HD7.out HG7.out HF7.out
          have HX7 := hid hx7
          have HG8 := hid (HG.out.trans hg7 HF.out.size)
          have HF8 := hid (HF.out.trans hf7 HG.out)
          have HFW := hid hf7
          have HGW := hid hg7
          clear hx7 hg7 hf7
          have hcs := HCS.out
          clear HCS
          rcases hcs with ⟨rfl, rfl, hb7⟩ | ⟨rfl, ho7⟩
          · have HBD := hid (HDS.out.bad hb7)
            clear hb7 hob hoff
            go_wp2
            go_roundw
            case rel => exact ⟨k + 1, 10, _, by omega, by go_num, rfl, rfl, SA, SD', _, _, _, _, _, HX7.out, HL7.out, HDS.out.took _, ⟨Nat.le_trans td1 (Nat.le_succ _), Nat.succ_le_succ td2⟩, HG8.out, HF8.out, .inr ⟨rfl, dk.takes, td1, Nat.lt_succ_self _, HBD.out⟩⟩
            case measure => simp [intOf]; omega
          · obtain ⟨a5, c5, e5, hy5⟩ := ho7.bytes
            have h64 : blk.length = 64 := HD5.out.len64 HBL.out
            rw [h64] at e5 hy5
            subst e5
            have HY7 := hid (show Bytes w7 a5 n c5 x from by
              have := hy5.front n hx64
              rwa [HMT.out] at this)
            clear ho7 hy5 h64
            have hob7 := own_fr hob HFW.out hoff
            have HOF7 := hid (show ∀ p, out.ownBlock = some p → p ∉ SA ++ (SD' ++ lsBlocks lb cb vs) from fun p hp hm => by
              rcases HGW.out p hm with h1 | h1
              · exact hoff p hp h1
              · have := (World.ownsRow.lt hob p hp).2; omega)
            have hc5 : n ≤ c5 := Sl.le HY7.out
            have HOB7 := hid (show OwnB w7 w1.heap.size out (text (cs.take k)) from hob7)
            obtain ⟨ao, no, co, rfl⟩ : ∃ a n c, out = Value.slice a n c := (by obtain ⟨a6, q6, e, _⟩ := hob.bytes; exact ⟨_, _, _, e⟩)
            clear hob hob7 hoff
            go_wp2_with (at_builtin; refine app_bytes_at rfl (.tmp 76) (.tmp 80) rfl rfl HOB7.out rfl HY7.out (by omega) (Nat.le_trans HSL.out HFW.out.size) ?_; intro v9 w9 ho9 hg9 hl9; have HX9 := hid (HX7.out.grown hg9 HOF7.out hl9); have HF9 := hid (show Fr S w1 w9 from Fr.grown HF8.out hg9 (fun p hp => .inr (World.ownsRow.lt HOB7.out p hp).1)); have HL9 := hid (show Lsx w9 lb cb (some ⟨g, 0, none⟩) (some ⟨gd, 0, none⟩) vs tiles from HL7.out.grown9 hg9 HOF7.out); have HO9 := hid ho9; clear ho9 hg9 hl9; obtain ⟨a9, n9, c9, rfl⟩ : ∃ a n c, v9 = Value.slice a n c := (by obtain ⟨a6, q6, e, _⟩ := HO9.out.bytes; exact ⟨_, _, _, e⟩))
            go_roundw
            case rel => exact ⟨k + 1, 0, _, by omega, by go_num, rfl, rfl, SA, SD', _, _, _, _, _, HX9.out.1, HL9.out, HDS.out.took _, ⟨Nat.le_trans td1 (Nat.le_succ _), Nat.succ_le_succ td2⟩, HG8.out, HF9.out, .inl ⟨rfl, by rw [HTX.out]; exact HO9.out, HX9.out.2⟩⟩
            case measure => simp [intOf]; omega
        · go_upto_region 17 with (fail)
          have hb3 := (Below.refl wr.heap.size wr).alloc (Nat.le_refl _) (.cells #[.bool true, .int .i64 y, .int .i64 (n : Int)] 73)
          have hbx := heap_new wr (.cells #[.bool true, .int .i64 y, .int .i64 (n : Int)] 73)
          obtain ⟨B, hB⟩ : ∃ B, wr.heap.size = B := ⟨_, rfl⟩
          obtain ⟨W, hW⟩ : ∃ W, wr.alloc (.cells #[.bool true, .int .i64 y, .int .i64 (n : Int)] 73) = W := ⟨_, rfl⟩
          have HWB := hid (show ∀ j ∈ SA ++ (SD ++ lsBlocks lb cb vs), j < B from fun j hj => by
            rw [← hB]
            simp only [List.mem_append] at hj
            rcases hj with hj | hj | hj
            · exact HX.out.ar.lt j hj
            · exact HX.out.dv.lt j hj
            · exact HX.out.ls.lt j hj)
          rw [hW] at hb3 hbx ⊢
          rw [hB] at hbx ⊢
          have HWS := hid (show B < W.heap.size from heap_lt hbx)
          have HB3 := hid hb3
          have HBX := hid hbx
          have hld := (HL.out.keep hb3).keep (Below.refl _ _).drew
          have s0 := cell_at hld.top 1
          have s1 := cell_at (b := B) (show W.drew.heap[B]? = _ from hbx) 1
          simp only [List.getElem?_toArray, List.getElem?_cons_zero, List.getElem?_cons_succ] at s0 s1
          have HS0 := hid (And.intro s0 s1)
          have HBE := hid hB
          clear hb3 hbx hld s0 s1 k0 k1 k2 hB hW
          obtain ⟨blk, hblk, htake⟩ := HX.out.rel.away _ HMM.out rfl
          have HBL := hid hblk
          have hnum := HX.out.dv.nums _ hblk
          have hnx2 : dk.next < 1000000 := by rw [HDS.out.next]; exact hnx
          have wy : -9223372036854775808 ≤ y ∧ y < 9223372036854775808 := by simp only [] at hnum; omega
          have HD5 := hid ((HX.out.dv.keep HB3.out).keep (Below.refl _ _).drew)
          have HB4 := hid (HB3.out.trans ((Below.refl W.heap.size W).drew.mono HB3.out.size))
          have HMT := hid (show blk.take n = x from by rw [← HN.out]; exact htake)
          clear hblk htake hnum hnx2
          have HBD := hid hbad
          go_region_held (fun w' => w'.cell? ⟨lb, 1, none⟩ = some (.pointer (some ⟨gd, 0, none⟩)) ∧ w'.cell? ⟨B, 1, none⟩ = some (.int .i64 y)) (first | exact HS0.out | exact HS7.out)
            (first | (go_at_call 30; refine (dv_drop HD5.out HBL.out wy).mono ?_; rintro e w7 ⟨rfl, ⟨SD', hd7, hg7⟩, hf7⟩; have hl7 := ((HL.out.keep HB3.out).keep (Below.refl _ _).drew).fr hf7 (fun k hk hm => HX.out.dl k hm hk); have hbx7 := hf7.heap (show W.drew.heap[B]? = _ from HBX.out) (fun hm => by have h2 := HX.out.dv.lt _ hm; have := HBE.out; omega); have s0 := cell_at hl7.top 1; have s1 := cell_at hbx7 1; have b2 := cell_at hbx7 2; simp only [List.getElem?_toArray, List.getElem?_cons_zero, List.getElem?_cons_succ] at s0 s1 b2; have HS7 := hid (And.intro s0 s1); have HL7 := hid hl7; have HD7 := hid hd7; have HG7 := hid hg7; have HF7 := hid hf7; clear hd7 hg7 hf7 hl7 s0 s1 hbx7))
          obtain ⟨hx7, hg7, hf7⟩ := sys_lost HX.out htt HB4.out rfl HD7.out HG7.out HF7.out
          have HX7 := hid hx7
          have HG8 := hid (HG.out.trans hg7 HF.out.size)
          have HF8 := hid (HF.out.trans hf7 HG.out)
          clear hx7 hg7 hf7
          go_wp2
          go_roundw
          case rel => exact ⟨k + 1, 10, _, by omega, by go_num, rfl, rfl, SA, SD', _, _, _, _, _, HX7.out, HL7.out, HDS.out.less _, ⟨td1, Nat.le_trans td2 (by omega)⟩, HG8.out, HF8.out, .inr ⟨rfl, HBD.out⟩⟩
          case measure => simp [intOf]; omega
    · obtain rfl : k = cs.length := by omega
      have HX := hid hx
      have HL := hid hl
      have HDS := hid hds
      have HG := hid hG
      have HF := hid hf
      have c2 := cell_at hl.top 2
      have ct7 := (hl.at HT.out)
      obtain ⟨a7, cap7, hv7, ct, ft, ho7, hvl7, _, _⟩ := ct7
      obtain ⟨td1, td2⟩ := htd
      have hlp := hl.put HT.out HVV.out (OwnL.nil wr 0) (Fr.refl _ _) (fun k hk => by cases hk)
      obtain ⟨h8, f8, g8⟩ := hlp
      have hx8 := hx.lists (tiles' := tiles.set t []) (F' := (tiles.set t []).flatten) ⟨cb, _, h8, rfl⟩ g8 f8 (by have := hx.rel; rwa [List.drop_length] at this)
      have HX8 := hid hx8
      have HG8 := hid (hG.trans (grows_l g8) hf.size)
      have HF8 := hid (hf.trans (fr_l (SA := SA) (SD := SD) f8) hG)
      have HGL := hid (grows_l (SA := SA) (SD := SD) g8)
      have HFL := hid (fr_l (SA := SA) (SD := SD) f8)
      clear hx hl hds hG hf ho7 h8 f8 g8 hx8 hv7 hvl7
      rcases hout with ⟨rfl, hob, hoff⟩ | ⟨rfl, hbad⟩
      · have hob8 := own_fr hob HFL.out hoff
        have hof8 : ∀ p, out.ownBlock = some p → p ∉ SA ++ (SD ++ lsBlocks lb cb (vs.set t (.slice none 0 0))) := fun p hp hm => by
          rcases HGL.out p hm with h1 | h1
          · exact hoff p hp h1
          · have := (World.ownsRow.lt hob p hp).2; omega
        rw [List.take_length] at hob8
        have HOB := hid hob8
        have HOF := hid hof8
        clear hob hoff hob8 hof8
        go_wp2
        go_ret2
        exact ⟨_, dk, ⟨_, _, _, _, _, _, _, HX8.out, rfl⟩, HDS.out, ⟨td1, td2⟩, HG8.out, HF8.out, .inl ⟨out, rfl, HOB.out, HOF.out⟩⟩
      · have HBD := hid hbad
        clear hbad
        go_wp2
        go_ret2
        exact ⟨_, dk, ⟨_, _, _, _, _, _, _, HX8.out, rfl⟩, HDS.out, ⟨td1, td2⟩, HG8.out, HF8.out, .inr ⟨rfl, HBD.out⟩⟩
end Go.Proofs.Ytakobldhjndeiaa
