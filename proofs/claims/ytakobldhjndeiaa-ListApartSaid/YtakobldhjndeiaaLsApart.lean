/-
  ListApart: the law's walk.
-/
import Derived.Test.YtakobldhjndeiaaLsAny
import Derived.Test.YtakobldhjndeiaaStr
namespace Go.Proofs.Ytakobldhjndeiaa
open Go.RowKit
set_option linter.unusedVariables false
set_option linter.unusedSimpArgs false

def ApS (S T : List Nat) : Prop := ∀ k ∈ S, k ∉ T
theorem ApS.grow {S S' T : List Nat} {w : World} (h : ApS S T) (hG : Grows S w S') (hT : ∀ k ∈ T, k < w.heap.size) : ApS S' T := fun k hk hm => (hG k hk).elim (fun h1 => h k h1 hm) (fun h1 => by have := hT k hm; omega)
theorem ApS.symm {S T : List Nat} (h : ApS S T) : ApS T S := fun k hk hm => h k hm hk
theorem OwnB.bytesAt17 {w : World} {B n cap : Nat} {a : Option Addr} {bs : List UInt8} (h : OwnB w B (.slice a n cap) bs) : Bytes w a n cap bs := by
  obtain ⟨a', c', e, hb⟩ := h.bytes
  simp only [Value.slice.injEq] at e
  obtain ⟨rfl, rfl, rfl⟩ := e
  exact hb
/-- The two systems. -/
structure Two (w : World) (B N1 N2 M : Nat) (g1 gd1 lb1 g2 gd2 lb2 : Nat) (S1 S2 : List Nat) (cs1 cs2 : List Ck) (t2 : List (List Ck)) (d1 d2 : Dev) (T1 T2 : List UInt8) : Prop where
  p : QSys w S1 g1 gd1 lb1 400 ((List.replicate 4 []).set 3 cs1) d1 B N1 0
  q : QSys w S2 g2 gd2 lb2 400 t2 d2 B N2 M
  ap : ApS S1 S2
  four : t2.length = 4
  at3 : t2[3]? = some cs2
  text1 : text cs1 = T1
  text2 : text cs2 = T2
  sure1 : d1.fa = [] ∧ d1.be = []
  sure2 : d2.fa = [] ∧ d2.be = []
theorem sure_ok {d : Dev} (h : d.fa = [] ∧ d.be = []) : BendsOk d := by rw [BendsOk, h.2]; intro p hp; cases hp
theorem sure_not {d : Dev} (h : d.fa = [] ∧ d.be = []) (q : Nat) : ¬ Bad d q := by
  unfold Bad; rw [h.1, h.2]
  rintro (h | ⟨f, m, _, h⟩) <;> cases h
section
variable {w w' : World} {B N1 N2 M N1' N2' M' g1 gd1 lb1 g2 gd2 lb2 : Nat} {S1 S2 S1' S2' : List Nat} {cs1 cs2 cs1' cs2' : List Ck} {t2 t2' : List (List Ck)} {d1 d2 d2' : Dev} {T1 T2 T1' T2' : List UInt8}
theorem Two.keep (h : Two w B N1 N2 M g1 gd1 lb1 g2 gd2 lb2 S1 S2 cs1 cs2 t2 d1 d2 T1 T2) (hb : Below w.heap.size w w') : Two w' B N1 N2 M g1 gd1 lb1 g2 gd2 lb2 S1 S2 cs1 cs2 t2 d1 d2 T1 T2 :=
  ⟨h.p.keep hb, h.q.keep hb, h.ap, h.four, h.at3, h.text1, h.text2, h.sure1, h.sure2⟩
theorem Two.mono (h : Two w B N1 N2 M g1 gd1 lb1 g2 gd2 lb2 S1 S2 cs1 cs2 t2 d1 d2 T1 T2) (h1 : N1 ≤ N1') (h2 : N2 ≤ N2') (h3 : M ≤ M') : Two w B N1' N2' M' g1 gd1 lb1 g2 gd2 lb2 S1 S2 cs1 cs2 t2 d1 d2 T1 T2 :=
  ⟨h.p.mono h1 (Nat.le_refl _), h.q.mono h2 h3, h.ap, h.four, h.at3, h.text1, h.text2, h.sure1, h.sure2⟩
theorem Two.stepP (h : Two w B N1 N2 M g1 gd1 lb1 g2 gd2 lb2 S1 S2 cs1 cs2 t2 d1 d2 T1 T2) (hp : QSys w' S1' g1 gd1 lb1 400 ((List.replicate 4 []).set 3 cs1') d1 B N1' 0) (hG : Grows S1 w S1') (hf : Fr S1 w w') (ht : text cs1' = T1') : Two w' B N1' N2 M g1 gd1 lb1 g2 gd2 lb2 S1' S2 cs1' cs2 t2 d1 d2 T1' T2 :=
  ⟨hp, h.q.fr hf (fun k hk hm => h.ap k hm hk), h.ap.grow hG h.q.sys.lt, h.four, h.at3, ht, h.text2, h.sure1, h.sure2⟩
theorem Two.stepQ (h : Two w B N1 N2 M g1 gd1 lb1 g2 gd2 lb2 S1 S2 cs1 cs2 t2 d1 d2 T1 T2) (hq : QSys w' S2' g2 gd2 lb2 400 t2' d2' B N2' M') (hG : Grows S2 w S2') (hf : Fr S2 w w') (h4 : t2'.length = 4) (h3 : t2'[3]? = some cs2') (ht : text cs2' = T2') (hs : d2'.fa = [] ∧ d2'.be = []) : Two w' B N1 N2' M' g1 gd1 lb1 g2 gd2 lb2 S1 S2' cs1 cs2' t2' d1 d2' T1 T2' :=
  ⟨h.p.fr hf (fun k hk hm => h.ap k hk hm), hq, (h.ap.symm.grow hG h.p.sys.lt).symm, h4, h3, h.text1, ht, h.sure1, hs⟩
end
set_option maxRecDepth 10000 in
set_option maxHeartbeats 4000000 in
theorem apart_walk {w : World} {a : Option Addr} {n c : Nat} {l : List UInt8} (h0 : Bytes w a n c l) {a2 : Option Addr} {n2 c2 : Nat} {acts : List Act17} (h1 : Acts17 w a2 n2 c2 acts) :
    Calls Try.prog 3 #[.slice a n c, .slice a2 n2 c2] w fun e w' => e = .returned (.bool true) ∧ Below w.heap.size w w' := by
  have H0 := hid h0
  have H1 := hid h1
  clear h0 h1
  obtain rfl : l.length = n := Bytes.len H0.out
  obtain rfl : acts.length = n2 := H1.out.1
  by_cases hn : l.length ≤ 20 ∧ acts.length ≤ 20
  · obtain ⟨hn1, hn2⟩ := hn
    have e1 : decide ((20 : Int) < (l.length : Int)) = false := by simp; omega
    have e2 : decide ((20 : Int) < (acts.length : Int)) = false := by simp; omega
    go_enter Try.func3, Try.ntmps3
    go_upto_region 5 with (first
      | (go_at_call 8; refine (awake17 _).mono ?_; rintro e w0 ⟨rfl, hb0⟩))
    go_upto_region 6 with (first
      | (go_at_call 10; refine (new_calls 400 _).mono ?_; rintro e w1 ⟨g1, SA, rfl, hA, hSA, hb1⟩)
      | (go_at_call 11; refine (dv_new 400 _).mono ?_; rintro e w2 ⟨gd1, SD, rfl, hD, hSD, hb2⟩)
      | (go_at_call 9; refine (lnew_calls 4 _ _ _).mono ?_; rintro e w3 ⟨lb1, SL, rfl, hL, hSL, hb3⟩))
    obtain ⟨S1, hs1, hS1⟩ := sys_made (n := 4) hA hSA (Below.refl w1.heap.size w1) hD rfl hSD hb2 (Below.refl _ _) hL hSL hb3 hb1.size
    rw [show (min (max (400 : Int) 0) 4096).toNat = 400 from rfl] at hs1
    have hb13 : Below w0.heap.size w0 w3 := (hb1.trans (hb2.mono hb1.size)).trans (hb3.mono (Nat.le_trans hb1.size hb2.size))
    have HB3 := hid (hb0.trans (hb13.mono hb0.size))
    have HS1 := hid hs1
    have HF1 := hid (show ∀ k ∈ S1, w.heap.size ≤ k from fun k hk => Nat.le_trans hb0.size (hS1 k hk))
    clear hs1 hS1 hb13 hA hSA hb1 hD hSD hb2 hL hSL hb3 hb0 e1 e2
    go_upto_region 7 with (first
      | (go_at_call 10; refine (new_calls 400 _).mono ?_; rintro e w4 ⟨g2, SA, rfl, hA, hSA, hb1⟩)
      | (go_at_call 11; refine (dv_new 400 _).mono ?_; rintro e w5 ⟨gd2, SD, rfl, hD, hSD, hb2⟩)
      | (go_at_call 9; refine (lnew_calls 4 _ _ _).mono ?_; rintro e w6 ⟨lb2, SL, rfl, hL, hSL, hb3⟩))
    obtain ⟨S2, hs2, hS2⟩ := sys_made (n := 4) hA hSA (Below.refl w4.heap.size w4) hD rfl hSD hb2 (Below.refl _ _) hL hSL hb3 hb1.size
    rw [show (min (max (400 : Int) 0) 4096).toNat = 400 from rfl] at hs2
    have hb36 : Below w3.heap.size w3 w6 := (hb1.trans (hb2.mono hb1.size)).trans (hb3.mono (Nat.le_trans hb1.size hb2.size))
    have HB := hid (HB3.out.trans (hb36.mono HB3.out.size))
    have HI := hid (show Two w6 w.heap.size 0 0 0 g1 gd1 lb1 g2 gd2 lb2 S1 S2 [] [] (List.replicate 4 []) _ _ [] [] from
      ⟨⟨HS1.out.keep hb36, HF1.out, by decide, ⟨rfl, rfl⟩, ⟨by decide, by decide, by decide⟩⟩, ⟨hs2, fun k hk => Nat.le_trans HB3.out.size (hS2 k hk), by decide, ⟨rfl, rfl⟩, ⟨by decide, by decide, by decide⟩⟩,
        fun k hk hm => by have h1 := HS1.out.lt k hk; have h2 := hS2 k hm; omega, rfl, rfl, rfl, rfl, ⟨rfl, rfl⟩, ⟨rfl, rfl⟩⟩)
    clear hs2 hS2 hb36 hA hSA hb1 hD hSD hb2 hL hSL hb3 HS1 HF1 HB3
    go_wp2
    go_loopw [7, 8, 9, 10, 35] (fun _ _ _ _ i wr => ∃ (j : Nat) (S1 S2 : List Nat) (cs1 cs2 : List Ck) (t2 : List (List Ck)) (d1 d2 : Dev) (T : List UInt8), j ≤ l.length ∧ i = .int .i64 (j : Int) ∧ Two wr w.heap.size (4 * j) (8 * j) (2 * j) g1 gd1 lb1 g2 gd2 lb2 S1 S2 cs1 cs2 t2 d1 d2 T T ∧ Below w.heap.size w wr) (fun _ _ _ _ i _ => l.length - (intOf i).toNat)
    case atStart => exact ⟨0, S1, S2, [], [], _, _, _, [], by omega, rfl, HI.out, HB.out⟩
    case round =>
      clear HI HB
      obtain ⟨j, S1, S2, cs1, cs2, t2, d1, d2, T, hj, rfl, hI, hB⟩ := hrel
      have HI := hid hI
      have HB := hid hB
      by_cases hjl : j < l.length
      · obtain ⟨b, off, rfl, hc⟩ := Bytes.at (H0.out.keep hB) j hjl
        obtain ⟨x, hx⟩ : ∃ x : UInt8, l[j] = x := ⟨_, rfl⟩
        rw [hx] at hc
        have hxb := x.toNat_lt
        obtain ⟨m, hm⟩ : ∃ m, x.toNat = m := ⟨_, rfl⟩
        rw [hm] at hc hxb
        have q1 : IntKind.u8.wrap (j : Int) = j := IntWalk.u8_in _ (by omega)
        have q2 : IntKind.i64.wrap (m : Int) = m := IntWalk.i64_in _ (by omega)
        have HSZ := hid hB.size
        clear hx hm hI hB
        go_upto_region 11 with (go_at_call 12; refine (bytes17_calls (j : Int) (by omega) m (by omega) _).mono ?_; rintro e w4 ⟨rfl, hy, hb4⟩; have HI4 := hid (HI.out.keep hb4); have HB4 := hid (HB.out.trans (hb4.mono HB.out.size)); have HY4 := hid hy; clear hy hb4)
        have hnew1 : wr.heap.size ∉ S1 := fun hm => absurd (HI.out.p.sys.lt _ hm) (Nat.lt_irrefl _)
        have hnew2 : wr.heap.size ∉ S2 := fun hm => absurd (HI.out.q.sys.lt _ hm) (Nat.lt_irrefl _)
        have PADD := hid (show Calls Try.prog 13 #[.pointer (some ⟨lb1, 0, none⟩), .int .i64 3, .slice (some ⟨wr.heap.size, 0, none⟩) m m] w4 _ from q_add HI4.out.p (t := 3) (cs := cs1) rfl (by omega) (by omega) (by omega) HY4.out (fun _ p hp hm => by cases hp; exact hnew1 hm) HB4.out.size)
        have HN1 := hid hnew1
        have HN2 := hid hnew2
        clear hnew1 hnew2
        go_upto_region 13 with (go_at_call 13; first
          | ((with_reducible refine PADD.out.mono ?_); rintro e w5 ⟨rfl, S1', cs1', hq5, ht5, hG5, hf5⟩;
              have HI5 := hid (HI4.out.stepP (cs1' := cs1') (T1' := T ++ byt (j : Int) m) (by rw [List.set_set] at hq5; exact hq5) hG5 hf5 (by rw [ht5, HI4.out.text1])); have HB5 := hid (Fr.below HB4.out hf5 HI4.out.p.far HB4.out.size);
              have HY5 := hid (HY4.out.fr hf5 (fun p hp hm => by cases hp; exact HN1.out hm));
              have QADD := hid (show Calls Try.prog 13 #[.pointer (some ⟨lb2, 0, none⟩), .int .i64 3, .slice (some ⟨wr.heap.size, 0, none⟩) m m] w5 _ from q_add HI5.out.q (t := 3) HI5.out.at3 (by omega) (by omega) (by omega) HY5.out (fun _ p hp hm => by cases hp; exact HN2.out hm) HB5.out.size); clear hq5 ht5 hG5 hf5)
          | ((with_reducible refine QADD.out.mono ?_); rintro e w6 ⟨rfl, S2', cs2', hq6, ht6, hG6, hf6⟩;
              have HI6 := hid (HI5.out.stepQ (cs2' := cs2') hq6 hG6 hf6 (by rw [List.length_set]; exact HI5.out.four) (by have := HI5.out.four; simp [this]) (T2' := T ++ byt (j : Int) m) (by rw [ht6, HI5.out.text2]) HI5.out.sure2); have HB6 := hid (Fr.below HB5.out hf6 HI5.out.q.far HB5.out.size); clear hq6 ht6 hG6 hf6))
        by_cases hja : j < acts.length
        · obtain ⟨ab, aoff, rfl, hac⟩ := Sl.rec_at act17_sz (by decide) (H1.out.2.1.keep HB6.out) j hja
          obtain ⟨⟨ki, ti, ni, se⟩, hx⟩ : ∃ x, acts[j] = x := ⟨_, rfl⟩
          have hgd := H1.out.2.2 acts[j] (by simp)
          rw [hx] at hac hgd
          obtain ⟨g0, g1', g2', g3'⟩ := hgd
          have bk := bounds_u8 g0
          have bt := bounds_u8 g1'
          have bn := bounds_u8 g2'
          have bs := bounds_u8 g3'
          simp only [] at bk bt bn bs
          have k0 : w6.cell? ⟨ab, aoff + j * 4, none⟩ = some (.int .u8 ki) := hac 0 (by decide)
          have k1 : w6.cell? ⟨ab, aoff + j * 4 + 1, none⟩ = some (.int .u8 ti) := hac 1 (by decide)
          have k2 : w6.cell? ⟨ab, aoff + j * 4 + 2, none⟩ = some (.int .u8 ni) := hac 2 (by decide)
          have k3 : w6.cell? ⟨ab, aoff + j * 4 + 3, none⟩ = some (.int .u8 se) := hac 3 (by decide)
          obtain ⟨r3, hr3⟩ : ∃ r3 : Nat, ti % 3 = (r3 : Int) := ⟨(ti % 3).toNat, by omega⟩
          have hr4 : r3 < 3 := by omega
          obtain ⟨nn, rfl⟩ : ∃ nn : Nat, ni = (nn : Int) := ⟨ni.toNat, by omega⟩
          clear hac hx g0 g1' g2' g3' q1 q2
          go_upto_region 15 with (fail)
          have hk7 := (Below.refl w6.heap.size w6).alloc (Nat.le_refl _) (.cells #[.int .u8 ki, .int .u8 ti, .int .u8 (nn : Int), .int .u8 se] 39)
          have hbx := heap_new w6 (.cells #[.int .u8 ki, .int .u8 ti, .int .u8 (nn : Int), .int .u8 se] 39)
          have HNB := hid (show w6.heap.size ∉ S2' from fun hm => absurd (HI6.out.q.sys.lt w6.heap.size hm) (Nat.lt_irrefl _))
          obtain ⟨X, hX⟩ : ∃ X, w6.heap.size = X := ⟨_, rfl⟩
          obtain ⟨W, hW⟩ : ∃ W, w6.alloc (.cells #[.int .u8 ki, .int .u8 ti, .int .u8 (nn : Int), .int .u8 se] 39) = W := ⟨_, rfl⟩
          rw [hW] at hk7 hbx ⊢
          rw [hX] at hbx HNB ⊢
          have hkd := hk7.drew
          have HI7 := hid (HI6.out.keep hkd)
          have HB7 := hid (HB6.out.trans (hkd.mono HB6.out.size))
          have HBX := hid (show W.drew.heap[X]? = _ from hbx)
          have HXB := hid (show w.heap.size ≤ X from by rw [← hX]; exact HB6.out.size)
          have s1 := cell_at HBX.out 1
          have s2 := cell_at HBX.out 2
          have s3 := cell_at HBX.out 3
          simp only [List.getElem?_toArray, List.getElem?_cons_zero, List.getElem?_cons_succ] at s1 s2 s3
          have HS := hid (And.intro s1 (And.intro s2 s3))
          have hr5 : ti.tmod 3 = (r3 : Int) := by rw [Int.tmod_eq_emod_of_nonneg (by omega)]; exact hr3
          have p1 : IntKind.u8.wrap (r3 : Int) = r3 := IntWalk.u8_in _ (by omega)
          have p2 : IntKind.i64.wrap (r3 : Int) = r3 := IntWalk.i64_in _ (by omega)
          have p3 : IntKind.i64.wrap (nn : Int) = nn := IntWalk.i64_in _ (by omega)
          clear k0 k1 k2 k3 hk7 hbx hkd s1 s2 s3 hW hX
          go_region_held (fun w' => w'.cell? ⟨X, 1, none⟩ = some (.int .u8 ti) ∧ w'.cell? ⟨X, 2, none⟩ = some (.int .u8 (nn : Int)) ∧ w'.cell? ⟨X, 3, none⟩ = some (.int .u8 se)) (first | exact HS.out | exact HS8.out | exact HS9.out)
            (first
              | (go_at_call 12; refine (bytes17_calls se (by omega) nn (by omega) _).mono ?_; rintro e w8 ⟨rfl, hy, hb8⟩; have HI8 := hid (HI7.out.keep hb8); have HB8 := hid (HB7.out.trans (hb8.mono HB7.out.size)); have HY8 := hid hy; have HBX8 := hid ((Fr.ofBelow hb8).heap HBX.out (by simp)); have s1 := cell_at HBX8.out 1; have s2 := cell_at HBX8.out 2; have s3 := cell_at HBX8.out 3; simp only [List.getElem?_toArray, List.getElem?_cons_zero, List.getElem?_cons_succ] at s1 s2 s3; have HS8 := hid (And.intro s1 (And.intro s2 s3)); have HNW := hid (show W.drew.heap.size ∉ S2' from fun hm => absurd (HI7.out.q.sys.lt _ hm) (Nat.lt_irrefl _)); clear hy hb8 s1 s2 s3)
              | (go_at_call 13; refine (q_add HI8.out.q (t := r3) (cs := ((t2.set 3 cs2')[r3]?).getD []) (by have := HI8.out.four; have h : r3 < (t2.set 3 cs2').length := (by omega); rw [List.getElem?_eq_getElem h]; rfl) (by omega) (by omega) (by omega) HY8.out (fun _ p hp hm => by cases hp; exact HNW.out hm) HB8.out.size).mono ?_; rintro e w9 ⟨rfl, S9, cs9, hq9, ht9, hG9, hf9⟩;
                  have HBN := hid (show ∀ hm : X ∈ S9, False from fun hm => (hG9 X hm).elim (fun h => HNB.out h) (fun h => absurd (heap_lt HBX8.out) (by omega))); have HI9 := hid (HI8.out.stepQ hq9 hG9 hf9 (by rw [List.length_set]; exact HI8.out.four) (by rw [List.getElem?_set_ne (by omega)]; exact HI8.out.at3) HI8.out.text2 HI8.out.sure2); have HB9 := hid (Fr.below HB8.out hf9 HI8.out.q.far HB8.out.size); have HBX9 := hid (hf9.heap HBX8.out HNB.out); have s1 := cell_at HBX9.out 1; have s2 := cell_at HBX9.out 2; have s3 := cell_at HBX9.out 3; simp only [List.getElem?_toArray, List.getElem?_cons_zero, List.getElem?_cons_succ] at s1 s2 s3; have HS9 := hid (And.intro s1 (And.intro s2 s3)); clear hq9 ht9 hG9 hf9 s1 s2 s3))
          clear hr5 p1 p2 p3
          have c0 := cell_at HBX9.out 0
          simp only [List.getElem?_toArray, List.getElem?_cons_zero, List.getElem?_cons_succ] at c0
          have SPL := hid (q_spill HI9.out.q (by omega) (by omega) HB9.out.size)
          have EMP := hid (fun (w' : World) (t' : List (List Ck)) (S' : List Nat) (d' : Dev) (cs' : List Ck) (h : Two w' w.heap.size (4 * j + 4) (8 * j + 4 + 4) (2 * j + 1) g1 gd1 lb1 g2 gd2 lb2 S1' S' cs1' cs' t' d1 d' (T ++ byt (j : Int) m) (T ++ byt (j : Int) m)) (hs : w.heap.size ≤ w'.heap.size) =>
            q_empty h.q (t := r3) (cs := (t'[r3]?).getD []) (by have := h.four; have h5 : r3 < t'.length := (by omega); rw [List.getElem?_eq_getElem h5]; rfl) (by omega) (by omega) hs (sure_ok h.sure2))
          have hkm : ∀ (b : Bool), (ki % 3 == 0) = b → (ki % 3 == 0) = b := fun _ h => h
          cases hk3 : (ki % 3 == 0)
          · go_upto_region 18 with (fail)
            have HQ := hid (HI9.out.mono (M' := 2 * j + 1) (Nat.le_refl _) (Nat.le_refl _) (by omega))
            have HBQ := hid HB9.out
            have s1 := HS9.out.1
            clear hkm hk3
            cases hk7 : (ki % 7 == 1)
            · go_wp2
              go_roundw
              case rel => exact ⟨j + 1, _, _, _, _, _, _, _, _, by omega, by go_num, HQ.out.mono (by omega) (by omega) (by omega), HBQ.out⟩
              case measure => simp [intOf]; omega
            · go_wp2_with (go_at_call 15; refine (EMP.out _ _ _ _ _ HQ.out HBQ.out.size).mono ?_; rintro e wz ⟨S5, d5, hq5, hd5, _, hG5, hf5, hout⟩; have HI11 := hid (HQ.out.stepQ hq5 hG5 hf5 (by rw [List.length_set]; exact HQ.out.four) (by rw [List.getElem?_set_ne (by omega)]; exact HQ.out.at3) HQ.out.text2 (by rw [hd5.fa, hd5.be]; exact HQ.out.sure2)); have HB11 := hid (Fr.below HBQ.out hf5 HQ.out.q.far HBQ.out.size); obtain ⟨ve, ze, rfl⟩ : ∃ ve ze, e = .returned (.tuple #[ve, ze]) := (by rcases hout with ⟨v, h1, _⟩ | ⟨h1, _⟩ <;> exact ⟨_, _, h1⟩); clear hq5 hd5 hG5 hf5 hout)
              go_roundw
              case rel => exact ⟨j + 1, _, _, _, _, _, _, _, _, by omega, by go_num, HI11.out.mono (by omega) (by omega) (by omega), HB11.out⟩
              case measure => simp [intOf]; omega
          · go_upto_region 18 with (go_at_call 14; refine SPL.out.mono ?_; rintro e wq ⟨zz, Sq, tq, dq, rfl, hqq, hspq, hGq, hfq, hda, hdb, _⟩; obtain ⟨csq, h3q, htq⟩ := hspq.texts 3 _ HI9.out.at3; have HQ := hid (HI9.out.stepQ hqq hGq hfq (by rw [hspq.len]; exact HI9.out.four) h3q (by rw [htq, HI9.out.text2]) (by rw [hda, hdb]; exact HI9.out.sure2)); have HBQ := hid (Fr.below HB9.out hfq HI9.out.q.far HB9.out.size); have hbq := hfq.heap HBX9.out (fun hm => HBN.out hm); have c0 := cell_at hbq 0; have s1 := cell_at hbq 1; simp only [List.getElem?_toArray, List.getElem?_cons_zero, List.getElem?_cons_succ] at c0 s1; clear hqq hspq hGq hfq hda hdb h3q htq hbq)
            clear hkm hk3
            cases hk7 : (ki % 7 == 1)
            · go_wp2
              go_roundw
              case rel => exact ⟨j + 1, _, _, _, _, _, _, _, _, by omega, by go_num, HQ.out.mono (by omega) (by omega) (by omega), HBQ.out⟩
              case measure => simp [intOf]; omega
            · go_wp2_with (go_at_call 15; refine (EMP.out _ _ _ _ _ HQ.out HBQ.out.size).mono ?_; rintro e wz ⟨S5, d5, hq5, hd5, _, hG5, hf5, hout⟩; have HI11 := hid (HQ.out.stepQ hq5 hG5 hf5 (by rw [List.length_set]; exact HQ.out.four) (by rw [List.getElem?_set_ne (by omega)]; exact HQ.out.at3) HQ.out.text2 (by rw [hd5.fa, hd5.be]; exact HQ.out.sure2)); have HB11 := hid (Fr.below HBQ.out hf5 HQ.out.q.far HBQ.out.size); obtain ⟨ve, ze, rfl⟩ : ∃ ve ze, e = .returned (.tuple #[ve, ze]) := (by rcases hout with ⟨v, h1, _⟩ | ⟨h1, _⟩ <;> exact ⟨_, _, h1⟩); clear hq5 hd5 hG5 hf5 hout)
              go_roundw
              case rel => exact ⟨j + 1, _, _, _, _, _, _, _, _, by omega, by go_num, HI11.out.mono (by omega) (by omega) (by omega), HB11.out⟩
              case measure => simp [intOf]; omega
        · go_wp2
          go_roundw
          case rel => exact ⟨j + 1, S1', S2', cs1', cs2', _, d1, d2, _, by omega, by go_num, HI6.out.mono (by omega) (by omega) (by omega), HB6.out⟩
          case measure => simp [intOf]; omega
      · obtain rfl : j = l.length := by omega
        have PE := hid (q_empty HI.out.p (t := 3) (cs := cs1) rfl (by omega) (by omega) HB.out.size (sure_ok HI.out.sure1))
        have HSZ := hid hB.size
        clear hI hB
        go_upto_region 22 with (go_at_call 15; refine PE.out.mono ?_; rintro e w5 ⟨S5, d5, hq5, hd5, _, hG5, hf5, hout⟩; obtain ⟨v5, rfl, ho5, hn5⟩ : ∃ v, e = .returned (.tuple #[v, .int .i64 0]) ∧ OwnB w5 wr.heap.size v T ∧ (∀ p, v.ownBlock = some p → p ∉ S5) := (by
            rcases hout with ⟨v, h1, h2, h3⟩ | ⟨_, q, _, _, h3⟩
            · exact ⟨v, h1, (by rw [HI.out.text1] at h2; exact h2), h3⟩
            · exact absurd h3 (sure_not HI.out.sure1 q)); have hI5 := HI.out.q.fr hf5 (fun k hk hm => HI.out.ap k hm hk); have HI5 := hid hI5; have HB5 := hid (Fr.below HB.out hf5 HI.out.p.far HB.out.size); have HO5 := hid ho5; obtain ⟨a5, c5, rfl, _⟩ := ho5.bytes; clear hq5 hd5 hG5 hf5 hout hI5 ho5 hn5)
        have QE := hid (q_empty HI5.out (t := 3) HI.out.at3 (by omega) (by omega) HB5.out.size (sure_ok HI.out.sure2))
        go_upto_region 23 with (go_at_call 15; refine QE.out.mono ?_; rintro e w6 ⟨S6, d6, hq6, hd6, _, hG6, hf6, hout⟩; obtain ⟨v6, rfl, ho6⟩ : ∃ v, e = .returned (.tuple #[v, .int .i64 0]) ∧ OwnB w6 w5.heap.size v T := (by
            rcases hout with ⟨v, h1, h2, h3⟩ | ⟨_, q, _, _, h3⟩
            · exact ⟨v, h1, (by rw [HI.out.text2] at h2; exact h2)⟩
            · exact absurd h3 (sure_not HI.out.sure2 q)); have ho56 := own_fr HO5.out hf6 (fun k hk hm => by have h1 := (World.ownsRow.lt HO5.out k hk).1; have h2 := HI.out.q.sys.lt k hm; omega); obtain ⟨a6, c6, rfl, hy6⟩ := ho6.bytes; have HY6 := hid hy6; have HY5 := hid (OwnB.bytesAt17 ho56); have HB6 := hid (Fr.below HB5.out hf6 HI5.out.far HB5.out.size); clear hq6 hd6 hG6 hf6 hout ho6 ho56 hy6)
        have hs5 := run_str (P := Try.prog) HY5.out 22 9 5 Try.underlying22 Try.underlying5 Try.underlying9
        have hs6 := run_str (P := Try.prog) HY6.out 22 9 5 Try.underlying22 Try.underlying5 Try.underlying9
        go_wp2
        go_ret
        exact ⟨by first | rfl | simp, HB6.out⟩
  · have hway : 20 < l.length ∨ (l.length ≤ 20 ∧ 20 < acts.length) := by omega
    rcases hway with h1 | ⟨h1, h2⟩
    · have e1 : decide ((20 : Int) < (l.length : Int)) = true := by simp; omega
      go_enter Try.func3, Try.ntmps3
      go_wp2_with (first
        | (go_at_call 8; refine (awake17 _).mono ?_; rintro e w0 ⟨rfl, hb0⟩))
      go_ret
      exact ⟨rfl, hb0⟩
    · have e1 : decide ((20 : Int) < (l.length : Int)) = false := by simp; omega
      have e2 : decide ((20 : Int) < (acts.length : Int)) = true := by simp; omega
      go_enter Try.func3, Try.ntmps3
      go_wp2_with (first
        | (go_at_call 8; refine (awake17 _).mono ?_; rintro e w0 ⟨rfl, hb0⟩))
      go_ret
      exact ⟨rfl, hb0⟩
end Go.Proofs.Ytakobldhjndeiaa
