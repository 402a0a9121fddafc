/-
  The law's programs: made out of small instructions, and repaired.
-/
import Derived.Test.YtnknhedhoibepaaIsaAll
import Derived.Test.YtnknhedhoibepaaRecsOwn
import Derived.BigRegion
import Derived.Outline
import Derived.Deep.CutRange
namespace Go.Proofs.Ytnknhedhoibepaa
open Go.RowKit Isa
set_option linter.unusedVariables false

theorem oneCell_ins (x : Ins) : ∀ u ∈ x.cells, u.oneCell' = true := by simp [Ins.cells, Value.oneCell']
theorem Try.elIns : El Try.prog 25 30 (.agg #[.int .u8 0, .int .u8 0, .int .u8 0, .int .u8 0, .int .i16 0]) 5 6 := ⟨Try.underlying25, by kernel_rfl, rfl, by decide⟩
/-- A program that the call owns. -/
def OwnP (w : World) (B : Nat) (v : Value) (l : List Ins) : Prop := OwnL 30 5 Ins.cells w B v l
theorem OwnP.prog {w : World} {B : Nat} {v : Value} {l : List Ins} (h : OwnP w B v l) (hg : ∀ x ∈ l, x.good) : ∃ a cap, v = .slice a l.length cap ∧ Prog w a l.length cap l := by
  obtain ⟨a, c, e, hs⟩ := OwnL.read h
  exact ⟨a, c, e, rfl, hs, hg⟩

def Isa.Sm.cells (x : Sm) : List Value := [.int .u8 x.op, .int .u8 x.dst, .int .u8 x.a, .int .u8 x.b, .int .i16 x.imm, .bool x.raw]
theorem sm_sz (x : Sm) : x.cells.length = 6 := rfl
/-- Small instructions that can be read. -/
def Sms (w : World) (a : Option Addr) (n cap : Nat) (l : List Sm) : Prop := l.length = n ∧ Sl w a n cap 6 (l.map Sm.cells).flatten ∧ ∀ x ∈ l, x.good
theorem Sms.keep {w w' : World} {a : Option Addr} {n cap : Nat} {l : List Sm} (h : Sms w a n cap l) (hb : Below w.heap.size w w') : Sms w' a n cap l := ⟨h.1, h.2.1.keep hb, h.2.2⟩
theorem Sms.at {w : World} {a : Option Addr} {n cap : Nat} {l : List Sm} (h : Sms w a n cap l) (j : Nat) (hj : j < l.length) :
    ∃ b off, a = some ⟨b, off, none⟩ ∧ w.cell? ⟨b, off + j * 6, none⟩ = some (.int .u8 l[j].op) ∧ w.cell? ⟨b, off + j * 6 + 1, none⟩ = some (.int .u8 l[j].dst) ∧ w.cell? ⟨b, off + j * 6 + 2, none⟩ = some (.int .u8 l[j].a) ∧ w.cell? ⟨b, off + j * 6 + 3, none⟩ = some (.int .u8 l[j].b) ∧ w.cell? ⟨b, off + j * 6 + 4, none⟩ = some (.int .i16 l[j].imm) ∧ w.cell? ⟨b, off + j * 6 + 5, none⟩ = some (.bool l[j].raw) := by
  obtain ⟨b, off, rfl, hc⟩ := Sl.rec_at sm_sz (by decide) h.2.1 j hj
  exact ⟨b, off, rfl, hc 0 (by decide), hc 1 (by decide), hc 2 (by decide), hc 3 (by decide), hc 4 (by decide), hc 5 (by decide)⟩

theorem and_3_i16 (n : Int) (h : -32768 ≤ n ∧ n < 32768) : bits .and .i16 n 3 = n % 4 := by
  unfold bits
  show IntKind.i16.wrap (((BitVec.ofInt 16 n &&& BitVec.ofInt 16 3).toNat : Nat) : Int) = _
  rw [show BitVec.ofInt 16 3 = BitVec.ofNat 16 (2 ^ 2 - 1) from rfl, BitVec.toNat_and, BitVec.toNat_ofNat, BitVec.toNat_ofInt, show (2 ^ 2 - 1) % 2 ^ 16 = 2 ^ 2 - 1 from rfl, Nat.and_two_pow_sub_one_eq_mod]
  have : (2 : Nat) ^ 16 = 65536 := rfl
  have e : (((n % ((2 ^ 16 : Nat) : Int)).toNat % 2 ^ 2 : Nat) : Int) = n % 4 := by omega
  rw [e]
  exact IntWalk.i16_in _ (by omega)

/-- What the first loop's append leaves. -/
theorem OwnP.last {w : World} {B g n cap : Nat} {p : List Ins} {x : Ins} (h : OwnP w B (.slice (some ⟨g, 0, none⟩) n cap) (p ++ [x])) :
    w.cell? ⟨g, p.length * 5, none⟩ = some (.int .u8 x.op) ∧ w.cell? ⟨g, p.length * 5 + 1, none⟩ = some (.int .u8 x.dst) ∧ w.cell? ⟨g, p.length * 5 + 2, none⟩ = some (.int .u8 x.a) ∧ w.cell? ⟨g, p.length * 5 + 3, none⟩ = some (.int .u8 x.b) ∧ w.cell? ⟨g, p.length * 5 + 4, none⟩ = some (.int .i16 x.imm) := by
  have hl : p.length < (p ++ [x]).length := by simp
  have e : (p ++ [x])[p.length] = x := by simp
  have c := fun r hr => OwnL.cells ins_sz (by decide) h p.length hl r hr
  rw [e] at c
  exact ⟨c 0 (by decide), c 1 (by decide), c 2 (by decide), c 3 (by decide), c 4 (by decide)⟩
theorem OwnP.fix {w : World} {B g n cap : Nat} {p : List Ins} {x : Ins} (h : OwnP w B (.slice (some ⟨g, 0, none⟩) n cap) (p ++ [x])) (b imm : Int) :
    OwnP (w.setCell ⟨g, p.length * 5 + 3, none⟩ (.int .u8 b)) B (.slice (some ⟨g, 0, none⟩) n cap) (p ++ [{ x with b := b }]) ∧ OwnP (w.setCell ⟨g, p.length * 5 + 4, none⟩ (.int .i16 imm)) B (.slice (some ⟨g, 0, none⟩) n cap) (p ++ [{ x with imm := imm }]) := by
  have hl : p.length < (p ++ [x]).length := by simp
  have e : (p ++ [x])[p.length] = x := by simp
  have h1 := OwnL.store ins_sz h p.length 3 hl (by decide) { x with b := b } (.int .u8 b) (by rw [e]; rfl)
  have h2 := OwnL.store ins_sz h p.length 4 hl (by decide) { x with imm := imm } (.int .i16 imm) (by rw [e]; rfl)
  have hs : ∀ y, (p ++ [x]).set p.length y = p ++ [y] := fun y => by rw [List.set_append_right _ _ (Nat.le_refl _), Nat.sub_self]; rfl
  rw [hs] at h1 h2
  exact ⟨h1, h2⟩
theorem OwnP.cells5 {w : World} {B g n cap : Nat} {p : List Ins} (h : OwnP w B (.slice (some ⟨g, 0, none⟩) n cap) p) (j : Nat) (hj : j < p.length) :
    ∃ x, Hid (p[j]? = some x) ∧ w.cell? ⟨g, j * 5, none⟩ = some (.int .u8 x.op) ∧ w.cell? ⟨g, j * 5 + 1, none⟩ = some (.int .u8 x.dst) ∧ w.cell? ⟨g, j * 5 + 2, none⟩ = some (.int .u8 x.a) ∧ w.cell? ⟨g, j * 5 + 3, none⟩ = some (.int .u8 x.b) ∧ w.cell? ⟨g, j * 5 + 4, none⟩ = some (.int .i16 x.imm) := by
  have c := fun r hr => OwnL.cells ins_sz (by decide) h j hj r hr
  exact ⟨p[j], List.getElem?_eq_getElem hj, c 0 (by decide), c 1 (by decide), c 2 (by decide), c 3 (by decide), c 4 (by decide)⟩
theorem OwnP.free5 {w : World} {B g n cap : Nat} {p : List Ins} (h : OwnP w B (.slice (some ⟨g, 0, none⟩) n cap) p) (j : Nat) :
    w.frozen? ⟨g, j, none⟩ = false ∧ w.frozen? ⟨g, j + 1, none⟩ = false ∧ w.frozen? ⟨g, j + 2, none⟩ = false ∧ w.frozen? ⟨g, j + 3, none⟩ = false ∧ w.frozen? ⟨g, j + 4, none⟩ = false := by
  exact ⟨OwnL.free h _, OwnL.free h _, OwnL.free h _, OwnL.free h _, OwnL.free h _⟩
theorem badFrom_step {p : List Ins} {d : Bool} {i : Nat} {x : Ins} (h : p[i]? = some x) : badFrom p d i (p.drop i) = if odd p d i x = true then some i else badFrom p d (i + 1) (p.drop (i + 1)) := by
  have hi : i < p.length := by
    rcases Nat.lt_or_ge i p.length with h1 | h1
    · exact h1
    · rw [List.getElem?_eq_none h1] at h; cases h
  have e : p[i] = x := by rw [List.getElem?_eq_getElem hi] at h; exact Option.some.inj h
  rw [List.drop_eq_getElem_cons hi, e]; rfl
theorem OwnP.put5 {w : World} {B g n cap : Nat} {p : List Ins} (h : OwnP w B (.slice (some ⟨g, 0, none⟩) n cap) p) (j : Nat) (hj : j < p.length) (y : Ins) :
    OwnP (((((w.setCell ⟨g, j * 5, none⟩ (.int .u8 y.op)).setCell ⟨g, j * 5 + 1, none⟩ (.int .u8 y.dst)).setCell ⟨g, j * 5 + 2, none⟩ (.int .u8 y.a)).setCell ⟨g, j * 5 + 3, none⟩ (.int .u8 y.b)).setCell ⟨g, j * 5 + 4, none⟩ (.int .i16 y.imm)) B (.slice (some ⟨g, 0, none⟩) n cap) (p.set j y) := by
  have e : ∀ (z : Ins), (p.set j z)[j]'(by rw [List.length_set]; exact hj) = z := fun z => by simp
  have hl : ∀ (z : Ins), j < (p.set j z).length := fun z => by rw [List.length_set]; exact hj
  have h0 := OwnL.store ins_sz h j 0 hj (by decide) { p[j] with op := y.op } (.int .u8 y.op) rfl
  have h1 := OwnL.store ins_sz h0 j 1 (hl _) (by decide) { p[j] with op := y.op, dst := y.dst } (.int .u8 y.dst) (by rw [e]; rfl)
  rw [List.set_set] at h1
  have h2 := OwnL.store ins_sz h1 j 2 (hl _) (by decide) { p[j] with op := y.op, dst := y.dst, a := y.a } (.int .u8 y.a) (by rw [e]; rfl)
  rw [List.set_set] at h2
  have h3 := OwnL.store ins_sz h2 j 3 (hl _) (by decide) { p[j] with op := y.op, dst := y.dst, a := y.a, b := y.b } (.int .u8 y.b) (by rw [e]; rfl)
  rw [List.set_set] at h3
  have h4 := OwnL.store ins_sz h3 j 4 (hl _) (by decide) y (.int .i16 y.imm) (by rw [e]; rfl)
  rw [List.set_set] at h4
  exact h4
theorem below_put5 {C : Nat} {w0 w : World} {g : Nat} (h : Below C w0 w) (hg : C ≤ g) (j : Nat) (a b c d e : Value) :
    Below C w0 (((((w.setCell ⟨g, j, none⟩ a).setCell ⟨g, j + 1, none⟩ b).setCell ⟨g, j + 2, none⟩ c).setCell ⟨g, j + 3, none⟩ d).setCell ⟨g, j + 4, none⟩ e) :=
  ((((h.setCell hg _).setCell hg _).setCell hg _).setCell hg _).setCell hg _
theorem low_set {p : List Ins} (h : ∀ x ∈ p, x.low) (i : Nat) : ∀ x ∈ p.set i mov, x.low := fun x hx => by
  rcases List.mem_or_eq_of_mem_set hx with h1 | h1
  · exact h x h1
  · rw [h1]; exact mov_low
theorem OwnP.fix2 {w : World} {B g n cap : Nat} {p : List Ins} {x : Ins} (h : OwnP w B (.slice (some ⟨g, 0, none⟩) n cap) (p ++ [x])) (b imm : Int) :
    OwnP ((w.setCell ⟨g, p.length * 5 + 3, none⟩ (.int .u8 b)).setCell ⟨g, p.length * 5 + 4, none⟩ (.int .i16 imm)).drew B (.slice (some ⟨g, 0, none⟩) n cap) (p ++ [⟨x.op, x.dst, x.a, b, imm⟩]) :=
  OwnL.keep ((h.fix b imm).1.fix b imm).2 (Below.refl _ _).drew
theorem Sm.ins_eq (s : Sm) (o : Int) (ho : s.op % 15 = o) (h : o = 12 ∨ o = 11) : s.ins = ⟨o, s.dst % 12, s.a % 9, 1 + s.b % 4, 1 + s.imm % 4⟩ := by unfold Sm.ins; rw [ho, if_pos h]
theorem Sm.ins_raw (s : Sm) (o : Int) (ho : s.op % 15 = o) (h : ¬ (o = 12 ∨ o = 11)) : s.ins = ⟨o, s.dst % 12, s.a % 9, s.b % 12, s.imm⟩ := by unfold Sm.ins; rw [ho, if_neg h]
theorem take_more (l : List Sm) (j : Nat) (hj : j < l.length) (h20 : j < 20) : (((l.take 20).take (j + 1)).map Sm.ins) = (((l.take 20).take j).map Sm.ins) ++ [l[j].ins] ∧ (((l.take 20).take j).map Sm.ins).length = j := by
  refine ⟨?_, by simp; omega⟩
  rw [List.take_take, List.take_take, show min (j + 1) 20 = j + 1 by omega, show min j 20 = j by omega, List.take_succ_eq_append_getElem hj, List.map_append]; rfl

set_option maxRecDepth 10000 in
set_option maxHeartbeats 8000000 in
theorem program_calls {w : World} {a : Option Addr} {n cap : Nat} {l : List Sm} (h : Sms w a n cap l) (h6 : n ≤ 1000) (d : Bool) :
    Calls Try.prog 8 #[.slice a n cap, .bool d] w fun e w' => ∃ v, e = .returned v ∧ OwnP w' w.heap.size v (prog l d) ∧ Below w.heap.size w w' := by
  obtain rfl := h.1
  go_enter Try.func8, Try.ntmps8
  go_wp2
  go_loopw [5, 14] (fun v k wr => ∃ j : Nat, j ≤ l.length ∧ k = .int .i64 j ∧ OwnP wr w.heap.size v (((l.take 20).take j).map Sm.ins) ∧ Below w.heap.size w wr) (fun _ k _ => l.length - (intOf k).toNat)
  case atStart => exact ⟨0, Nat.zero_le _, rfl, OwnL.nil _ _, Below.refl _ _⟩
  case round =>
    obtain ⟨j, hj, rfl, ho, hb⟩ := hrel
    by_cases hlt : j < l.length
    · obtain ⟨b, off, rfl, c0, c1, c2, c3, c4, c5⟩ := (h.keep hb).at j hlt
      have hg := h.2.2 l[j] (List.getElem_mem hlt)
      have hlt2 : (j : Int) < (l.length : Int) := by omega
      by_cases h20 : j < 20
      · obtain ⟨hT, hL⟩ := take_more l j hlt h20
        have HT := hid hT
        obtain ⟨p, hp⟩ : ∃ p, ((l.take 20).take j).map Sm.ins = p := ⟨_, rfl⟩
        rw [hp] at hL ho HT
        obtain ⟨s, hs⟩ : ∃ s, l[j] = s := ⟨_, rfl⟩
        rw [hs] at c0 c1 c2 c3 c4 c5 hg HT
        obtain ⟨o, hoo⟩ : ∃ o, s.op % 15 = o := ⟨_, rfl⟩
        have HR := hid (Sm.ins_raw s o hoo)
        have HQ := hid (Sm.ins_eq s o hoo)
        obtain ⟨op, dst, xa, xb, imm, rw⟩ := s
        unfold Sm.good at hg
        simp only at c0 c1 c2 c3 c4 c5 hg HR HQ hoo
        have h202 : (j : Int) < 20 := by omega
        have n1 : bits .and .i16 imm 3 = imm % 4 := and_3_i16 _ (by omega)
        have n2 : IntKind.i16.wrap (1 + imm % 4) = 1 + imm % 4 := IntWalk.i16_in _ (by omega)
        have n3 : IntKind.u8.wrap (1 + xb % 4) = 1 + xb % 4 := IntWalk.u8_in _ (by omega)
        clear hT hp hs
        obtain rfl := hL
        have HOL := hid (fun k hk => (World.ownsRow.lt ho k hk).2)
        by_cases hc : o = 12 ∨ o = 11
        · rcases hc with rfl | rfl
          · have HQ2 := hid (HQ.out (by first | exact .inl rfl | exact .inr rfl))
            clear HR HQ
            go_upto_region 9 with (at_builtin; refine app_rec Try.elIns ins_sz oneCell_ins ⟨12, dst % 12, xa % 9, xb % 12, imm⟩ rfl _ _ rfl rfl (OwnL.keep ho ((Below.refl _ _).alloc (Nat.le_refl _) _)) rfl (by simp) rfl (by decide) (by omega) (by have := hb.size; simp; omega) ?_; intro v1 w1 ho1 hg1 hl1; obtain ⟨g1, cp1, rfl, hgl, hgh⟩ := OwnL.there ins_sz (by decide) ho1 (by simp); have hbx1 : w1.heap[wr.heap.size]? = some (.cells #[.int .u8 op, .int .u8 dst, .int .u8 xa, .int .u8 xb, .int .i16 imm, .bool rw] 52 (0, 0)) := (by rw [hg1.block _ (by simp; omega) (fun e => by have := HOL.out _ e.symm; omega)]; exact heap_keep (heap_new _ _) _); obtain ⟨k0, k1, k2, k3, k4⟩ := OwnP.last ho1; have b3 := cell_at hbx1 3; have b4 := cell_at hbx1 4; have f3 := OwnL.free ho1 (p.length * 5 + 3); have f4 := OwnL.free ho1 (p.length * 5 + 4); have HO1 := hid ho1; have HGL := hid hgl; simp only [List.length_append, List.length_singleton] at HO1; have HBA := hid (OwnL.belowA (OwnL.keep ho ((Below.refl _ _).alloc (Nat.le_refl _) _)) (hb.alloc hb.size _) _ hg1 (Nat.le_refl _) (by have := hb.size; simp; omega)); clear ho1 hg1 hbx1 hgl)
            go_region
            all_goals
              go_wp2
              go_roundw
              case rel =>
                refine ⟨p.length + 1, by omega, by go_num, ?_, ((HBA.out.setCell HGL.out _).setCell HGL.out _).drew⟩
                rw [HT.out, HQ2.out]
                exact OwnP.fix2 HO1.out _ _
              case measure => simp [intOf]; omega
          · have HQ2 := hid (HQ.out (by first | exact .inl rfl | exact .inr rfl))
            clear HR HQ
            go_upto_region 9 with (at_builtin; refine app_rec Try.elIns ins_sz oneCell_ins ⟨11, dst % 12, xa % 9, xb % 12, imm⟩ rfl _ _ rfl rfl (OwnL.keep ho ((Below.refl _ _).alloc (Nat.le_refl _) _)) rfl (by simp) rfl (by decide) (by omega) (by have := hb.size; simp; omega) ?_; intro v1 w1 ho1 hg1 hl1; obtain ⟨g1, cp1, rfl, hgl, hgh⟩ := OwnL.there ins_sz (by decide) ho1 (by simp); have hbx1 : w1.heap[wr.heap.size]? = some (.cells #[.int .u8 op, .int .u8 dst, .int .u8 xa, .int .u8 xb, .int .i16 imm, .bool rw] 52 (0, 0)) := (by rw [hg1.block _ (by simp; omega) (fun e => by have := HOL.out _ e.symm; omega)]; exact heap_keep (heap_new _ _) _); obtain ⟨k0, k1, k2, k3, k4⟩ := OwnP.last ho1; have b3 := cell_at hbx1 3; have b4 := cell_at hbx1 4; have f3 := OwnL.free ho1 (p.length * 5 + 3); have f4 := OwnL.free ho1 (p.length * 5 + 4); have HO1 := hid ho1; have HGL := hid hgl; simp only [List.length_append, List.length_singleton] at HO1; have HBA := hid (OwnL.belowA (OwnL.keep ho ((Below.refl _ _).alloc (Nat.le_refl _) _)) (hb.alloc hb.size _) _ hg1 (Nat.le_refl _) (by have := hb.size; simp; omega)); clear ho1 hg1 hbx1 hgl)
            go_region
            all_goals
              go_wp2
              go_roundw
              case rel =>
                refine ⟨p.length + 1, by omega, by go_num, ?_, ((HBA.out.setCell HGL.out _).setCell HGL.out _).drew⟩
                rw [HT.out, HQ2.out]
                exact OwnP.fix2 HO1.out _ _
              case measure => simp [intOf]; omega
        · have HQ2 := hid (HR.out hc)
          have d1 : (o == 12) = false := by rw [beq_eq_false_iff_ne]; omega
          have d2 : (o == 11) = false := by rw [beq_eq_false_iff_ne]; omega
          clear HR HQ hc
          go_wp2_with (at_builtin; refine app_rec Try.elIns ins_sz oneCell_ins ⟨o, dst % 12, xa % 9, xb % 12, imm⟩ rfl _ _ rfl rfl (OwnL.keep ho ((Below.refl _ _).alloc (Nat.le_refl _) _)) rfl (by simp) rfl (by decide) (by omega) (by have := hb.size; simp; omega) ?_; intro v1 w1 ho1 hg1 hl1; obtain ⟨g1, cp1, rfl, hgl, hgh⟩ := OwnL.there ins_sz (by decide) ho1 (by simp); have hbx1 : w1.heap[wr.heap.size]? = some (.cells #[.int .u8 op, .int .u8 dst, .int .u8 xa, .int .u8 xb, .int .i16 imm, .bool rw] 52 (0, 0)) := (by rw [hg1.block _ (by simp; omega) (fun e => by have := HOL.out _ e.symm; omega)]; exact heap_keep (heap_new _ _) _); obtain ⟨k0, k1, k2, k3, k4⟩ := OwnP.last ho1; have b3 := cell_at hbx1 3; have b4 := cell_at hbx1 4; have f3 := OwnL.free ho1 (p.length * 5 + 3); have f4 := OwnL.free ho1 (p.length * 5 + 4); have HO1 := hid ho1; have HGL := hid hgl; simp only [List.length_append, List.length_singleton] at HO1; have HBA := hid (OwnL.belowA (OwnL.keep ho ((Below.refl _ _).alloc (Nat.le_refl _) _)) (hb.alloc hb.size _) _ hg1 (Nat.le_refl _) (by have := hb.size; simp; omega)); clear ho1 hg1 hbx1 hgl)
          go_roundw
          case rel =>
            refine ⟨p.length + 1, by omega, by go_num, ?_, HBA.out⟩
            rw [HT.out, HQ2.out]
            exact HO1.out
          case measure => simp [intOf]; omega
      · have h202 : ¬ (j : Int) < 20 := by omega
        have HE : Hid (((l.take 20).take (j + 1)).map Sm.ins = ((l.take 20).take j).map Sm.ins) := by
          show _ = _
          rw [List.take_of_length_le (by simp; omega), List.take_of_length_le (l := l.take 20) (i := j) (by simp; omega)]
        clear h20
        go_wp2
        go_roundw
        case rel =>
          refine ⟨j + 1, by omega, by go_num, ?_, hb.alloc hb.size _⟩
          rw [HE.out]
          exact OwnL.keep ho ((Below.refl _ _).alloc (Nat.le_refl _) _)
        case measure => simp [intOf]; omega
    · obtain rfl : j = l.length := by omega
      have hE : ((l.take 20).take l.length).map Sm.ins = (l.take 20).map Sm.ins := by rw [List.take_of_length_le (by simp; omega)]
      rw [hE] at ho
      have HP := hid (show repair d 60 ((l.take 20).map Sm.ins) = Isa.prog l d from rfl)
      have hlow : ∀ x ∈ (l.take 20).map Sm.ins, x.low := fun x hx => by
        obtain ⟨s, hs, rfl⟩ := List.mem_map.1 hx
        exact Sm.ins_low (h.2.2 s (List.mem_of_mem_take hs))
      have hlen : ((l.take 20).map Sm.ins).length ≤ 20 := by simp; omega
      obtain ⟨p0, hp0⟩ : ∃ p0, (l.take 20).map Sm.ins = p0 := ⟨_, rfl⟩
      rw [hp0] at ho HP hlow hlen
      obtain ⟨wr1, rfl⟩ : ∃ wr1 : World, wr1 = wr := ⟨_, rfl⟩
      have HB := hid hb
      have HLOW := hid hlow
      have HLEN := hid hlen
      have HO := hid ho
      obtain ⟨v, c, rfl, hsl⟩ := OwnL.read ho
      have hlt2 : ¬ (l.length : Int) < (l.length : Int) := by omega
      clear hE hp0 h hb hj hlt hlow hlen ho hsl
      go_wp2
      go_loopw [69] (fun k wr2 => ∃ (k' : Nat) (pk : List Ins), k' ≤ 60 ∧ k = .int .i64 k' ∧ pk.length = p0.length ∧ OwnP wr2 w.heap.size (.slice v p0.length c) pk ∧ Hid (∀ x ∈ pk, x.low) ∧ Hid (repair d (60 - k') pk = Isa.prog l d) ∧ Below w.heap.size w wr2) (fun k _ => 60 - (intOf k).toNat)
      case atStart => exact ⟨0, p0, by omega, rfl, rfl, HO.out, HLOW.out, HP.out, HB.out⟩
      case round =>
        clear HB HO HLOW HP
        obtain ⟨k, pk, hk, rfl, hl, ho, HLOW, HP, hb⟩ := hrel
        obtain ⟨wr2, rfl⟩ : ∃ wr2 : World, wr2 = wr := ⟨_, rfl⟩
        by_cases hk60 : k < 60
        · have dk : decide ((k : Int) < 60) = true := by simp; omega
          go_wp2
          go_loopw [9, 73] (fun s9 i wr3 => ∃ (i' : Nat) (bad : Int), i' ≤ p0.length ∧ i = .int .i64 i' ∧ s9 = .int .i64 bad ∧ -1 ≤ bad ∧ bad < p0.length ∧ Hid (badFrom pk d 0 pk = if bad < 0 then badFrom pk d i' (pk.drop i') else some bad.toNat) ∧ OwnP wr3 w.heap.size (.slice v p0.length c) pk ∧ Below w.heap.size w wr3) (fun _ i _ => p0.length - (intOf i).toNat)
          case atStart => exact ⟨0, -1, by omega, rfl, rfl, by omega, by omega, rfl, ho, hb⟩
          case round =>
            clear ho hb
            obtain ⟨i, bad, hi, rfl, rfl, hb1, hb2, HBAD, ho, hb⟩ := hrel
            obtain ⟨wr3, rfl⟩ : ∃ wr3 : World, wr3 = wr := ⟨_, rfl⟩
            by_cases hip : i < p0.length
            · obtain ⟨g, cc, hvv, hgl, hgh⟩ := OwnL.there ins_sz (by decide) ho (by intro e; rw [e] at hl; simp at hl; omega)
              simp only [Value.slice.injEq] at hvv
              obtain ⟨rfl, hz1, rfl⟩ := hvv
              clear hz1
              have hip2 : (i : Int) < (p0.length : Int) := by omega
              have hi20 : i < 20 := by have := HLEN.out; omega
              have HLOWB := hid hgl
              obtain ⟨q1, c1, hq1, hsl2⟩ := OwnL.read ho
              simp only [Value.slice.injEq] at hq1
              obtain ⟨rfl, hz2, rfl⟩ := hq1
              clear hz2
              rw [hl] at hsl2
              have HO := hid ho
              have HLL := hid hl
              clear ho hl
              by_cases hbad : 0 ≤ bad
              · have d0 : decide (bad < 0) = false := by simp; omega
                have HBAD2 : Hid (badFrom pk d 0 pk = if bad < 0 then badFrom pk d (i + 1) (pk.drop (i + 1)) else some bad.toNat) := by show _ = _; rw [HBAD.out, if_neg (by omega), if_neg (by omega)]
                clear hbad
                go_upto_region 18 with (at_builtin; refine app_recs Try.elIns oneCell_ins rfl _ _ rfl rfl (OwnL.emptyAt (f := Ins.cells) wr3 wr3.heap.size _ rfl (Nat.le_refl _)) (ys := pk) HLL.out.symm rfl (hsl2.keep ((Below.refl _ _).alloc (Nat.le_refl _) _)) (by decide) (by have := HLEN.out; simp; omega) (by simp) ?_; intro v4 w4 ho4 hg4 hl4)
                rw [List.nil_append] at ho4
                obtain ⟨g4, c4, rfl, hgl4, hgh4⟩ := OwnL.there ins_sz (by decide) ho4 (by intro e; rw [e] at HLL; have := HLL.out; simp at this; omega)
                have HB4 := hid (OwnL.below (OwnL.emptyAt (sz := 5) (f := Ins.cells) wr3 wr3.heap.size _ rfl (Nat.le_refl _)) ((Below.refl _ _).alloc (Nat.le_refl _) _) hg4 (Nat.le_refl _) (by simp))
                obtain ⟨x, HX, k0, k1, k2, k3, k4⟩ := OwnP.cells5 ho4 i (by rw [HLL.out]; exact hip)
                obtain ⟨f0, f1, f2, f3, f4⟩ := OwnP.free5 ho4 (i * 5)
                have hip4 : (i : Int) < (pk.length : Int) := by rw [HLL.out]; exact hip2
                have HB5 := hid (below_put5 HB4.out hgl4 (i * 5) (.int .u8 1) (.int .u8 0) (.int .u8 0) (.int .u8 0) (.int .i16 0))
                clear ho4 hg4
                go_wp2
                go_roundw
                case rel => exact ⟨i + 1, bad, by omega, by go_num, rfl, hb1, hb2, HBAD2, OwnL.keep HO.out HB5.out, hb.trans (HB5.out.mono hb.size)⟩
                case measure => simp [intOf]; omega
              · obtain rfl : bad = -1 := by omega
                have HBAD2 : Hid (badFrom pk d 0 pk = badFrom pk d i (pk.drop i)) := by show _ = _; rw [HBAD.out, if_pos (by omega)]
                clear hbad HBAD hb1 hb2
                go_upto_region 18 with (at_builtin; refine app_recs Try.elIns oneCell_ins rfl _ _ rfl rfl (OwnL.emptyAt (f := Ins.cells) wr3 wr3.heap.size _ rfl (Nat.le_refl _)) (ys := pk) HLL.out.symm rfl (hsl2.keep ((Below.refl _ _).alloc (Nat.le_refl _) _)) (by decide) (by have := HLEN.out; simp; omega) (by simp) ?_; intro v4 w4 ho4 hg4 hl4)
                rw [List.nil_append] at ho4
                obtain ⟨g4, c4, rfl, hgl4, hgh4⟩ := OwnL.there ins_sz (by decide) ho4 (by intro e; rw [e] at HLL; have := HLL.out; simp at this; omega)
                have HB4 := hid (OwnL.below (OwnL.emptyAt (sz := 5) (f := Ins.cells) wr3 wr3.heap.size _ rfl (Nat.le_refl _)) ((Below.refl _ _).alloc (Nat.le_refl _) _) hg4 (Nat.le_refl _) (by simp))
                obtain ⟨x, HX, k0, k1, k2, k3, k4⟩ := OwnP.cells5 ho4 i (by rw [HLL.out]; exact hip)
                obtain ⟨f0, f1, f2, f3, f4⟩ := OwnP.free5 ho4 (i * 5)
                have hip4 : (i : Int) < (pk.length : Int) := by rw [HLL.out]; exact hip2
                have HB5 := hid (below_put5 HB4.out hgl4 (i * 5) (.int .u8 1) (.int .u8 0) (.int .u8 0) (.int .u8 0) (.int .i16 0))
                have HS := hid (badFrom_step (d := d) HX.out)
                have hQ5 := OwnP.put5 ho4 i (by rw [HLL.out]; exact hip) mov
                clear ho4 hg4
                go_upto_region 19 with (fail)
                obtain ⟨w5, hw5⟩ : ∃ w5, ((((w4.setCell ⟨g4, i * 5, none⟩ (.int .u8 1)).setCell ⟨g4, i * 5 + 1, none⟩ (.int .u8 0)).setCell ⟨g4, i * 5 + 2, none⟩ (.int .u8 0)).setCell ⟨g4, i * 5 + 3, none⟩ (.int .u8 0)).setCell ⟨g4, i * 5 + 4, none⟩ (.int .i16 0) = w5 := ⟨_, rfl⟩
                rw [hw5]
                have hQ5' : OwnP w5 wr3.heap.size (.slice (some ⟨g4, 0, none⟩) pk.length c4) (pk.set i mov) := by rw [← hw5]; exact hQ5
                rw [hw5] at HB5
                have hP5 : OwnP w5 w.heap.size (.slice (some ⟨g, 0, none⟩) p0.length c) pk := OwnL.keep HO.out HB5.out
                clear hw5 hQ5 k0 k1 k2 k3 k4 f0 f1 f2 f3 f4 HB4
                have hPP : Prog w5 (some ⟨g, 0, none⟩) p0.length c pk := by
                  obtain ⟨a1, c1, e1, hs1⟩ := OwnL.read hP5
                  simp only [Value.slice.injEq] at e1
                  obtain ⟨rfl, _, rfl⟩ := e1
                  exact ⟨HLL.out, by rw [HLL.out] at hs1; exact hs1, fun x hx => (HLOW.out x hx).good⟩
                have hQQ : Prog w5 (some ⟨g4, 0, none⟩) pk.length c4 (pk.set i mov) := by
                  obtain ⟨a1, c1, e1, hs1⟩ := OwnL.read hQ5'
                  simp only [Value.slice.injEq] at e1
                  obtain ⟨rfl, _, rfl⟩ := e1
                  exact ⟨by simp, by rw [List.length_set] at hs1; exact hs1, fun x hx => (low_set HLOW.out i x hx).good⟩
                have HC1 := chk_calls hPP (by have := HLEN.out; omega) d
                have HQQ := hid hQQ
                have HPP := hid hP5
                have HP6 : Hid (pk.length ≤ 1000000) := by show _ ≤ _; rw [HLL.out]; have := HLEN.out; omega
                obtain ⟨r1, hr1⟩ : ∃ r1, chk pk d = r1 := ⟨_, rfl⟩
                obtain ⟨r2, hr2⟩ : ∃ r2, chk (pk.set i mov) d = r2 := ⟨_, rfl⟩
                have HODD : Hid (odd pk d i x = (r1 != 0 && (r2 == 0 || ctl d x))) := by show _ = _; unfold odd; rw [hr1, hr2]
                rw [hr1] at HC1
                have HR2 := hid hr2
                have HCX : Hid (∀ w', Below w5.heap.size w5 w' → w'.cell? ⟨g, i * 5, none⟩ = some (.int .u8 x.op)) := fun w' hw' => by
                  obtain ⟨y, hy, y0, _⟩ := OwnP.cells5 (OwnL.keep hP5 hw') i (by rw [HLL.out]; exact hip)
                  have := hy.out
                  rw [HX.out] at this
                  cases this
                  exact y0
                clear hr1 hr2 hPP hQ5' hP5
                by_cases hr10 : r1 = 0
                · subst hr10
                  have HF : Hid (badFrom pk d 0 pk = if (-1 : Int) < 0 then badFrom pk d (i + 1) (pk.drop (i + 1)) else some (-1 : Int).toNat) := by show _ = _; rw [HBAD2.out, HS.out, HODD.out, if_neg (by simp), if_pos (by omega)]
                  clear HS HODD
                  go_wp2_with (go_at_call 9; with_reducible refine HC1.mono ?_; rintro e w6 ⟨rfl, hb6⟩; have HB6 := hid (HB5.out.trans (hb6.mono HB5.out.size)))
                  go_roundw
                  case rel => exact ⟨i + 1, -1, by omega, by go_num, rfl, by omega, by omega, HF, OwnL.keep HO.out HB6.out, hb.trans (HB6.out.mono hb.size)⟩
                  case measure => simp [intOf]; omega
                · have b1 : (r1 != 0) = true := by rw [bne_iff_ne]; exact hr10
                  by_cases hr20 : r2 = 0
                  · subst hr20
                    have HF : Hid (badFrom pk d 0 pk = if ((i : Nat) : Int) < 0 then badFrom pk d (i + 1) (pk.drop (i + 1)) else some ((i : Nat) : Int).toNat) := by show _ = _; rw [HBAD2.out, HS.out, HODD.out, if_pos (by rw [b1]; simp), if_neg (by omega), Int.toNat_natCast]
                    clear HS HODD
                    go_wp2_with (first | (go_at_call 9; with_reducible refine HC1.mono ?_; rintro e w6 ⟨rfl, hb6⟩; have HC2 := hid (chk_calls (HQQ.out.keep hb6) HP6.out d); rw [HR2.out] at HC2; have HB65 := hid hb6) | (go_at_call 9; refine HC2.out.mono ?_; rintro e w7 ⟨rfl, hb7⟩; have HB7 := hid (HB65.out.trans (hb7.mono HB65.out.size)); have m0 := HCX.out _ HB7.out; have HB6 := hid (HB5.out.trans (HB7.out.mono HB5.out.size))))
                    go_roundw
                    case rel => exact ⟨i + 1, (i : Int), by omega, by go_num, rfl, by omega, by omega, HF, OwnL.keep HO.out HB6.out, hb.trans (HB6.out.mono hb.size)⟩
                    case measure => simp [intOf]; omega
                  · have b2 : (r2 == 0) = false := by rw [beq_eq_false_iff_ne]; exact hr20
                    obtain ⟨op, dst, xa, xb, imm⟩ := x
                    simp only at HCX
                    clear hr10 hr20
                    by_cases h12 : op = 12
                    · subst h12
                      have HF : Hid (badFrom pk d 0 pk = if ((i : Nat) : Int) < 0 then badFrom pk d (i + 1) (pk.drop (i + 1)) else some ((i : Nat) : Int).toNat) := by show _ = _; rw [HBAD2.out, HS.out, HODD.out, if_pos (by rw [b1, b2]; simp [ctl]), if_neg (by omega), Int.toNat_natCast]
                      clear HS HODD
                      go_wp2_with (first | (go_at_call 9; with_reducible refine HC1.mono ?_; rintro e w6 ⟨rfl, hb6⟩; have HC2 := hid (chk_calls (HQQ.out.keep hb6) HP6.out d); rw [HR2.out] at HC2; have HB65 := hid hb6) | (go_at_call 9; refine HC2.out.mono ?_; rintro e w7 ⟨rfl, hb7⟩; have HB7 := hid (HB65.out.trans (hb7.mono HB65.out.size)); have m0 := HCX.out _ HB7.out; have HB6 := hid (HB5.out.trans (HB7.out.mono HB5.out.size))))
                      go_roundw
                      case rel => exact ⟨i + 1, (i : Int), by omega, by go_num, rfl, by omega, by omega, HF, OwnL.keep HO.out HB6.out, hb.trans (HB6.out.mono hb.size)⟩
                      case measure => simp [intOf]; omega
                    · have b3 : (op == 12) = false := by rw [beq_eq_false_iff_ne]; exact h12
                      by_cases h11 : op = 11
                      · subst h11
                        have HF : Hid (badFrom pk d 0 pk = if ((i : Nat) : Int) < 0 then badFrom pk d (i + 1) (pk.drop (i + 1)) else some ((i : Nat) : Int).toNat) := by show _ = _; rw [HBAD2.out, HS.out, HODD.out, if_pos (by rw [b1, b2]; simp [ctl]), if_neg (by omega), Int.toNat_natCast]
                        clear HS HODD
                        go_wp2_with (first | (go_at_call 9; with_reducible refine HC1.mono ?_; rintro e w6 ⟨rfl, hb6⟩; have HC2 := hid (chk_calls (HQQ.out.keep hb6) HP6.out d); rw [HR2.out] at HC2; have HB65 := hid hb6) | (go_at_call 9; refine HC2.out.mono ?_; rintro e w7 ⟨rfl, hb7⟩; have HB7 := hid (HB65.out.trans (hb7.mono HB65.out.size)); have m0 := HCX.out _ HB7.out; have HB6 := hid (HB5.out.trans (HB7.out.mono HB5.out.size))))
                        go_roundw
                        case rel => exact ⟨i + 1, (i : Int), by omega, by go_num, rfl, by omega, by omega, HF, OwnL.keep HO.out HB6.out, hb.trans (HB6.out.mono hb.size)⟩
                        case measure => simp [intOf]; omega
                      · have b4 : (op == 11) = false := by rw [beq_eq_false_iff_ne]; exact h11
                        by_cases h13 : op = 13
                        · subst h13
                          cases d with
                          | false =>
                            have HF : Hid (badFrom pk false 0 pk = if ((i : Nat) : Int) < 0 then badFrom pk false (i + 1) (pk.drop (i + 1)) else some ((i : Nat) : Int).toNat) := by show _ = _; rw [HBAD2.out, HS.out, HODD.out, if_pos (by rw [b1, b2]; simp [ctl]), if_neg (by omega), Int.toNat_natCast]
                            clear HS HODD
                            go_wp2_with (first | (go_at_call 9; with_reducible refine HC1.mono ?_; rintro e w6 ⟨rfl, hb6⟩; have HC2 := hid (chk_calls (HQQ.out.keep hb6) HP6.out false); rw [HR2.out] at HC2; have HB65 := hid hb6) | (go_at_call 9; refine HC2.out.mono ?_; rintro e w7 ⟨rfl, hb7⟩; have HB7 := hid (HB65.out.trans (hb7.mono HB65.out.size)); have m0 := HCX.out _ HB7.out; have HB6 := hid (HB5.out.trans (HB7.out.mono HB5.out.size))))
                            go_roundw
                            case rel => exact ⟨i + 1, (i : Int), by omega, by go_num, rfl, by omega, by omega, HF, OwnL.keep HO.out HB6.out, hb.trans (HB6.out.mono hb.size)⟩
                            case measure => simp [intOf]; omega
                          | true =>
                            have HF : Hid (badFrom pk true 0 pk = if (-1 : Int) < 0 then badFrom pk true (i + 1) (pk.drop (i + 1)) else some (-1 : Int).toNat) := by show _ = _; rw [HBAD2.out, HS.out, HODD.out, if_neg (by rw [b1, b2]; simp [ctl]), if_pos (by omega)]
                            clear HS HODD
                            go_wp2_with (first | (go_at_call 9; with_reducible refine HC1.mono ?_; rintro e w6 ⟨rfl, hb6⟩; have HC2 := hid (chk_calls (HQQ.out.keep hb6) HP6.out true); rw [HR2.out] at HC2; have HB65 := hid hb6) | (go_at_call 9; refine HC2.out.mono ?_; rintro e w7 ⟨rfl, hb7⟩; have HB7 := hid (HB65.out.trans (hb7.mono HB65.out.size)); have m0 := HCX.out _ HB7.out; have HB6 := hid (HB5.out.trans (HB7.out.mono HB5.out.size))))
                            go_roundw
                            case rel => exact ⟨i + 1, -1, by omega, by go_num, rfl, by omega, by omega, HF, OwnL.keep HO.out HB6.out, hb.trans (HB6.out.mono hb.size)⟩
                            case measure => simp [intOf]; omega
                        · have b5 : (op == 13) = false := by rw [beq_eq_false_iff_ne]; exact h13
                          have HF : Hid (badFrom pk d 0 pk = if (-1 : Int) < 0 then badFrom pk d (i + 1) (pk.drop (i + 1)) else some (-1 : Int).toNat) := by show _ = _; rw [HBAD2.out, HS.out, HODD.out, if_neg (by rw [b1, b2]; simp [ctl, b3, b4, b5]), if_pos (by omega)]
                          clear HS HODD
                          go_wp2_with (first | (go_at_call 9; with_reducible refine HC1.mono ?_; rintro e w6 ⟨rfl, hb6⟩; have HC2 := hid (chk_calls (HQQ.out.keep hb6) HP6.out d); rw [HR2.out] at HC2; have HB65 := hid hb6) | (go_at_call 9; refine HC2.out.mono ?_; rintro e w7 ⟨rfl, hb7⟩; have HB7 := hid (HB65.out.trans (hb7.mono HB65.out.size)); have m0 := HCX.out _ HB7.out; have HB6 := hid (HB5.out.trans (HB7.out.mono HB5.out.size))))
                          go_roundw
                          case rel => exact ⟨i + 1, -1, by omega, by go_num, rfl, by omega, by omega, HF, OwnL.keep HO.out HB6.out, hb.trans (HB6.out.mono hb.size)⟩
                          case measure => simp [intOf]; omega
            · obtain rfl : i = p0.length := by omega
              have hi3 : ¬ (p0.length : Int) < (p0.length : Int) := by omega
              have HLL := hid hl
              have HO := hid ho
              by_cases hbad : bad < 0
              · have d0 : decide (bad < 0) = true := by simp; omega
                have HE : Hid (Isa.prog l d = pk) := by
                  have h1 := HBAD.out
                  rw [if_pos hbad, List.drop_of_length_le (by omega)] at h1
                  have h1 : badFrom pk d 0 pk = none := h1
                  show _ = _
                  rw [← HP.out, show 60 - k = (59 - k) + 1 by omega]
                  simp only [repair]
                  rw [h1]
                clear hbad ho hl
                go_wp2
                go_ret
                exact ⟨_, rfl, by rw [HE.out]; exact HO.out, hb⟩
              · obtain ⟨b, rfl⟩ : ∃ b : Nat, bad = (b : Int) := ⟨bad.toNat, by omega⟩
                have d0 : decide ((b : Int) < 0) = false := by simp
                have hbp : b < pk.length := by omega
                have HE : Hid (repair d (60 - (k + 1)) (pk.set b mov) = Isa.prog l d) := by
                  have h1 := HBAD.out
                  rw [if_neg hbad, Int.toNat_natCast] at h1
                  have h2 := HP.out
                  rw [show 60 - k = (60 - (k + 1)) + 1 by omega] at h2
                  simp only [repair] at h2
                  rw [h1] at h2
                  exact h2
                obtain ⟨g, cc, hvv, hgl, hgh⟩ := OwnL.there ins_sz (by decide) ho (by intro e; rw [e] at hl; simp at hl; omega)
                simp only [Value.slice.injEq] at hvv
                obtain ⟨rfl, hz1, rfl⟩ := hvv
                clear hz1
                obtain ⟨x, HX, k0, k1, k2, k3, k4⟩ := OwnP.cells5 ho b hbp
                obtain ⟨f0, f1, f2, f3, f4⟩ := OwnP.free5 ho (b * 5)
                have hQ5 := hid (OwnP.put5 ho b hbp mov)
                have HB5 := hid (below_put5 hb hgl (b * 5) (.int .u8 1) (.int .u8 0) (.int .u8 0) (.int .u8 0) (.int .i16 0))
                have HLS := hid (show (pk.set b mov).length = p0.length by rw [List.length_set, HLL.out])
                clear hbad ho hl HLL hbp
                go_wp2
                go_roundw
                case rel => exact ⟨k + 1, pk.set b mov, by omega, by go_num, HLS.out, hQ5.out, low_set HLOW.out b, HE, HB5.out⟩
                case measure => simp [intOf]; omega
        · obtain rfl : k = 60 := by omega
          have HO := hid ho
          have HE : Hid (Isa.prog l d = pk) := by show _ = _; rw [← HP.out]; rfl
          clear ho hl
          go_wp2
          go_ret
          exact ⟨_, rfl, by rw [HE.out]; exact HO.out, hb⟩
end Go.Proofs.Ytnknhedhoibepaa
