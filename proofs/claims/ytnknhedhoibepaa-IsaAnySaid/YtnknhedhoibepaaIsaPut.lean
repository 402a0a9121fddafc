/-
  Programs as bytes: Put; chapter 7's Awake.
-/
import Derived.Test.YtnknhedhoibepaaIsaAll
import Derived.Test.YtnknhedhoibepaaWireNew
import Derived.Test.YtnknhedhoibepaaIsaBytes
namespace Go.Proofs.Ytnknhedhoibepaa
open Go.RowKit Isa
set_option linter.unusedVariables false

/-- An instruction's cells, by a name. -/
theorem Prog.get {w : World} {a : Option Addr} {n cap : Nat} {l : List Ins} (h : Prog w a n cap l) (j : Nat) (hj : j < l.length) :
    ∃ b off x, a = some ⟨b, off, none⟩ ∧ Hid (l[j]? = some x) ∧ x.good ∧ w.cell? ⟨b, off + j * 5, none⟩ = some (.int .u8 x.op) ∧ w.cell? ⟨b, off + j * 5 + 1, none⟩ = some (.int .u8 x.dst) ∧ w.cell? ⟨b, off + j * 5 + 2, none⟩ = some (.int .u8 x.a) ∧ w.cell? ⟨b, off + j * 5 + 3, none⟩ = some (.int .u8 x.b) ∧ w.cell? ⟨b, off + j * 5 + 4, none⟩ = some (.int .i16 x.imm) := by
  obtain ⟨b, off, e, h1⟩ := h.at j hj
  exact ⟨b, off, l[j], e, List.getElem?_eq_getElem hj, h.2.2 _ (List.getElem_mem hj), h1⟩

theorem Prog.fr {S : List Nat} {w w' : World} {a : Option Addr} {n cap : Nat} {l : List Ins} (h : Prog w a n cap l) (hf : Fr S w w') (hn : ∀ p, a = some p → p.block ∉ S) : Prog w' a n cap l := ⟨h.1, h.2.1.fr hf hn, h.2.2⟩
set_option maxRecDepth 10000 in
set_option maxHeartbeats 1000000 in
/-- A program whose block the writer doesn't write. -/
theorem put_prog {w : World} {g : Nat} {S : List Nat} {bs : List UInt8} (h : Wr w g S bs) {a : Option Addr} {n cap : Nat} {l : List Ins} (hp : Prog w a n cap l) (hS : ∀ p, a = some p → p.block ∉ S ∧ p.block < w.heap.size) (hn : n ≤ 1000) (hl : bs.length ≤ 800000) :
    Calls Try.prog 12 #[.slice a n cap, .pointer (some ⟨g, 0, none⟩)] w fun e w' => e = .returned (.tuple #[]) ∧ ∃ S', Wr w' g S' (bs ++ progBytes l) ∧ Grows S w S' ∧ Fr S w w' := by
  obtain rfl := hp.1
  have HLen := hid (encN_ten l.length (by have : (2 : Nat) ^ 64 = 18446744073709551616 := rfl; omega))
  have hg4 : ∀ S1 (w1 : World), Grows S w S1 → Fr S w w1 → ∀ p, a = some p → p.block ∉ S1 := fun S1 w1 hg _ p hp hm => by
    rcases hg _ hm with h1 | h1
    · exact (hS p hp).1 h1
    · have := (hS p hp).2; omega
  have HG4 := hid hg4
  have HIB := hid (insB_len hp.2.2)
  obtain ⟨wo, rfl⟩ : ∃ wo : World, wo = w := ⟨_, rfl⟩
  have HPR := hid hp
  have HE0 := hid (show bs ++ encN l.length ++ ((l.take 0).map insBytes).flatten = bs ++ encN l.length by simp)
  clear hg4 hS hp
  go_enter Try.func12, Try.ntmps12
  go_wp2_with (go_at_call 22; refine (count_calls h (l.length : Int) (by omega) (by omega)).mono ?_; rintro x w1 ⟨rfl, S1, hr1, hg1, hf1⟩; rw [Int.toNat_natCast] at hr1)
  go_loopw [12] (fun k wr => ∃ j : Nat, ∃ S', j ≤ l.length ∧ k = .int .i64 j ∧ Wr wr g S' (bs ++ encN l.length ++ ((l.take j).map insBytes).flatten) ∧ Hid (Grows S wo S') ∧ Hid (Fr S wo wr)) (fun k _ => l.length - (intOf k).toNat)
  case atStart => exact ⟨0, S1, by omega, rfl, by rw [HE0.out]; exact hr1, hg1, hf1⟩
  case round =>
    clear hr1 hg1 hf1 h
    obtain ⟨j, S', hj, rfl, hr, HG, HF⟩ := hrel
    by_cases hlt : j < l.length
    · obtain ⟨b, off, x, rfl, HX, hg, c0, c1, c2, c3, c4⟩ := (HPR.out.fr HF.out (fun p hp => by
        intro hm; exact HG4.out S wo (Grows.refl _ _) (Fr.refl _ _) p hp hm)).get j hlt
      have HT := hid (insB_take HX.out)
      have HLB : Hid ((bs ++ encN l.length ++ ((l.take j).map insBytes).flatten).length ≤ 820000) := by
        have h1 := insB_len (l := l.take j) (fun y hy => HPR.out.2.2 y (List.mem_of_mem_take hy))
        have h2 := List.length_take_le j l
        have h3 := HLen.out
        show _ ≤ _
        rw [List.length_append, List.length_append]; omega
      obtain ⟨bs', hbs⟩ : ∃ bs', bs ++ encN l.length ++ ((l.take j).map insBytes).flatten = bs' := ⟨_, rfl⟩
      rw [hbs] at hr HLB
      have HN : Hid (bs ++ encN l.length ++ ((l.take (j + 1)).map insBytes).flatten = bs' ++ [by8 x.op, by8 x.dst, by8 x.a, by8 x.b] ++ encN (zig x.imm)) := by
        show _ = _
        rw [HT.out, ← hbs]
        unfold insBytes
        simp only [List.append_assoc]
      obtain ⟨op, dst, xa, xb, imm⟩ := x
      unfold Ins.good at hg
      simp only at hg c0 c1 c2 c3 c4 HN
      have n1 : IntKind.i64.wrap imm = imm := IntWalk.i64_in _ (by omega)
      have HCS : Hid ((#[.int .u8 op, .int .u8 dst, .int .u8 xa, .int .u8 xb] : Array Value).toList = [by8 op, by8 dst, by8 xa, by8 xb].map u8) := by
        show _ = _
        simp only [List.map_cons, List.map_nil, u8_by8 hg.1, u8_by8 hg.2.1, u8_by8 hg.2.2.1, u8_by8 hg.2.2.2.1]
      have HM : Hid ([by8 op, by8 dst, by8 xa, by8 xb].length ≤ maxLen) := by show _ ≤ _; unfold maxLen; simp
      have hlS := hr.lt
      have HR := hid hr
      have HSL := hid hlS
      obtain ⟨box, hbox⟩ : ∃ box : Obj, box = .cells #[.int .u8 op, .int .u8 dst, .int .u8 xa, .int .u8 xb, .int .i16 imm] 30 := ⟨_, rfl⟩
      have HBOX := hid hbox
      have hal : ∀ o o' : Obj, Fr S' wr ((wr.alloc o).alloc o') := fun o o' => ((Fr.refl _ _).alloc _).alloc _
      have HAL := hid hal
      clear hbs hr HX hlS hal hbox
      go_wp2_with (first
        | (go_at_call 23; refine (put_bytes (HR.out.fr (S' := []) (((Fr.refl [] wr).alloc _).alloc _) (fun _ _ h => by cases h)) (Bytes.newAt _ _ _ _ [by8 op, by8 dst, by8 xa, by8 xb] _ 4 (by simp) rfl HCS.out HM.out) (by have := HLB.out; omega) (by decide)).mono ?_; rintro x w2 ⟨rfl, S2, hr2, hg2, hf2⟩; have hbx := hf2.heap (heap_keep (heap_new wr _) _) (fun hm => by have := HSL.out _ hm; omega); have e4 := cell_at hbx 4; have HG2 := hid (show Grows S' wr S2 from fun k hk => (hg2 k hk).imp id (Nat.le_trans (HAL.out _ _).size)); have HF2 := hid ((HAL.out _ _).trans hf2 (Grows.refl _ _)); clear hbx hg2 hf2)
        | (go_at_call 24; refine (wint_calls hr2 imm (by omega) (by rw [List.length_append]; have := HLB.out; simp; omega)).mono ?_; rintro x w3 ⟨rfl, S3, hr3, hg3, hf3⟩))
      go_roundw
      case rel => exact ⟨j + 1, S3, by omega, by go_num, by rw [HN.out]; exact hr3, HG.out.trans (HG2.out.trans hg3 HF2.out.size) HF.out.size, HF.out.trans (HF2.out.trans hf3 HG2.out) HG.out⟩
      case measure => simp [intOf]; omega
    · have HE : Hid (bs ++ encN l.length ++ ((l.take j).map insBytes).flatten = bs ++ progBytes l) := by
        show _ = _
        rw [List.take_of_length_le (by omega)]
        unfold progBytes
        simp only [List.append_assoc]
      rw [HE.out] at hr
      have hlt2 : ¬ (j : Int) < (l.length : Int) := by omega
      go_wp2
      go_end0
      exact ⟨rfl, S', hr, HG.out, HF.out⟩

theorem Prog.one {w : World} {g : Nat} (cs : Array Value) (T : TypeId) (fz : Nat × Nat) (x : Ins) (hg : g = w.heap.size) (hcs : cs.toList = x.cells) (hx : x.good) : Prog (w.alloc (.cells cs T fz)) (some ⟨g, 0, none⟩) 1 1 [x] := by
  subst hg
  refine ⟨rfl, Sl.of_heap (heap_new w _) rfl ?_ (Nat.le_refl _) (by decide), fun y hy => by simp at hy; subst hy; exact hx⟩
  rw [hcs]; rfl
theorem Prog.none {w : World} {g : Nat} (T : TypeId) (fz : Nat × Nat) (hg : g = w.heap.size) : Prog (w.alloc (.cells #[] T fz)) (some ⟨g, 0, .none⟩) 0 0 [] := by
  subst hg
  exact ⟨rfl, Sl.of_heap (heap_new w _) rfl rfl (Nat.le_refl _) (by decide), fun y hy => by simp at hy⟩
set_option maxRecDepth 10000 in
theorem awake07 (w : World) : Calls Try.prog 7 #[] w fun e w' => e = .returned (.bool true) ∧ Below w.heap.size w w' := by
  have hw0 := hid (Wr.new w 39)
  obtain ⟨L, hL⟩ : ∃ L : List UInt8, ([] : List UInt8) ++ progBytes [] = L := ⟨_, rfl⟩
  have HL := hid hL
  have HL0 := hid (show L = [0] by rw [← hL]; unfold progBytes; rw [show encN ([] : List Ins).length = [0] from encN_lo (by decide)]; rfl)
  have HL6 := hid (show L.length ≤ 1000000 by rw [HL0.out]; decide)
  clear hL
  have HG : Hid (Ins.mk 11 0 0 0 1).good := by show Ins.good _; unfold Ins.good; simp
  have hC := fun w3 : World => chk_calls (Prog.one (w := w3) (g := w3.heap.size) #[.int .u8 11, .int .u8 0, .int .u8 0, .int .u8 0, .int .i16 1] 30 (0, 0) ⟨11, 0, 0, 0, 1⟩ rfl rfl HG.out) (by decide) true
  rw [show chk [⟨11, 0, 0, 0, 1⟩] true = 12 by rfl] at hC
  have HC := hid hC
  clear hC
  have hs1 : ((str L).toList == [0]) = true := by rw [HL0.out, str_toList]; rfl
  go_enter Try.func7, Try.ntmps7
  go_wp2_with (first
    | (go_at_call 12; refine (put_prog (hw0.out.fr (fr_alloc _ _) (fun _ _ h => by cases h)) (Prog.none _ _ (by simp)) (fun p hp => by cases hp; simp) (by decide) (by decide)).mono ?_; rintro x w1 ⟨rfl, S1, hw1, hg1, hf1⟩; rw [HL.out] at hw1)
    | (go_at_call 14; refine (wbytes_calls hw1 HL6.out).mono ?_; rintro x w3 ⟨v3, rfl, ho3, hb3⟩; obtain ⟨a3, c3, rfl, hb4⟩ := ho3.bytes; have hs := run_str (P := Try.prog) hb4 37 9 5 Try.underlying37 Try.underlying5 Try.underlying9)
    | (go_at_call 9; refine (HC.out w3).mono ?_; rintro x w4 ⟨rfl, hb4'⟩))
  go_ret
  have b1 : Below w.heap.size w (w.alloc (.cells #[.slice none 0 0] 39)) := (Below.refl _ _).alloc (Nat.le_refl _) _
  have b2 : Below w.heap.size w w1 := Fr.below ((b1.alloc b1.size _)) hf1 (by simp) (b1.alloc b1.size (.cells #[] 30)).size
  have b3 := b2.trans (hb3.mono b2.size)
  have b4 := b3.alloc b3.size (.cells #[.int .u8 11, .int .u8 0, .int .u8 0, .int .u8 0, .int .i16 1] 30)
  exact ⟨rfl, b4.trans (hb4'.mono b4.size)⟩
end Go.Proofs.Ytnknhedhoibepaa
