/-
  Records: Put and Take, whatever they are; the law's fixed fact.
-/
import Derived.Test.YtmholpploaecgaaRecord
namespace Go.Proofs.Ytmholpploaecgaa
open Go.RowKit
set_option linter.unusedVariables false
theorem rectake_calls {w : World} {g : Nat} {S : List Nat} {bs : List UInt8} {s : Rs} (h : Rd w g S bs s) (hS : ∀ k ∈ S, k < w.heap.size) :
    Calls Try.prog 17 #[.pointer (some ⟨g, 0, none⟩)] w fun e w' => e = .returned (.agg (recRow (gotA bs s) (gotS bs s) (gotX bs s))) ∧ Rd w' g S bs (tkEnd bs s) ∧ Fr [g] w w' := by
  cases hs : tkSome bs s with
  | false => exact rectake_none h hS hs
  | true => exact rectake_tri h hS hs
theorem recput_calls {w : World} {g : Nat} {S : List Nat} {bs : List UInt8} (h : Wr w g S bs) (hl : bs.length ≤ 800000) (a : Int) (s : Bool) (x : Nat → Int) (hc : chkRec a s x = 0) :
    Calls Try.prog 10 #[.agg (recRow a s x), .pointer (some ⟨g, 0, none⟩)] w fun e w' => e = .returned (.int .i64 0) ∧ ∃ S', Wr w' g S' (bs ++ recBytes a s x) ∧ Grows S w S' ∧ Fr S w w' := by
  cases s with
  | false => exact recput_plain h hl a x hc
  | true => exact recput_tri h hl a x hc
set_option maxRecDepth 10000 in
theorem awake14 (w : World) : Calls Try.prog 7 #[] w fun e w' => e = .returned (.bool true) ∧ Below w.heap.size w w' := by
  have hw0 := hid1 (Wr.new w 51)
  have HC := hid1 (show chkRec 3 false (fun _ => 0) = 0 by decide)
  obtain ⟨L, hL⟩ : ∃ L : List UInt8, ([] : List UInt8) ++ recBytes 3 false (fun _ => 0) = L := ⟨_, rfl⟩
  have HL := hid1 hL
  have HL0 := hid1 (show L = [6] by rw [← hL]; show encN 6 = [6]; exact encN_lo (by decide))
  have HL6 := hid1 (show L.length ≤ 1000000 by rw [HL0.out]; decide)
  have hs1 : ((str L).toList == [6]) = true := by rw [HL0.out, str_toList]; rfl
  clear hL
  go_enter Try.func7, Try.ntmps7
  go_wp2_with (first
    | (go_at_call 10; refine (recput_calls hw0.out (by decide) 3 false (fun _ => 0) HC.out).mono ?_; rintro x w1 ⟨rfl, S1, hw1, hg1, hf1⟩; rw [HL.out] at hw1)
    | (go_at_call 16; refine (wbytes_calls hw1 HL6.out).mono ?_; rintro x w3 ⟨v3, rfl, ho3, hb3⟩; obtain ⟨a3, c3, rfl, hb4⟩ := ho3.bytes; have hs := run_str (P := Try.prog) hb4 49 9 5 Try.underlying49 Try.underlying5 Try.underlying9))
  go_ret
  have b1 : Below w.heap.size w (w.alloc (.cells #[.slice none 0 0] 51)) := (Below.refl _ _).alloc (Nat.le_refl _) _
  have b2 : Below w.heap.size w w1 := Fr.below b1 hf1 (by simp) b1.size
  exact ⟨rfl, b2.trans (hb3.mono b2.size)⟩
end Go.Proofs.Ytmholpploaecgaa
