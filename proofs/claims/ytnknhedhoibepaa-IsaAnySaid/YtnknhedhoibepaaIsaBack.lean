/-
  The walk of the law 'IsaBack'.
-/
import Derived.Test.YtnknhedhoibepaaIsaSame
import Derived.Test.YtnknhedhoibepaaOpenSm
namespace Go.Proofs.Ytnknhedhoibepaa
open Go.RowKit Isa
set_option linter.unusedVariables false

theorem progBytes_len {l : List Ins} (h : ∀ x ∈ l, x.good) (h24 : l.length ≤ 1000) : (progBytes l).length ≤ 16000 := by
  unfold progBytes
  have h1 := insB_len h
  have h2 := encN_ten l.length (by have : (2 : Nat) ^ 64 = 18446744073709551616 := rfl; omega)
  rw [List.length_append]; omega
theorem own_block_lt {w : World} {B : Nat} {a : Option Addr} {n cap : Nat} {l : List Ins} (h : OwnP w B (.slice a n cap) l) : ∀ q, a = some q → B ≤ q.block ∧ q.block < w.heap.size := by
  rintro q rfl
  exact World.ownsRow.lt h q.block rfl

set_option maxRecDepth 10000 in
set_option maxHeartbeats 2000000 in
theorem back_walk {a : Option Addr} {n cap : Nat} {l : List Sm} {w : World} (h : Sms w a n cap l) (d : Bool) :
    Calls Try.prog 5 #[.slice a n cap, .bool d] w fun e w' => e = .returned (.bool true) ∧ Below w.heap.size w w' := by
  obtain rfl := h.1
  by_cases h40 : l.length > 40
  · have d1 : decide ((l.length : Int) > 40) = true := by simp; omega
    clear h40
    go_enter Try.func5, Try.ntmps5
    go_wp2_with (go_at_call 7; refine (awake07 _).mono ?_; rintro e w1 ⟨rfl, hb1⟩)
    go_ret
    exact ⟨rfl, hb1⟩
  have d1 : decide ((l.length : Int) > 40) = false := by simp; omega
  have HGP := hid (fun x hx => (prog_low d h.2.2 x hx).good)
  have HOK := hid (prog_ok d h.2.2)
  have HPL := hid (prog_len l d).1
  obtain ⟨p, hp⟩ : ∃ p, Isa.prog l d = p := ⟨_, rfl⟩
  rw [hp] at HGP HOK HPL
  have HP := hid hp
  have HH := hid h
  have HN := hid (show l.length ≤ 1000 by omega)
  obtain ⟨L, hL⟩ : ∃ L, progBytes p = L := ⟨_, rfl⟩
  have HL := hid hL
  have HL6 := hid (show L.length ≤ 900000 by rw [← hL]; have := progBytes_len HGP.out (by have := HPL.out; omega); omega)
  have HTK : Hid (takeP L ⟨0, 0⟩ d = (p, ⟨L.length, 0⟩)) := by
    show _ = _
    have := takeP_enc (bs := L) (rest := []) (i := 0) HGP.out HOK.out (by rw [List.drop_zero, List.append_nil, hL])
    rw [this, hL, Nat.zero_add]
  have HEND : Hid (rEnd L ⟨L.length, 0⟩ = 0) := by show _ = _; unfold rEnd; rw [if_neg (by simp)]
  obtain ⟨f, hf⟩ : ∃ f, fuel p = f := ⟨_, rfl⟩
  have hf2 : f ≤ 200 := by rw [← hf]; exact (chk_zero.1 HOK.out).2.2
  have e1 : decide (f ≤ 200) = true := by simp; omega
  have HF := hid hf
  clear hp h h40 hL hf hf2
  go_enter Try.func5, Try.ntmps5
  go_wp2_with (first
    | (go_at_call 7; refine (awake07 _).mono ?_; rintro e w1 ⟨rfl, hb1⟩)
    | (go_at_call 8; refine (program_calls (HH.out.keep hb1) HN.out d).mono ?_; rintro e w2 ⟨v2, rfl, ho2, hb2⟩; rw [HP.out] at ho2; obtain ⟨a5, c5, rfl, hp2⟩ := OwnP.prog ho2 HGP.out; have LT := hid (own_block_lt ho2); have HP2 := hid hp2; have HB2 := hid (hb1.trans (hb2.mono hb1.size)); clear ho2 hb2 hp2)
    | (go_at_call 12; refine (put_prog (Wr.new w2 _) (HP2.out.keep ((Below.refl _ _).alloc (Nat.le_refl _) _)) (fun q hq => by have := (LT.out q hq).2; simp; omega) (by have := HPL.out; omega) (by decide)).mono ?_; rintro e w3 ⟨rfl, S3, hw3, hg3, hf3⟩; rw [List.nil_append, HL.out] at hw3; have HP3 := hid ((HP2.out.keep ((Below.refl _ _).alloc (Nat.le_refl _) _)).fr hf3 (fun q hq => by have := (LT.out q hq).2; simp; omega)); have HB3 := hid (Fr.below (HB2.out.alloc HB2.out.size _) hf3 (by simp; exact HB2.out.size) (HB2.out.alloc HB2.out.size _).size); have HS3 := hid (Nat.le_trans (show w2.heap.size ≤ _ by simp) hf3.size); clear hg3 hf3)
    | (go_at_call 14; refine (wbytes_calls hw3 (by have := HL6.out; omega)).mono ?_; rintro e w4 ⟨v4, rfl, ho4, hb4⟩; obtain ⟨a4, c4, rfl, hB4⟩ := ho4.bytes; have HP4 := hid (HP3.out.keep hb4); have HB4 := hid (HB3.out.trans (hb4.mono HB3.out.size)); have HS4 := hid (Nat.le_trans HS3.out hb4.size); clear hb4 ho4 hw3)
    | (go_at_call 13; refine (read_calls hB4 (by have := HL6.out; omega)).mono ?_; rintro e w5 ⟨g5, S5, rfl, hr5, hS5, hb5⟩; have HP5 := hid (HP4.out.keep hb5); have HB5 := hid (HB4.out.trans (hb5.mono HB4.out.size)); have HG5 := hid (show w4.heap.size ≤ g5 from (hS5 g5 (by obtain ⟨_, _, _, _, _, _, h4, _⟩ := hr5; exact h4)).1); have HS5 := hid hS5; clear hb5 hB4 hS5)
    | (go_at_call 15; refine (take_calls hr5 (fun k hk => (HS5.out k hk).2) d).mono ?_; rintro e w6 ⟨v6, rfl, ho6, hr6, hf6⟩; rw [HTK.out] at ho6 hr6; obtain ⟨a6, c6, rfl, hp6⟩ := OwnP.prog ho6 HGP.out; have HP6 := hid (HP5.out.fr hf6 (fun q hq => by have := (LT.out q hq).2; have := HS4.out; have := HG5.out; simp; omega)); have HQ6 := hid hp6; have HB6 := hid (Fr.below HB5.out hf6 (by simp; have := HG5.out; have := HB4.out.size; omega) HB5.out.size); clear ho6 hf6 hp6 hr5)
    | (go_at_call 16; refine (rend_calls hr6).mono ?_; rintro e w7 ⟨rfl, q7, rfl⟩; rw [HEND.out])
    | (go_at_call 17; refine (same_calls (HP6.out.drewN q7) (HQ6.out.drewN q7) (by have := HPL.out; omega)).mono ?_; rintro e w8 ⟨rfl, q8, rfl⟩)
    | (go_at_call 10; refine (fuel_calls (HP6.out.drewN (q7 + q8)) (by have := HPL.out; omega)).mono ?_; rintro e w9 ⟨rfl, hb9⟩; rw [HF.out]))
  go_ret
  have hb8 := HB6.out.trans ((below_draws w6.heap.size w6 (q7 + q8)).mono HB6.out.size)
  exact ⟨rfl, hb8.trans (hb9.mono hb8.size)⟩
end Go.Proofs.Ytnknhedhoibepaa
