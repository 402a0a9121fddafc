/-
  container/heap: down, over the tiles.
-/
import Derived.Test.YtekimoblmcbjlaaStHeapP
import Derived.Test.YtekimoblmcbjlaaStPush
namespace Go.Proofs.Ytekimoblmcbjlaa
open Go.RowKit

theorem sless_w {w : World} {g b c m : Nat} {x y : Value} {T : TypeId} {l : List Int} (h : Hq w g (.slice (some ⟨b, 0, none⟩) m c) x y T l) (hm : m = l.length) (i j : Nat) (zi zj : Int) (ei : zi = i) (ej : zj = j) (hi : i < l.length) (hj : j < l.length) (bo : Bool) (hb : decide (l.getD i 0 < l.getD j 0) = bo) :
    Calls Try.prog 33 #[.slice (some ⟨b, 0, none⟩) m c, .int .i64 zi, .int .i64 zj] w fun e w' => e = .returned (.bool bo) ∧ ∃ q', w' = w.drewN q' := by
  subst hm ei ej hb
  obtain ⟨a, c', e1, hI⟩ := h.own.ints
  cases e1
  have := sless_calls hI i j hi hj
  rw [show l.getD i 0 = l[i] by simp [hi], show l.getD j 0 = l[j] by simp [hj]]
  exact this
theorem hswap_w {w : World} {g b c m : Nat} {x y : Value} {T : TypeId} {l : List Int} (h : Hq w g (.slice (some ⟨b, 0, none⟩) m c) x y T l) (hm : m = l.length) (i j : Nat) (zi zj : Int) (ei : zi = i) (ej : zj = j) (hi : i < l.length) (hj : j < l.length) :
    Calls Try.prog 35 #[.slice (some ⟨b, 0, none⟩) m c, .int .i64 zi, .int .i64 zj] w fun e w' => e = .returned (.tuple #[]) ∧ Hq w' g (.slice (some ⟨b, 0, none⟩) m c) x y T (swapL l i j) ∧ Fr [b] w w' := by
  subst hm ei ej
  refine (sswap_calls h.own i j hi hj).mono ?_
  rintro e w' ⟨rfl, ho, hf⟩
  have hgb : g ≠ b := fun e => h.apart (by rw [e]; rfl)
  exact ⟨rfl, ⟨hf.heap h.top (by simpa using hgb), ho, h.apart⟩, hf⟩

set_option maxRecDepth 10000 in
set_option maxHeartbeats 4000000 in
theorem down_calls {w : World} {g b c m : Nat} {x y : Value} {T : TypeId} {l : List Int} (h : Hq w g (.slice (some ⟨b, 0, none⟩) m c) x y T l) (hm : m = l.length) (n : Nat) (hn : n ≤ l.length) (hl : l.length ≤ 1000) (hI : DownInv l n 0) :
    Calls Try.prog 15 #[.iface 41 (.pointer (some ⟨g, 0, none⟩)), .int .i64 0, .int .i64 n] w fun e w' => ∃ bo, e = .returned (.bool bo) ∧ ∃ l', Hq w' g (.slice (some ⟨b, 0, none⟩) m c) x y T l' ∧ l'.length = l.length ∧ HeapN l' n ∧ l'.Perm l ∧ (∀ k, n ≤ k → l'.getD k 0 = l.getD k 0) ∧ Fr [b] w w' := by
  obtain ⟨wo, rfl⟩ : ∃ wo : World, wo = w := ⟨_, rfl⟩
  go_enter Try.func15, Try.ntmps15
  go_wp2
  go_loopw [7, 8, 9, 10] (fun u _ _ _ wr => ∃ (i : Nat) (d : List Int), i ≤ n ∧ u = .int .i64 i ∧ Hq wr g (.slice (some ⟨b, 0, none⟩) m c) x y T d ∧ d.length = l.length ∧ Hid (DownInv d n i) ∧ Hid (d.Perm l) ∧ Hid (∀ k, n ≤ k → d.getD k 0 = l.getD k 0) ∧ Hid (Fr [b] wo wr)) (fun u _ _ _ _ => n - (intOf u).toNat)
  case atStart => exact ⟨0, l, by omega, rfl, h, rfl, hI, List.Perm.refl _, fun _ _ => rfl, Fr.refl _ _⟩
  case round =>
    clear h hI
    obtain ⟨i, d, hin, rfl, hQ, hdl, HI, HP, HK, HF⟩ := hrel
    have hmd : m = d.length := by rw [hdl]; exact hm
    have HMD : Hid _ := hmd
    have hdl2 : d.length ≤ 1000 := by omega
    have HDL : Hid (d.length = l.length) := hdl
    clear hm hdl hmd
    have q1 : IntKind.i64.wrap (2 * (i : Int)) = 2 * i := IntWalk.i64_in _ (by omega)
    have q2 : IntKind.i64.wrap (2 * (i : Int) + 1) = 2 * i + 1 := IntWalk.i64_in _ (by omega)
    have q3 : IntKind.i64.wrap (2 * (i : Int) + 1 + 1) = 2 * i + 1 + 1 := IntWalk.i64_in _ (by omega)
    have hml := fun q => meth_less (W := wr.drewN q) (g := g) (v := .slice (some ⟨b, 0, none⟩) m c) (cell_at hQ.top 0)
    have hml0 := meth_less (W := wr) (g := g) (v := .slice (some ⟨b, 0, none⟩) m c) (cell_at hQ.top 0)
    have hms := fun q => meth_swap (W := wr.drewN q) (g := g) (v := .slice (some ⟨b, 0, none⟩) m c) (cell_at hQ.top 0)
    by_cases hc : n ≤ 2 * i + 1
    · have t1 : decide (2 * (i : Int) + 1 ≥ (n : Int)) = true := by simp; omega
      have HH : Hid _ := down_none HI.out hc
      clear hc
      go_wp2
      go_ret
      exact ⟨_, rfl, d, hQ, HDL.out, HH.out, HP.out, HK.out, HF.out⟩
    · have t1 : decide (2 * (i : Int) + 1 ≥ (n : Int)) = false := by simp; omega
      have t2 : decide (2 * (i : Int) + 1 < 0) = false := by simp; omega
      have hdn : n ≤ d.length := by have := HDL.out; omega
      by_cases hc2 : 2 * i + 2 < n
      · have t3 : decide (2 * (i : Int) + 1 + 1 < (n : Int)) = true := by simp; omega
        cases hb1 : decide (d.getD (2 * i + 2) 0 < d.getD (2 * i + 1) 0)
        · have hmin : ∀ k, k < n → (k = 2 * i + 1 ∨ k = 2 * i + 2) → d.getD (2 * i + 1) 0 ≤ d.getD k 0 := by
            rintro k hk (rfl | rfl)
            · exact Int.le_refl _
            · have := of_decide_eq_false hb1; omega
          have HMIN : Hid _ := hmin
          clear hmin
          cases hb2 : decide (d.getD (2 * i + 1) 0 < d.getD i 0)
          · have HH : Hid (HeapN d n) := down_stop HI.out HMIN.out (by have := of_decide_eq_false hb2; omega)
            go_wp2_with (first
              | (go_at_call 33; with_reducible refine (sless_w hQ HMD.out (2 * i + 2) (2 * i + 1) (2 * (i : Int) + 1 + 1) (2 * (i : Int) + 1) (by omega) (by omega) (by omega) (by omega) _ hb1).mono ?_; rintro e w1 ⟨rfl, q, rfl⟩; have hmq := hml q)
              | (go_at_call 33; refine (sless_w (hQ.keep (below_draws _ _ q)) HMD.out (2 * i + 1) i (2 * (i : Int) + 1) i (by omega) rfl (by omega) (by omega) _ hb2).mono ?_; rintro e w2 ⟨rfl, q', rfl⟩; have hmq2 := hms (q + q')))
            go_ret
            exact ⟨_, rfl, d, hQ.keep (below_draws _ _ _), HDL.out, HH.out, HP.out, HK.out, HF.out.drewN _⟩
          · have HH : Hid _ := down_step HI.out (j := 2 * i + 1) (by omega) (by omega) (by omega) (by omega) HMIN.out (of_decide_eq_true hb2)
            have HSP : Hid _ := (swap_perm (l := d) (i := i) (j := 2 * i + 1) (by omega) (by omega)).trans HP.out
            have HSK : Hid (∀ k, n ≤ k → (swapL d i (2 * i + 1)).getD k 0 = l.getD k 0) := fun k hk => by rw [swap_at (by omega) (by omega), if_neg (by omega), if_neg (by omega)]; exact HK.out k hk
            go_wp2_with (first
              | (go_at_call 33; with_reducible refine (sless_w hQ HMD.out (2 * i + 2) (2 * i + 1) (2 * (i : Int) + 1 + 1) (2 * (i : Int) + 1) (by omega) (by omega) (by omega) (by omega) _ hb1).mono ?_; rintro e w1 ⟨rfl, q, rfl⟩; have hmq := hml q)
              | (go_at_call 33; refine (sless_w (hQ.keep (below_draws _ _ q)) HMD.out (2 * i + 1) i (2 * (i : Int) + 1) i (by omega) rfl (by omega) (by omega) _ hb2).mono ?_; rintro e w2 ⟨rfl, q', rfl⟩; have hmq2 := hms (q + q'))
              | (go_at_call 35; refine (hswap_w (hQ.keep (below_draws _ _ _)) HMD.out i (2 * i + 1) i (2 * (i : Int) + 1) rfl (by omega) (by omega) (by omega)).mono ?_; rintro e w3 ⟨rfl, hQ3, hf3⟩))
            go_roundw
            case rel => exact ⟨2 * i + 1, _, by omega, by go_num, hQ3, by rw [swap_len]; exact HDL.out, HH, HSP, HSK, (HF.out.drewN _).trans hf3 (Grows.refl _ _)⟩
            case measure => simp [intOf]; omega
        · have hmin : ∀ k, k < n → (k = 2 * i + 1 ∨ k = 2 * i + 2) → d.getD (2 * i + 2) 0 ≤ d.getD k 0 := by
            rintro k hk (rfl | rfl)
            · have := of_decide_eq_true hb1; omega
            · exact Int.le_refl _
          have HMIN : Hid _ := hmin
          clear hmin
          cases hb2 : decide (d.getD (2 * i + 2) 0 < d.getD i 0)
          · have HH : Hid (HeapN d n) := down_stop HI.out HMIN.out (by have := of_decide_eq_false hb2; omega)
            go_wp2_with (first
              | (go_at_call 33; with_reducible refine (sless_w hQ HMD.out (2 * i + 2) (2 * i + 1) (2 * (i : Int) + 1 + 1) (2 * (i : Int) + 1) (by omega) (by omega) (by omega) (by omega) _ hb1).mono ?_; rintro e w1 ⟨rfl, q, rfl⟩; have hmq := hml q)
              | (go_at_call 33; refine (sless_w (hQ.keep (below_draws _ _ q)) HMD.out (2 * i + 2) i (2 * (i : Int) + 1 + 1) i (by omega) rfl (by omega) (by omega) _ hb2).mono ?_; rintro e w2 ⟨rfl, q', rfl⟩; have hmq2 := hms (q + q')))
            go_ret
            exact ⟨_, rfl, d, hQ.keep (below_draws _ _ _), HDL.out, HH.out, HP.out, HK.out, HF.out.drewN _⟩
          · have HH : Hid _ := down_step HI.out (j := 2 * i + 2) (by omega) (by omega) (by omega) (by omega) HMIN.out (of_decide_eq_true hb2)
            have HSP : Hid _ := (swap_perm (l := d) (i := i) (j := 2 * i + 2) (by omega) (by omega)).trans HP.out
            have HSK : Hid (∀ k, n ≤ k → (swapL d i (2 * i + 2)).getD k 0 = l.getD k 0) := fun k hk => by rw [swap_at (by omega) (by omega), if_neg (by omega), if_neg (by omega)]; exact HK.out k hk
            go_wp2_with (first
              | (go_at_call 33; with_reducible refine (sless_w hQ HMD.out (2 * i + 2) (2 * i + 1) (2 * (i : Int) + 1 + 1) (2 * (i : Int) + 1) (by omega) (by omega) (by omega) (by omega) _ hb1).mono ?_; rintro e w1 ⟨rfl, q, rfl⟩; have hmq := hml q)
              | (go_at_call 33; refine (sless_w (hQ.keep (below_draws _ _ q)) HMD.out (2 * i + 2) i (2 * (i : Int) + 1 + 1) i (by omega) rfl (by omega) (by omega) _ hb2).mono ?_; rintro e w2 ⟨rfl, q', rfl⟩; have hmq2 := hms (q + q'))
              | (go_at_call 35; refine (hswap_w (hQ.keep (below_draws _ _ _)) HMD.out i (2 * i + 2) i (2 * (i : Int) + 1 + 1) rfl (by omega) (by omega) (by omega)).mono ?_; rintro e w3 ⟨rfl, hQ3, hf3⟩))
            go_roundw
            case rel => exact ⟨2 * i + 2, _, by omega, by go_num, hQ3, by rw [swap_len]; exact HDL.out, HH, HSP, HSK, (HF.out.drewN _).trans hf3 (Grows.refl _ _)⟩
            case measure => simp [intOf]; omega
      · have t3 : decide (2 * (i : Int) + 1 + 1 < (n : Int)) = false := by simp; omega
        have hmin : ∀ k, k < n → (k = 2 * i + 1 ∨ k = 2 * i + 2) → d.getD (2 * i + 1) 0 ≤ d.getD k 0 := by
          rintro k hk (rfl | rfl)
          · exact Int.le_refl _
          · omega
        have HMIN : Hid _ := hmin
        clear hmin
        cases hb2 : decide (d.getD (2 * i + 1) 0 < d.getD i 0)
        · have HH : Hid (HeapN d n) := down_stop HI.out HMIN.out (by have := of_decide_eq_false hb2; omega)
          go_wp2_with (first
            | (go_at_call 33; refine (sless_w hQ HMD.out (2 * i + 1) i (2 * (i : Int) + 1) i (by omega) rfl (by omega) (by omega) _ hb2).mono ?_; rintro e w2 ⟨rfl, q', rfl⟩; have hmq2 := hms q'))
          go_ret
          exact ⟨_, rfl, d, hQ.keep (below_draws _ _ _), HDL.out, HH.out, HP.out, HK.out, HF.out.drewN _⟩
        · have HH : Hid _ := down_step HI.out (j := 2 * i + 1) (by omega) (by omega) (by omega) (by omega) HMIN.out (of_decide_eq_true hb2)
          have HSP : Hid _ := (swap_perm (l := d) (i := i) (j := 2 * i + 1) (by omega) (by omega)).trans HP.out
          have HSK : Hid (∀ k, n ≤ k → (swapL d i (2 * i + 1)).getD k 0 = l.getD k 0) := fun k hk => by rw [swap_at (by omega) (by omega), if_neg (by omega), if_neg (by omega)]; exact HK.out k hk
          go_wp2_with (first
            | (go_at_call 33; refine (sless_w hQ HMD.out (2 * i + 1) i (2 * (i : Int) + 1) i (by omega) rfl (by omega) (by omega) _ hb2).mono ?_; rintro e w2 ⟨rfl, q', rfl⟩; have hmq2 := hms q')
            | (go_at_call 35; refine (hswap_w (hQ.keep (below_draws _ _ _)) HMD.out i (2 * i + 1) i (2 * (i : Int) + 1) rfl (by omega) (by omega) (by omega)).mono ?_; rintro e w3 ⟨rfl, hQ3, hf3⟩))
          go_roundw
          case rel => exact ⟨2 * i + 1, _, by omega, by go_num, hQ3, by rw [swap_len]; exact HDL.out, HH, HSP, HSK, (HF.out.drewN _).trans hf3 (Grows.refl _ _)⟩
          case measure => simp [intOf]; omega
end Go.Proofs.Ytekimoblmcbjlaa
