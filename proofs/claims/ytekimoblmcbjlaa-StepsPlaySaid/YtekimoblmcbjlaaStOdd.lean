/-
  Chapter 24's example; the walk of the law 'StepsOdd'.
-/
import Derived.Test.YtekimoblmcbjlaaStNext
import Derived.OpenShut
namespace Go.Proofs.Ytekimoblmcbjlaa
open Go.RowKit

theorem Mc.far {w w' : World} {C g : Nat} {S : List Nat} {H U : List Int} {odd : Nat} (_ : Mc w g S H U odd) (hS : ∀ k ∈ S, C ≤ k) {w0 : World} (hb : Below C w0 w) (hC : C ≤ w.heap.size) (hf : Fr S w w') : Below C w0 w' := Fr.below hb hf hS hC
set_option maxRecDepth 10000 in
theorem awake24 (w : World) : Calls Try.prog 7 #[] w fun e w' => e = .returned (.bool true) ∧ Below w.heap.size w w' := by
  have HN := snew_calls 3 w
  rw [show (min (max (3 : Int) 0) 64).toNat = 3 from rfl] at HN
  go_enter Try.func7, Try.ntmps7
  go_wp2_with (first
    | (go_at_call 8; refine HN.mono ?_; rintro e w1 ⟨g, S, rfl, h1, hS, hb1⟩)
    | (go_at_call 9; refine (next_odd h1 7 (by omega) (by rw [upTo_mem]; omega) (by decide) (by omega)).mono ?_; rintro e w2 ⟨z, H', rfl, hz, hmin, h2, hf2⟩; have hz0 : z = 0 := (by have := hmin 0 (by rw [upTo_mem]; omega); have := upTo_mem.1 hz; omega); subst hz0; have hll := less_len h1.facts.1 hz; rw [upTo_len] at hll)
    | (go_at_call 10; refine (left_calls h2).mono ?_; rintro e w3 ⟨rfl, rfl⟩; rw [show (less (upTo 3) 0).length = 2 by omega])
    | (go_at_call 11; refine (odd_calls h2).mono ?_; rintro e w3 ⟨rfl, rfl⟩))
  go_ret
  exact ⟨rfl, h1.far hS hb1 hb1.size hf2⟩

set_option maxRecDepth 100000 in
set_option maxHeartbeats 4000000 in
theorem odd_walk (many : Int) (wm : (Lit.int .u8 many).wf = true) {a : Option Addr} {l cap : Nat} {bs : List UInt8} {w : World} (HB : Bytes w a l cap bs) :
    Calls Try.prog 6 #[.int .u8 many, .slice a l cap] w fun e w' => e = .returned (.bool true) ∧ Below w.heap.size w w' := by
  have hlen := HB.len
  subst hlen
  have hm := bounds_u8 wm
  by_cases h100 : bs.length > 100
  · have d1 : decide ((bs.length : Int) > 100) = true := by simp; omega
    clear h100
    go_enter Try.func6, Try.ntmps6
    go_wp2_with (go_at_call 7; refine (awake24 _).mono ?_; rintro e w1 ⟨rfl, hb1⟩)
    go_ret
    exact ⟨rfl, hb1⟩
  have d1 : decide ((bs.length : Int) > 100) = false := by simp; omega
  obtain ⟨n, hn, hn2⟩ : ∃ n : Nat, many % 40 = (n : Int) ∧ n < 40 := ⟨(many % 40).toNat, by omega, by omega⟩
  have q0 : IntKind.i64.wrap (n : Int) = n := IntWalk.i64_in _ (by omega)
  have HN := snew_calls (n : Int)
  rw [show (min (max (n : Int) 0) 64).toNat = n by omega] at HN
  go_enter Try.func6, Try.ntmps6
  go_wp2_with (first
    | (go_at_call 7; refine (awake24 _).mono ?_; rintro e w1 ⟨rfl, hb1⟩)
    | (go_at_call 8; (try rw [hn]); refine (HN _).mono ?_; rintro e w2 ⟨g, S, rfl, h2, hS, hb2⟩; have hb3 := hb1.trans (hb2.mono hb1.size)))
  clear hm hn HN
  go_loopw [7, 8, 10, 11, 12, 13, 26] (fun ri to _ _ _ _ i wr => ∃ (k told right odd : Nat) (S : List Nat) (H U : List Int), k ≤ bs.length ∧ i = .int .i64 k ∧ to = .int .i64 told ∧ ri = .int .i64 right ∧ Mc wr g S H U odd ∧ Hid (told = min n k ∧ U.length + told = n ∧ odd + right = told) ∧ Hid (∀ x ∈ S, w.heap.size ≤ x) ∧ Below w.heap.size w wr) (fun _ _ _ _ _ _ i _ => bs.length - (intOf i).toNat)
  case atStart => exact ⟨0, 0, 0, 0, S, _, _, by omega, rfl, rfl, rfl, h2, ⟨by omega, by rw [upTo_len, Nat.add_zero], rfl⟩, fun x hx => Nat.le_trans hb1.size (hS x hx), hb3⟩
  case round =>
    clear h2 hS hb1 hb2 hb3
    obtain ⟨k, told, right, odd, S, H, U, hk, rfl, rfl, rfl, hM, HC, HS, hb⟩ := hrel
    have HT : Hid (told ≤ n ∧ odd ≤ n ∧ right ≤ told) := by have := HC.out; exact ⟨by omega, by omega, by omega⟩
    by_cases hlt : k < bs.length
    · obtain ⟨b', off', rfl, k0⟩ := (HB.keep hb).at k hlt
      obtain ⟨x, hx⟩ : ∃ x, x = (bs[k].toNat : Int) := ⟨_, rfl⟩
      have hxb : 0 ≤ x ∧ x < 256 := by have := bs[k].toNat_lt; omega
      rw [← hx] at k0
      clear hx
      obtain ⟨y, hy, hy2⟩ : ∃ y : Nat, x % 50 = (y : Int) ∧ y < 50 := ⟨(x % 50).toNat, by omega, by omega⟩
      have q1 : IntKind.i64.wrap (y : Int) = y := IntWalk.i64_in _ (by omega)
      have q2 : IntKind.i64.wrap ((y : Int) - 3) = y - 3 := IntWalk.i64_in _ (by omega)
      have q3 : IntKind.i64.wrap ((told : Int) + 1) = told + 1 := IntWalk.i64_in _ (by have := HT.out; omega)
      have q4 : IntKind.i64.wrap ((right : Int) + 1) = right + 1 := IntWalk.i64_in _ (by have := HT.out; omega)
      by_cases hU : U = []
      · subst hU
        go_wp2_with (go_at_call 9; refine (next_none hM _).mono ?_; rintro e w4 ⟨rfl, rfl⟩)
        go_roundw
        case rel => exact ⟨k + 1, told, right, odd, S, H, [], by omega, by go_num, rfl, rfl, hM, by have := HC.out; simp only [List.length_nil] at this; exact ⟨by omega, by simp only [List.length_nil]; omega, by omega⟩, HS, hb⟩
        case measure => simp [intOf]; omega
      · by_cases hp : ((y : Int) - 3) ∈ U
        · have hll := less_len hM.facts.1 hp
          have HLL : Hid _ := hll
          clear hll
          go_wp2_with (go_at_call 9; refine (next_right hM _ hp).mono ?_; rintro e w4 ⟨rfl, hM4, hf4⟩)
          go_roundw
          case rel => exact ⟨k + 1, told + 1, right + 1, odd, S, H, _, by omega, by go_num, by go_num, by go_num, hM4, by have := HC.out; have := HLL.out; exact ⟨by omega, by omega, by omega⟩, HS, Fr.below hb hf4 HS.out hb.size⟩
          case measure => simp [intOf]; omega
        · go_wp2_with (go_at_call 9; refine (next_odd hM ((y : Int) - 3) (by omega) hp hU (by have := HT.out; omega)).mono ?_; rintro e w4 ⟨z, H', rfl, hz, hmin, hM4, hf4⟩; have b0 : (z == (y : Int) - 3) = false := (by rw [beq_eq_false_iff_ne]; rintro rfl; exact hp hz); have hll := less_len hM.facts.1 hz; have HLL : Hid _ := hll; clear hll hmin hz)
          go_roundw
          case rel => exact ⟨k + 1, told + 1, right, odd + 1, S, H', _, by omega, by go_num, by go_num, rfl, hM4, by have := HC.out; have := HLL.out; exact ⟨by omega, by omega, by omega⟩, HS, Fr.below hb hf4 HS.out hb.size⟩
          case measure => simp [intOf]; omega
    · obtain rfl : k = bs.length := by omega
      have hc := HC.out
      rcases (show (bs.length < n ∧ told = bs.length) ∨ (¬ bs.length < n ∧ told = n) by omega) with ⟨hlt2, rfl⟩ | ⟨hlt2, rfl⟩
      · have q1 : IntKind.i64.wrap ((n : Int) - (bs.length : Int)) = (U.length : Int) := by rw [IntWalk.i64_in _ (by omega)]; omega
        have q2 : IntKind.i64.wrap ((bs.length : Int) - (right : Int)) = (odd : Int) := by rw [IntWalk.i64_in _ (by omega)]; omega
        clear hc HC HT
        go_wp2_with (first
          | (go_at_call 10; refine (left_calls hM).mono ?_; rintro e w8 ⟨rfl, rfl⟩)
          | (go_at_call 11; refine (odd_calls hM).mono ?_; rintro e w8 ⟨rfl, rfl⟩))
        go_ret
        exact ⟨rfl, hb⟩
      · have hu0 : U.length = 0 := by omega
        have q2 : IntKind.i64.wrap ((told : Int) - (right : Int)) = (odd : Int) := by rw [IntWalk.i64_in _ (by omega)]; omega
        clear hc HC HT
        go_wp2_with (first
          | (go_at_call 10; refine (left_calls hM).mono ?_; rintro e w8 ⟨rfl, rfl⟩; rw [hu0])
          | (go_at_call 11; refine (odd_calls hM).mono ?_; rintro e w8 ⟨rfl, rfl⟩))
        go_ret
        exact ⟨rfl, hb⟩
end Go.Proofs.Ytekimoblmcbjlaa
