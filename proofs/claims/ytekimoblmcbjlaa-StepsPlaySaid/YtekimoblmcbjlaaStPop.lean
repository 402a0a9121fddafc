/-
  heap.Pop: the least.
-/
import Derived.Test.YtekimoblmcbjlaaStDown
namespace Go.Proofs.Ytekimoblmcbjlaa
open Go.RowKit

theorem own_front {w : World} {B g : Nat} {e : TypeId} {size n cap : Nat} {xs : List Value} (h : w.ownsRow B e size (.slice (some ⟨g, 0, none⟩) n cap) n xs) (k : Nat) (hk : k ≤ n) :
    w.ownsRow B e size (.slice (some ⟨g, 0, none⟩) k cap) k (xs.take (k * size)) := by
  obtain ⟨h1, h2⟩ := h
  have hm : k * size ≤ n * size := Nat.mul_le_mul_right _ hk
  rcases h2 with ⟨h0, _⟩ | ⟨g', cap', cur, hv, hg, hh, hn, hcap, hsz, htake⟩
  · cases h0
  · cases hv
    refine ⟨by rw [List.length_take, h1, Nat.min_eq_left hm], .inr ⟨g, cap, cur, rfl, hg, hh, by omega, hcap, hsz, ?_⟩⟩
    rw [← htake, List.take_take, Nat.min_eq_left hm]

set_option maxRecDepth 10000 in
set_option maxHeartbeats 1000000 in
theorem tpop_calls {w : World} {g b c m : Nat} {x y : Value} {T : TypeId} {l : List Int} {z : Int} (h : Hq w g (.slice (some ⟨b, 0, none⟩) m c) x y T (l ++ [z])) (hm : m = l.length + 1) (hl : l.length ≤ 1000) :
    Calls Try.prog 36 #[.pointer (some ⟨g, 0, none⟩)] w fun e w' => e = .returned (.iface 3 (.int .i64 z)) ∧ Hq w' g (.slice (some ⟨b, 0, none⟩) l.length c) x y T l ∧ Fr [g] w w' := by
  obtain ⟨a0, c0, e0, hI⟩ := h.own.ints
  have e1 : a0 = some ⟨b, 0, none⟩ ∧ m = (l ++ [z]).length ∧ c = c0 := by cases e0; exact ⟨rfl, rfl, rfl⟩
  obtain ⟨rfl, _, rfl⟩ := e1
  have hcap := Sl.le hI
  have hbig := Sl.big hI
  have k1 := hI.cell l.length (by simp)
  rw [Nat.zero_add] at k1
  simp only [List.getElem_append_right (Nat.le_refl _), Nat.sub_self, List.getElem_cons_zero] at k1
  have htop := h.top
  rw [hm] at htop
  have cc := cell_at htop 0
  have f1 := free_at htop 0
  obtain ⟨k, hk⟩ : ∃ k, l.length = k := ⟨_, rfl⟩
  have hown : OwnI w 0 (.slice (some ⟨b, 0, none⟩) k c) l := by
    have h0 := h.own
    unfold OwnI at h0 ⊢
    simp only [List.length_append, List.length_singleton, hk] at h0
    rw [hm, hk] at h0
    have := own_front h0 k (by omega)
    rw [hk]
    simpa [List.take_left', hk] using this
  have HO : Hid _ := hown
  simp only [List.length_append, List.length_singleton, hk] at hcap
  rw [hk] at k1 cc htop ⊢
  have q1 : IntKind.i64.wrap (k : Int) = k := IntWalk.i64_in _ (by omega)
  have b1 : (k : Int) < (k : Int) + 1 := by omega
  have b2 : (0 : Int) ≤ (k : Int) := by omega
  have b3 : (k : Int) ≤ (c : Int) := by omega
  have HA := h.apart
  have HT : Hid _ := htop
  clear hown htop hI e0 h hm hk
  go_enter Try.func36, Try.ntmps36
  go_wp2
  go_quiet (fail)
  go_wp2
  go_region
  go_wp2
  go_ret
  refine ⟨rfl, ⟨?_, ?_, HA⟩, ?_⟩
  · exact heap_set (a := ⟨g, 0, none⟩) (show (w.drewN _).heap[g]? = some _ from HT.out) rfl _
  · refine own_fr (own_keep HO.out (below_draws _ _ _)) (Fr.set (Fr.refl [g] _) _ (.inl (by simp)) _) ?_
    intro j hj hm
    simp at hm; subst hm
    exact HA hj
  · exact Fr.set ((Fr.refl [g] w).drewN _) _ (.inl (by simp)) _

theorem heap_take {l : List Int} {n : Nat} (h : HeapN l n) : HeapN (l.take n) n := by
  intro k h0 hk
  have e : ∀ j, j < n → (l.take n).getD j 0 = l.getD j 0 := by
    intro j hj
    rw [List.getD_eq_getElem?_getD, List.getElem?_take_of_lt hj, ← List.getD_eq_getElem?_getD]
  rw [e _ (by omega), e _ hk]
  exact h k h0 hk

theorem pop_split {l2 : List Int} {n : Nat} {z : Int} (h1 : l2.length = n + 1) (h2 : l2.getD n 0 = z) : l2 = l2.take n ++ [z] := by
  have h3 : n < l2.length := by omega
  rw [← h2, show l2.getD n 0 = l2[n] by simp [h3], ← List.take_succ_eq_append_getElem h3, List.take_of_length_le (by omega)]

set_option maxRecDepth 10000 in
set_option maxHeartbeats 1000000 in
theorem hpop_calls {w : World} {g : Nat} {v x y : Value} {T : TypeId} {l : List Int} (h : Hq w g v x y T l) (hne : l ≠ []) (hH : HeapN l l.length) (hl : l.length ≤ 1000) :
    Calls Try.prog 13 #[.iface 41 (.pointer (some ⟨g, 0, none⟩))] w fun e w' => ∃ z, e = .returned (.iface 3 (.int .i64 z)) ∧ z ∈ l ∧ (∀ u ∈ l, z ≤ u) ∧ ∃ v' l', Hq w' g v' x y T l' ∧ HeapN l' l'.length ∧ l.Perm (z :: l') ∧ v'.ownBlock = v.ownBlock ∧ Fr (g :: v.ownBlock.toList) w w' := by
  obtain ⟨n, hn⟩ : ∃ n, l.length = n + 1 := ⟨l.length - 1, by have := List.length_pos_iff.2 hne; omega⟩
  obtain ⟨b, c, rfl, _, _⟩ := own_some h.own (by simpa using hne)
  rw [hn] at h
  have hmp := fun W => meth_pop W g
  have hml := meth_len (W := w) (g := g) (cell_at h.top 0)
  have hms := meth_swap (W := w) (g := g) (cell_at h.top 0)
  have q1 : IntKind.i64.wrap (n : Int) = n := IntWalk.i64_in _ (by omega)
  rw [hn] at hH
  have hDI := pop_start hH (by omega)
  have HZ : (∀ u ∈ l, l.getD 0 0 ≤ u) ∧ l.getD 0 0 ∈ l := by
    refine ⟨fun u hu => ?_, ?_⟩
    · obtain ⟨i, hi, rfl⟩ := List.getElem_of_mem hu
      have := heap_min hH i (by omega)
      rwa [show l.getD i 0 = l[i] by simp [hi]] at this
    · rw [show l.getD 0 0 = l[0]'(by omega) by simp [show 0 < l.length by omega]]; exact List.getElem_mem _
  obtain ⟨z, hz⟩ : ∃ z, l.getD 0 0 = z := ⟨_, rfl⟩
  rw [hz] at HZ
  have HZ1 : Hid _ := HZ
  clear HZ
  have HZ0 : Hid (l.getD 0 0 = z) := hz
  clear hz
  have HN : Hid _ := hn
  have HDI : Hid _ := hDI
  clear hH hne hDI
  go_enter Try.func13, Try.ntmps13
  go_wp2_with (first
    | (go_at_call 32; refine (slen_calls _ _ _ _).mono ?_; rintro e w1 ⟨rfl, rfl⟩)
    | (go_at_call 35; refine (hswap_w h (by rw [HN.out]) 0 n 0 (n : Int) rfl rfl (by omega) (by omega)).mono ?_; rintro e w2 ⟨rfl, h2, hf2⟩)
    | (go_at_call 15; refine (down_calls h2 (by rw [swap_len, HN.out]) n (by rw [swap_len]; omega) (by rw [swap_len]; omega) HDI.out).mono ?_; rintro e w3 ⟨bo, rfl, l2, h3, hl2, hh2, hp2, hk2, hf3⟩)
    | (go_at_call 36; have hs := pop_split (z := z) (n := n) (l2 := l2) (by rw [hl2, swap_len]; exact HN.out) (by rw [hk2 n (Nat.le_refl _), swap_at (by omega) (by omega), if_pos rfl]; exact HZ0.out); have htl : (l2.take n).length = n := (by rw [List.length_take, hl2, swap_len]; omega); have h3' := h3; rw [hs] at h3'; refine (tpop_calls h3' (by rw [htl]) (by omega)).mono ?_; rintro e w4 ⟨rfl, h4, hf4⟩))
  go_ret
  refine ⟨_, rfl, HZ1.out.2, HZ1.out.1, _, _, h4, by rw [htl]; exact heap_take hh2, ?_, rfl, ?_⟩
  · refine ((hp2.trans (swap_perm (by omega) (by omega))).symm).trans ?_
    conv => lhs; rw [hs]
    exact List.perm_append_singleton _ _
  · have m : ∀ {S : List Nat}, (∀ k ∈ S, k = g ∨ k = b) → ∀ {a c : World}, Fr S a c → Fr (g :: [b]) a c := fun hS _ _ hf => hf.mono (fun k hk => .inl (by simpa using hS k hk))
    exact ((m (by simp) hf2).trans (m (by simp) hf3) (Grows.refl _ _)).trans (m (by simp) hf4) (Grows.refl _ _)
end Go.Proofs.Ytekimoblmcbjlaa
