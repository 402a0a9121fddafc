/-
  The arena: a block's bytes; bytes written into a block.
-/
import Derived.Test.YtakobldhjndeiaaArTake
import Derived.Laws.CopyOwn
namespace Go.Proofs.Ytakobldhjndeiaa
open Go.RowKit

theorem Arx.block {w : World} {g gb mb : Nat} {fv : Value} {bl : List (Option Nat)} {free U : List Int} {most : Int} {mem : Nat → List UInt8} (h : Arx w g gb mb fv bl free U most mem) {n : Nat} (hn : (n : Int) ∈ U) :
    ∃ b, bl[n]? = some (some b) ∧ n < bl.length ∧ n < 4096 ∧ w.cell? ⟨gb, n, none⟩ = some (.slice (some ⟨b, 0, none⟩) 64 64) ∧ Bytes w (some ⟨b, 0, none⟩) 64 64 (mem n) ∧ (mem n).length = 64 := by
  obtain ⟨_, b, hb⟩ := (h.used _).1 hn
  rw [Int.toNat_natCast] at hb
  obtain ⟨h1, h2⟩ := h.mems n b hb
  have hl := (List.getElem?_eq_some_iff.1 hb).1
  refine ⟨b, hb, hl, Nat.lt_of_lt_of_le hl h.len, ?_, Bytes.of_heap h1 h2.symm (by omega) (by decide), h2⟩
  rw [cell_at h.row]
  simp [rowOf, hb, cellOf]

set_option maxRecDepth 10000 in
theorem bytes_ok {w : World} {g : Nat} {S : List Nat} {r : Nat} {free U : List Int} {most : Int} {mem : Nat → List UInt8} (h : Ar w g S r free U most mem) (n : Nat) (hn : (n : Int) ∈ U) :
    Calls Try.prog 27 #[.pointer (some ⟨g, 0, none⟩), .int .i64 n] w fun e w' => ∃ v, e = .returned (.tuple #[v, .int .i64 0]) ∧ OwnB w' w.heap.size v (mem n) ∧ Below w.heap.size w w' := by
  obtain ⟨gb, mb, fv, bl, h, rfl, rfl⟩ := h
  obtain ⟨b, hb, hl, h4, k0, hB, h64⟩ := h.block hn
  have c0 := cell_at (heap_keep h.top (.cells #[] 5)) 0
  have c2 := cell_at h.top 2
  have hlk := h.look n (by omega) (u := true) (by simp [hn])
  have k1 : (w.alloc (.cells #[] 5)).cell? ⟨gb, n, none⟩ = some (.slice (some ⟨b, 0, none⟩) 64 64) := by
    rw [cell_at (heap_keep h.row _), ← cell_at h.row]; exact k0
  have n1 : (n : Int) < (bl.length : Int) := by omega
  have n2 : (0 : Int) ≤ (n : Int) := by omega
  obtain ⟨X, hX⟩ : ∃ X, mem n = X := ⟨_, rfl⟩
  rw [hX] at hB h64 ⊢
  clear hX
  go_enter Try.func27, Try.ntmps27
  go_wp2_with (at_builtin; refine app_bytes rfl _ _ rfl rfl (OwnB.empty w w.heap.size (Nat.le_refl _)) rfl (hB.keep ((Below.refl _ _).alloc (Nat.le_refl _) _)) (by simp) (by simp) ?_; intro v1 w1 ho1 hg1; rw [List.nil_append] at ho1; have hb1 := OwnB.below (OwnB.empty w w.heap.size (Nat.le_refl _)) ((Below.refl _ _).alloc (Nat.le_refl _) _) hg1 (Nat.le_refl _) ((Below.refl _ _).alloc (Nat.le_refl _) (.cells #[] 5)).size)
  go_ret2
  exact ⟨_, rfl, ho1, hb1⟩

/-- 'copy' into a row of bytes that has room for all. -/
theorem copy_bytes {w : World} {ops : Array Oper} {rest : List Oper} {o : Oper} {a : Act} {Q : Exit → Act → World → Prop} (hgd : o.guard = none) (d s : Operand)
    (ho : o.op = .call { callee := .builtin .copy, args := #[d, s], argTypes := #[22, 22] }) {dp sp : Option Addr} {dLen dCap sLen sCap g off : Nat} {L xs : List UInt8}
    (hd : a.eval d = .slice dp dLen dCap) (hs : a.eval s = .slice sp sLen sCap) (hg : w.heap[g]? = some (.cells (bytesArr L) 5 (0, 0))) (hx : Bytes w sp sLen sCap xs) (hm : sLen ≤ dLen) (hfit : off + dLen ≤ L.length) (hpos : 0 < sLen → dp = some ⟨g, off, none⟩)
    (h : ∀ w' z, w'.heap[g]? = some (.cells (bytesArr (L.take off ++ (xs ++ L.drop (off + xs.length)))) 5 (0, 0)) → Fr [g] w w' → wpList Try.prog ops Q rest (a.put o.dst (.int .i64 z)) w') : wpList Try.prog ops Q (o :: rest) a w := by
  have hxl := hx.len
  subst hxl
  by_cases h0 : xs.length = 0
  · obtain rfl : xs = [] := List.eq_nil_of_length_eq_zero h0
    refine wpList_copy_nothing hgd d s _ _ ho 5 Try.underlying22 (by kernel_rfl) dp sp dLen dCap _ sCap hd hs (by simp) ?_
    exact h w 0 (by simpa using hg) (Fr.refl _ _)
  · obtain rfl := hpos (by omega)
    obtain ⟨b, o2, rfl, _⟩ := hx.at 0 (by omega)
    refine wpList_copy_own hgd d s _ _ ho 5 Try.underlying22 (by kernel_rfl) g off dLen dCap ⟨b, o2, none⟩ _ sCap hd hs (bytesArr L) _ hg (xs.map u8) (by rw [List.length_map]; exact (Nat.min_eq_left hm).symm) ?_ (by rw [bytesArr_size, List.length_map]; omega) (oneCell_u8 xs) ?_
    · intro j v hj
      have hjl : j < xs.length := by
        rcases Nat.lt_or_ge j xs.length with h | h
        · exact h
        · rw [List.getElem?_eq_none (by simpa using h)] at hj; cases hj
      rw [add_addr, hx.cell j hjl, ← hj]
      simp [hjl]
    · refine h _ _ ?_ ⟨rfl, rfl, rfl, by simp [World.setRow], fun k _ hk => setRow_other w g k _ (by simpa using hk)⟩
      rw [setRow_heap w g _ _ 5 _ hg]
      congr 2
      apply Array.toList_inj.1
      simp [bytesArr, List.map_take, List.map_drop]

/-- The block n holds other bytes. -/
theorem write_end {w Z : World} {g gb mb b : Nat} {fv : Value} {bl : List (Option Nat)} {free U : List Int} {most : Int} {mem : Nat → List UInt8} (h : Arx w g gb mb fv bl free U most mem) {n : Nat} (hb : bl[n]? = some (some b)) {L : List UInt8} (hL : L.length = 64)
    (h1 : Z.heap[b]? = some (.cells (bytesArr L) 5 (0, 0))) (hf : Fr [b] w Z) :
    Ar Z g (arBlocks g gb mb fv bl) bl.length free U most (fun i => if i = n then L else mem i) ∧ Fr (arBlocks g gb mb fv bl) w Z := by
  obtain ⟨a1, a2, a3, a4, a5⟩ := h.apart
  obtain ⟨h5, h6, h7, h8, h9⟩ := a5 n b hb
  refine ⟨⟨gb, mb, fv, bl, ⟨hf.heap h.top (by simpa using h5.symm), hf.heap h.row (by simpa using h6.symm), h.map.fr hf (by simpa using h7.symm), h.own.fr hf (fun k hk => by simpa using h9 k hk), ?_, h.inj, h.used, h.frees, h.nodup, h.count, h.most0, h.len⟩, rfl, rfl⟩, hf.mono ?_⟩
  · intro i c hc
    by_cases hi : i = n
    · subst hi
      rw [hb] at hc
      cases hc
      simp only [if_true]
      exact ⟨h1, hL⟩
    · rw [if_neg hi]
      obtain ⟨h2, h3⟩ := h.mems i c hc
      refine ⟨hf.heap h2 ?_, h3⟩
      simp only [List.mem_singleton]
      rintro rfl
      exact hi (h.inj i n _ hc hb)
  · intro k hk
    simp at hk; subst hk
    left
    simp only [arBlocks, List.mem_cons, List.mem_append, List.mem_filterMap]
    exact .inr (.inr (.inr (.inr ⟨some k, List.mem_of_getElem? hb, rfl⟩)))

set_option maxRecDepth 10000 in
set_option maxHeartbeats 1000000 in
theorem write_ok {w : World} {g : Nat} {S : List Nat} {r : Nat} {free U : List Int} {most : Int} {mem : Nat → List UInt8} (h : Ar w g S r free U most mem) (n : Nat) (hn : (n : Int) ∈ U) (i : Nat) {a : Option Addr} {l c : Nat} {xs : List UInt8} (hx : Bytes w a l c xs) (hi : i + l ≤ 64) :
    Calls Try.prog 26 #[.pointer (some ⟨g, 0, none⟩), .int .i64 n, .int .i64 i, .slice a l c] w fun e w' => e = .returned (.int .i64 0) ∧ Ar w' g S r free U most (fun j => if j = n then (mem n).take i ++ (xs ++ (mem n).drop (i + xs.length)) else mem j) ∧ Fr S w w' := by
  obtain ⟨gb, mb, fv, bl, h, rfl, rfl⟩ := h
  obtain ⟨b, hb, hl, h4, k0, hB, h64⟩ := h.block hn
  have h5 := (h.mems n b hb).1
  have c0 := cell_at h.top 0
  have c2 := cell_at h.top 2
  have hlk := h.look n (by omega) (u := true) (by simp [hn])
  have n1 : (n : Int) < (bl.length : Int) := by omega
  have n2 : (0 : Int) ≤ (n : Int) := by omega
  have hxl := hx.len
  obtain ⟨X, hX⟩ : ∃ X, mem n = X := ⟨_, rfl⟩
  rw [hX] at hB h64 h5 ⊢
  clear hX k0
  have k0 : w.cell? ⟨gb, n, none⟩ = some (.slice (some ⟨b, 0, none⟩) 64 64) := by rw [cell_at h.row]; simp [rowOf, hb, cellOf]
  have t1 : decide ((i : Int) < 0) = false := by simp
  have t2 : decide ((i : Int) > 64) = false := by simp; omega
  have q1 : IntKind.i64.wrap (64 - (i : Int)) = 64 - (i : Int) := IntWalk.i64_in _ (by omega)
  have t3 : decide ((l : Int) > 64 - (i : Int)) = false := by simp; omega
  have m1 : (0 : Int) ≤ (i : Int) := by omega
  have m2 : (i : Int) ≤ 64 := by omega
  have HB2 : Hid (bl[n]? = some (some b)) := hb
  clear hb
  by_cases hi64 : i = 64
  · subst hi64
    have hl0 : l = 0 := by omega
    subst hl0
    go_enter Try.func26, Try.ntmps26
    go_wp2_with (refine copy_bytes (g := b) (off := 64) rfl _ _ rfl rfl rfl h5 hx (Nat.zero_le _) ?_ (fun h => absurd h (Nat.lt_irrefl 0)) ?_; omega; intro w1 z1 hw1 hf1)
    go_ret
    refine ⟨rfl, write_end h HB2.out ?_ hw1 hf1⟩
    simp only [List.length_append, List.length_take, List.length_drop]; omega
  · have m5 : ¬ (64 = i) := by omega
    go_enter Try.func26, Try.ntmps26
    go_wp2_with (refine copy_bytes (g := b) (off := i) rfl _ _ rfl rfl rfl h5 hx ?_ ?_ (fun _ => rfl) ?_; omega; omega; intro w1 z1 hw1 hf1)
    go_ret
    refine ⟨rfl, write_end h HB2.out ?_ hw1 hf1⟩
    simp only [List.length_append, List.length_take, List.length_drop]; omega
end Go.Proofs.Ytakobldhjndeiaa
