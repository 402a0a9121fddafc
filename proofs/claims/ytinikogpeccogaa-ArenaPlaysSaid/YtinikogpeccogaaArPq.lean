/-
  The arena and the law's map side by side.
-/
import Derived.Test.YtinikogpeccogaaArMem
import Derived.Laws.CopyOwn
namespace Go.Proofs.Ytinikogpeccogaa
open Go.RowKit

def memPut (m : Nat → List UInt8) (n : Nat) (L : List UInt8) : Nat → List UInt8 := fun i => if i = n then L else m i
def Pq (w0 w : World) (g mB n : Nat) (U1 : List Int) (m1 : Nat → List UInt8) (U2 : List Int) (m2 : Nat → List UInt8) (f : Int → Nat) (most : Int) : Prop :=
  ∃ S fs, Ar w g S n fs U1 most m1 ∧ Mm w mB f U2 m2 ∧ (∀ k ∈ S, w0.heap.size ≤ k ∧ k ≠ mB ∧ ∀ z ∈ U2, f z ≠ k) ∧ w0.heap.size ≤ mB ∧ (∀ z ∈ U2, w0.heap.size ≤ f z) ∧ Below w0.heap.size w0 w

theorem Pq.keep {w0 w w' : World} {g mB n : Nat} {U1 U2 : List Int} {m1 m2 : Nat → List UInt8} {f : Int → Nat} {most : Int} (h : Pq w0 w g mB n U1 m1 U2 m2 f most) (hb : Below w.heap.size w w') : Pq w0 w' g mB n U1 m1 U2 m2 f most := by
  obtain ⟨S, fs, h1, h2, h3, h4, h5, h6⟩ := h
  exact ⟨S, fs, h1.keep hb, h2.keep hb, h3, h4, h5, h6.trans (hb.mono h6.size)⟩
theorem Pq.below {w0 w : World} {g mB n : Nat} {U1 U2 : List Int} {m1 m2 : Nat → List UInt8} {f : Int → Nat} {most : Int} (h : Pq w0 w g mB n U1 m1 U2 m2 f most) : Below w0.heap.size w0 w := by obtain ⟨_, _, _, _, _, _, _, h⟩ := h; exact h
theorem Pq.mm {w0 w : World} {g mB n : Nat} {U1 U2 : List Int} {m1 m2 : Nat → List UInt8} {f : Int → Nat} {most : Int} (h : Pq w0 w g mB n U1 m1 U2 m2 f most) : Mm w mB f U2 m2 := by obtain ⟨_, _, _, h, _⟩ := h; exact h
theorem Pq.facts {w0 w : World} {g mB n : Nat} {U1 U2 : List Int} {m1 m2 : Nat → List UInt8} {f : Int → Nat} {most : Int} (h : Pq w0 w g mB n U1 m1 U2 m2 f most) : U1.length ≤ n ∧ (∀ z ∈ U1, 0 ≤ z ∧ z < n) ∧ 0 ≤ most := by
  obtain ⟨_, _, h, _⟩ := h
  obtain ⟨_, h1, h2, _, h3, _⟩ := h.nodup
  exact ⟨by omega, h2, h3⟩
/-- The arena has changed. -/
theorem Pq.arena {w0 w w' : World} {g mB n : Nat} {U1' U2 : List Int} {m1' m2 : Nat → List UInt8} {f : Int → Nat} {most' : Int} {S S' : List Nat} {fs' : List Int} (h2 : Mm w mB f U2 m2) (h3 : ∀ k ∈ S, w0.heap.size ≤ k ∧ k ≠ mB ∧ ∀ z ∈ U2, f z ≠ k) (h4 : w0.heap.size ≤ mB) (h5 : ∀ z ∈ U2, w0.heap.size ≤ f z) (h6 : Below w0.heap.size w0 w)
    (ha : Ar w' g S' n fs' U1' most' m1') (hg : Grows S w S') (hf : Fr S w w') : Pq w0 w' g mB n U1' m1' U2 m2 f most' := by
  refine ⟨S', fs', ha, h2.fr hf (fun hm => (h3 _ hm).2.1 rfl) (fun z hz hm => (h3 _ hm).2.2 z hz rfl), fun k hk => ?_, h4, h5, Fr.below h6 hf (fun k hk => (h3 k hk).1) h6.size⟩
  rcases hg k hk with h | h
  · exact h3 k h
  · have := h6.size
    have l1 := h2.lt.1
    exact ⟨by omega, by omega, fun z hz => by have := h2.lt.2 z hz; omega⟩
/-- The map has changed. -/
theorem Pq.law {w0 w w' : World} {g mB n : Nat} {U1 U2 U2' : List Int} {m1 m2 m2' : Nat → List UInt8} {f f' : Int → Nat} {most : Int} {T : List Nat} (h : Pq w0 w g mB n U1 m1 U2 m2 f most)
    (hm : Mm w' mB f' U2' m2') (hf : Fr T w w') (hT : ∀ k ∈ T, k = mB ∨ ∃ z ∈ U2, k = f z) (hU : ∀ z ∈ U2', (z ∈ U2 ∧ f' z = f z) ∨ w.heap.size ≤ f' z) : Pq w0 w' g mB n U1 m1 U2' m2' f' most := by
  obtain ⟨S, fs, h1, h2, h3, h4, h5, h6⟩ := h
  have hTf : ∀ k ∈ T, w0.heap.size ≤ k := fun k hk => by
    rcases hT k hk with rfl | ⟨z, hz, rfl⟩
    · exact h4
    · exact h5 z hz
  refine ⟨S, fs, h1.fr hf (fun k hk hm => ?_), hm, fun k hk => ⟨(h3 k hk).1, (h3 k hk).2.1, fun z hz => ?_⟩, h4, fun z hz => ?_, Fr.below h6 hf hTf h6.size⟩
  · rcases hT k hm with rfl | ⟨z, hz, rfl⟩
    · exact (h3 _ hk).2.1 rfl
    · exact (h3 _ hk).2.2 z hz rfl
  · rcases hU z hz with ⟨h7, h8⟩ | h7
    · rw [h8]; exact (h3 k hk).2.2 z h7
    · have := h1.lt k hk; omega
  · rcases hU z hz with ⟨h7, h8⟩ | h7
    · rw [h8]; exact h5 z h7
    · have := h6.size; omega

/-- Bytes over a row's bytes. -/
def over (L : List UInt8) (off : Nat) (xs : List UInt8) : List UInt8 := L.take off ++ (xs ++ L.drop (off + xs.length))
theorem over_len (L : List UInt8) (off : Nat) (xs : List UInt8) (h : off + xs.length ≤ L.length) : (over L off xs).length = L.length := by simp [over]; omega
theorem Ar.free_not {w : World} {g : Nat} {S : List Nat} {r : Nat} {free U : List Int} {most : Int} {mem : Nat → List UInt8} (h : Ar w g S r free U most mem) {z : Int} (hz : z ∈ free) : z ∉ U := by
  obtain ⟨gb, mb, fv, bl, h, rfl, rfl⟩ := h
  intro hu
  have h1 := ((h.frees z).1 hz).2
  obtain ⟨_, b, h2⟩ := (h.used z).1 hu
  rw [h1] at h2; cases h2

section
variable {w0 w : World} {g mB n : Nat} {U : List Int} {m : Nat → List UInt8} {f : Int → Nat} {most : Int}
theorem pq_take (h : Pq w0 w g mB n U m U m f most) (hU : U.length < n) :
    Calls Try.prog 8 #[.pointer (some ⟨g, 0, none⟩)] w fun e w' => ∃ id : Nat, e = .returned (.tuple #[.int .i64 id, .int .i64 0]) ∧ id < n ∧ (id : Int) ∉ U ∧ Pq w0 w' g mB n (U ++ [(id : Int)]) (memPut m id (List.replicate 64 0)) U m f (max most (U.length + 1)) := by
  obtain ⟨S, fs, h1, h2, h3, h4, h5, h6⟩ := h
  obtain ⟨fs', id, rfl, hid⟩ := h1.last hU
  refine (take_ok h1).mono ?_
  rintro e w' ⟨rfl, S', ha, hg, hf⟩
  exact ⟨id, rfl, hid, h1.free_not (by simp), Pq.arena h2 h3 h4 h5 h6 ha hg hf⟩
theorem pq_full (h : Pq w0 w g mB n U m U m f most) (hU : U.length = n) :
    Calls Try.prog 8 #[.pointer (some ⟨g, 0, none⟩)] w fun e w' => e = .returned (.tuple #[.int .i64 0, .int .i64 8]) ∧ w' = w := by
  obtain ⟨S, fs, h1, h2, h3, h4, h5, h6⟩ := h
  obtain rfl : fs = [] := List.eq_nil_of_length_eq_zero (by have := h1.nodup.2.1; omega)
  exact take_full h1
theorem pq_give (h : Pq w0 w g mB n U m U m f most) (z : Nat) (hz : (z : Int) ∈ U) :
    Calls Try.prog 11 #[.pointer (some ⟨g, 0, none⟩), .int .i64 z] w fun e w' => e = .returned (.int .i64 0) ∧ Pq w0 w' g mB n (less U z) m U m f most := by
  obtain ⟨S, fs, h1, h2, h3, h4, h5, h6⟩ := h
  refine (give_ok h1 z hz).mono ?_
  rintro e w' ⟨rfl, S', ha, hg, hf⟩
  exact ⟨rfl, Pq.arena h2 h3 h4 h5 h6 ha hg hf⟩
theorem pq_give_none (h : Pq w0 w g mB n U m U m f most) (z : Int) (wz : -9223372036854775808 ≤ z ∧ z < 9223372036854775808) (hz : z ∉ U) :
    Calls Try.prog 11 #[.pointer (some ⟨g, 0, none⟩), .int .i64 z] w fun e w' => e = .returned (.int .i64 9) ∧ w' = w := by
  obtain ⟨S, fs, h1, _⟩ := h
  exact give_none h1 z wz hz
theorem pq_write (h : Pq w0 w g mB n U m U m f most) (z : Nat) (hz : (z : Int) ∈ U) (i : Nat) {a : Option Addr} {l c : Nat} {xs : List UInt8} (hx : Bytes w a l c xs) (hi : i + l ≤ 64) :
    Calls Try.prog 10 #[.pointer (some ⟨g, 0, none⟩), .int .i64 z, .int .i64 i, .slice a l c] w fun e w' => e = .returned (.int .i64 0) ∧ Pq w0 w' g mB n U (memPut m z (over (m z) i xs)) U m f most := by
  obtain ⟨S, fs, h1, h2, h3, h4, h5, h6⟩ := h
  refine (write_ok h1 z hz i hx hi).mono ?_
  rintro e w' ⟨rfl, ha, hf⟩
  exact ⟨rfl, Pq.arena h2 h3 h4 h5 h6 ha (Grows.refl _ _) hf⟩
theorem pq_write_none (h : Pq w0 w g mB n U m U m f most) (z : Int) (wz : -9223372036854775808 ≤ z ∧ z < 9223372036854775808) (hz : z ∉ U) (i : Int) (a : Option Addr) (l c : Nat) :
    Calls Try.prog 10 #[.pointer (some ⟨g, 0, none⟩), .int .i64 z, .int .i64 i, .slice a l c] w fun e w' => e = .returned (.int .i64 9) ∧ w' = w := by
  obtain ⟨S, fs, h1, _⟩ := h
  exact write_none h1 z wz hz i a l c
theorem pq_write_range (h : Pq w0 w g mB n U m U m f most) (z : Nat) (hz : (z : Int) ∈ U) (i : Int) (wi : -128 ≤ i ∧ i ≤ 127) {a : Option Addr} {l c : Nat} (hr : i < 0 ∨ 64 < i + l) :
    Calls Try.prog 10 #[.pointer (some ⟨g, 0, none⟩), .int .i64 z, .int .i64 i, .slice a l c] w fun e w' => e = .returned (.int .i64 2) ∧ w' = w := by
  obtain ⟨S, fs, h1, _⟩ := h
  exact write_range h1 z hz i wi hr
theorem pq_bytes {U2 : List Int} {m2 : Nat → List UInt8} (h : Pq w0 w g mB n U m U2 m2 f most) (z : Nat) (hz : (z : Int) ∈ U) :
    Calls Try.prog 9 #[.pointer (some ⟨g, 0, none⟩), .int .i64 z] w fun e w' => ∃ a c, e = .returned (.tuple #[.slice a 64 c, .int .i64 0]) ∧ Bytes w' a 64 c (m z) ∧ Below w.heap.size w w' := by
  obtain ⟨S, fs, h1, _⟩ := h
  have h64 : (m z).length = 64 := by
    obtain ⟨gb, mb, fv, bl, h, rfl, rfl⟩ := h1
    obtain ⟨b, hb, hl, h4, k0, hB, h64⟩ := h.block hz
    exact h64
  refine (bytes_ok h1 z hz).mono ?_
  rintro e w' ⟨v, rfl, ho, hb⟩
  obtain ⟨a, c, rfl, hB⟩ := ho.bytes
  rw [h64] at hB ⊢
  exact ⟨a, c, rfl, hB, hb⟩
theorem pq_bytes_none (h : Pq w0 w g mB n U m U m f most) (z : Int) (wz : -9223372036854775808 ≤ z ∧ z < 9223372036854775808) (hz : z ∉ U) :
    Calls Try.prog 9 #[.pointer (some ⟨g, 0, none⟩), .int .i64 z] w fun e w' => e = .returned (.tuple #[.slice none 0 0, .int .i64 9]) ∧ w' = w := by
  obtain ⟨S, fs, h1, _⟩ := h
  exact bytes_none h1 z wz hz
theorem pq_used (h : Pq w0 w g mB n U m U m f most) {u : Int} (hu : (U.length : Int) = u) :
    Calls Try.prog 12 #[.pointer (some ⟨g, 0, none⟩)] w fun e w' => e = .returned (.int .i64 u) ∧ w' = w := by
  obtain ⟨S, fs, h1, _⟩ := h
  subst hu; exact used_calls h1
theorem pq_most (h : Pq w0 w g mB n U m U m f most) :
    Calls Try.prog 13 #[.pointer (some ⟨g, 0, none⟩)] w fun e w' => e = .returned (.int .i64 most) ∧ w' = w := by
  obtain ⟨S, fs, h1, _⟩ := h
  exact most_calls h1
theorem pq_room (h : Pq w0 w g mB n U m U m f most) :
    Calls Try.prog 14 #[.pointer (some ⟨g, 0, none⟩)] w fun e w' => e = .returned (.int .i64 n) ∧ w' = w := by
  obtain ⟨S, fs, h1, _⟩ := h
  exact room_calls h1
/-- The law takes a block, too. -/
theorem Pq.put {id : Nat} {zs : List UInt8} (h : Pq w0 w g mB n (U ++ [(id : Int)]) (memPut m id zs) U m f most) (hn : (id : Int) ∉ U) (hid : id < 4096) (hzs : zs.length = 64) :
    ∃ w', (Instr.mapUpdate 37 (.map (some mB)) (.int .i64 (id : Int)) (.slice (some ⟨w.heap.size, 0, none⟩) 64 64)).run Try.prog (w.alloc (.cells (bytesArr zs) 5)) = .ok () w' ∧
      Pq w0 w' g mB n (U ++ [(id : Int)]) (memPut m id zs) (U ++ [(id : Int)]) (memPut m id zs) (fun z => if z = (id : Int) then w.heap.size else f z) most := by
  have hM := h.mm
  obtain ⟨w', e, h1, h2⟩ := hM.put id (by omega) hn hzs
  refine ⟨w', e, h.law (T := [mB]) h1 (((Fr.refl [mB] w).alloc _).trans h2 (Grows.refl _ _)) (fun k hk => .inl (by simpa using hk)) (fun z hz => ?_)⟩
  by_cases hzi : z = (id : Int)
  · right; simp [hzi]
  · left
    refine ⟨?_, by simp [hzi]⟩
    rcases List.mem_append.1 hz with h | h
    · exact h
    · simp at h; exact absurd h hzi
/-- The law gives one back, too. -/
theorem Pq.drop {z : Int} (wz : -9223372036854775808 ≤ z ∧ z < 9223372036854775808) {U1 : List Int} (h : Pq w0 w g mB n U1 m U m f most) :
    ∃ w', (Builtin.delete_ #[37, 3] 0 #[.map (some mB), .int .i64 z]).run Try.prog w = .ok (.tuple #[]) w' ∧ Pq w0 w' g mB n U1 m (less U z) m f most := by
  obtain ⟨w', e, h1, h2⟩ := h.mm.drop z wz
  exact ⟨w', e, h.law (T := [mB]) h1 h2 (fun k hk => .inl (by simpa using hk)) (fun y hy => .inl ⟨(less_mem.1 hy).1, rfl⟩)⟩
/-- The law writes, too. -/
theorem Pq.copy {z : Nat} {L : List UInt8} {w' : World} (hz : (z : Int) ∈ U) (h : Pq w0 w g mB n U (memPut m z L) U m f most) (hL : L.length = 64) (hf : Fr [f z] w w') (hh : w'.heap[f z]? = some (.cells (bytesArr L) 5 (0, 0))) :
    Pq w0 w' g mB n U (memPut m z L) U (memPut m z L) f most :=
  h.law (T := [f z]) (h.mm.write hz hL hf hh) hf (fun k hk => .inr ⟨_, hz, by simpa using hk⟩) (fun y hy => .inl ⟨hy, rfl⟩)
theorem less_gone {U : List Int} {z : Int} (h : z ∉ U) : less U z = U := List.filter_eq_self.2 (fun y hy => by simp; exact fun e => h (e ▸ hy))
/-- Written, behind a block that is new: that stays, and what was there first. -/
theorem pq_write_box {W : World} (hP : Pq w0 w g mB n U m U m f most) (hW : Below w.heap.size w W) (z : Nat) (hz : (z : Int) ∈ U) (i : Nat) {a : Option Addr} {l c : Nat} {xs : List UInt8} (hx : Bytes W a l c xs) (hi : i + l ≤ 64) :
    Calls Try.prog 10 #[.pointer (some ⟨g, 0, none⟩), .int .i64 z, .int .i64 i, .slice a l c] W fun e w' => e = .returned (.int .i64 0) ∧ Pq w0 w' g mB n U (memPut m z (over (m z) i xs)) U m f most ∧ ∃ S, Fr S W w' ∧ ∀ k ∈ S, w0.heap.size ≤ k ∧ k ≠ w.heap.size := by
  have hQ := hP.keep hW
  obtain ⟨S, fs, h1, h2, h3, h4, h5, h6⟩ := hP
  refine (write_ok (h1.keep hW) z hz i hx hi).mono ?_
  rintro e w' ⟨rfl, ha, hf⟩
  exact ⟨rfl, Pq.arena (h2.keep hW) h3 h4 h5 (h6.trans (hW.mono h6.size)) ha (Grows.refl _ _) hf, S, hf, fun k hk => ⟨(h3 k hk).1, by have := h1.lt k hk; omega⟩⟩
end
theorem Sl.fr2 {S : List Nat} {w w' : World} {a : Option Addr} {n cap size : Nat} {xs : List Value} (h : Sl w a n cap size xs) (hf : Fr S w w') (hn : xs ≠ [] → ∀ p, a = some p → p.block ∉ S) : Sl w' a n cap size xs :=
  ⟨h.len, h.le, h.max, h.nil, fun hx => by
    obtain ⟨b, off, h1, h2, h3⟩ := h.row hx
    refine ⟨b, off, h1, Nat.lt_of_lt_of_le h2 hf.size, fun i hi => ?_⟩
    have := h3 i hi
    unfold World.cell? at this ⊢
    rw [hf.block b h2 (hn hx _ h1)]; exact this⟩
theorem step_copy_bytes {w : World} {ops : Array Oper} {o : Oper} {a : Act} {K : Act → World → Prop} {Q : Exit → Act → World → Prop} {E : Prop} (hgd : o.guard = none) (d s : Operand)
    (ho : o.op = .call { callee := .builtin .copy, args := #[d, s], argTypes := #[29, 29] }) {dp sp : Option Addr} {dLen dCap sLen sCap g off : Nat} {L xs : List UInt8}
    (hd : a.eval d = .slice dp dLen dCap) (hs : a.eval s = .slice sp sLen sCap) (hg : w.heap[g]? = some (.cells (bytesArr L) 5 (0, 0))) (hx : Bytes w sp sLen sCap xs) (hm : sLen ≤ dLen) (hfit : off + dLen ≤ L.length) (hpos : 0 < sLen → dp = some ⟨g, off, none⟩)
    (h : ∀ w' z, Hid (w'.heap[g]? = some (.cells (bytesArr (over L off xs)) 5 (0, 0))) → Hid (Fr [g] w w') → K (a.put o.dst (.int .i64 z)) w') : if Region.wanted o (yielded ops a.tmps) = true then Oper.wp Try.prog o a w K Q else E := by
  have hw : Region.wanted o (yielded ops a.tmps) = true := by simp [Region.wanted, hgd]
  rw [if_pos hw]
  have hxl := hx.len
  subst hxl
  by_cases h0 : xs.length = 0
  · obtain rfl : xs = [] := List.eq_nil_of_length_eq_zero h0
    have hrun := run_copy_none (P := Try.prog) w 29 29 o.type 5 dp sp dLen dCap 0 sCap Try.underlying29 (by kernel_rfl) (by simp)
    unfold Oper.wp
    simp [execOp, ho, resolve, invoke, builtin, hd, hs, hrun, Result.andThen]
    exact h w 0 (by show _ = _; simpa [over] using hg) (Fr.refl _ _)
  · obtain rfl := hpos (by omega)
    obtain ⟨b, o2, rfl, _⟩ := hx.at 0 (by omega)
    have hrun := run_copy_row (P := Try.prog) w 29 29 o.type 5 g off dLen dCap ⟨b, o2, none⟩ xs.length sCap (bytesArr L) 5 (xs.map u8) Try.underlying29 (by kernel_rfl) hg (by rw [List.length_map]; exact (Nat.min_eq_left hm).symm) (by
      intro j v hj
      have hjl : j < xs.length := by
        rcases Nat.lt_or_ge j xs.length with h | h
        · exact h
        · rw [List.getElem?_eq_none (by simpa using h)] at hj; cases hj
      rw [add_addr, hx.cell j hjl, ← hj]
      simp [hjl]) (by rw [bytesArr_size, List.length_map]; omega) (oneCell_u8 xs)
    unfold Oper.wp
    simp [execOp, ho, resolve, invoke, builtin, hd, hs, hrun, Result.andThen]
    refine h _ _ ?_ (show Fr [g] w _ from ⟨rfl, rfl, rfl, by simp [World.setRow], fun k _ hk => setRow_other w g k _ (by simpa using hk)⟩)
    show _ = _
    rw [setRow_heap w g _ _ 5 _ hg]
    congr 2
    apply Array.toList_inj.1
    simp [bytesArr, List.map_take, List.map_drop, over]
end Go.Proofs.Ytinikogpeccogaa
