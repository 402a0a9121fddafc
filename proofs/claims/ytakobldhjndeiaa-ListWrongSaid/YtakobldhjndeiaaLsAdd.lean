/-
  Lists.Add.
-/
import Derived.Test.YtakobldhjndeiaaLs
import Derived.Deep.RegionHeld
namespace Go.Proofs.Ytakobldhjndeiaa
open Go.RowKit
set_option linter.unusedVariables false
set_option linter.unusedSimpArgs false

theorem tile_push {tiles : List (List Ck)} {t : Nat} (h : t < tiles.length) (cs : List Ck) (c : Ck) : (tiles.set t (cs ++ [c])).flatten.Perm (c :: (tiles.set t cs).flatten) := by
  refine (flat_perm tiles t _ h).trans ((?_ : List.Perm _ (c :: (cs ++ (tiles.set t []).flatten))).trans ((flat_perm tiles t cs h).symm.cons c))
  rw [List.append_assoc]
  exact List.perm_middle
theorem tile_last {tiles : List (List Ck)} {t : Nat} (h : t < tiles.length) (m : List Ck) (c : Ck) : (tiles.set t (m ++ [c])).flatten.Perm (c :: (m ++ (tiles.set t []).flatten)) := by
  refine (flat_perm tiles t _ h).trans ?_
  rw [List.append_assoc]
  exact List.perm_middle
theorem hereN_cons (c : Ck) (F : List Ck) : hereN (c :: F) = hereN F + (if c.away then 0 else 1) := by
  unfold hereN; cases hc : c.away <;> simp [List.filter_cons, hc]
theorem awayN_cons (c : Ck) (F : List Ck) : awayN (c :: F) = awayN F + (if c.away then 1 else 0) := by
  unfold awayN; cases hc : c.away <;> simp [List.filter_cons, hc]

structure AddInv (w0 : World) (S0 : List Nat) (g gd lb r t : Nat) (tiles : List (List Ck)) (d : Dev) (cs0 : List Ck) (b0 : List UInt8) (wr : World) (a : Option Addr) (m cap : Nat) (bb : List UInt8) (S : List Nat) (cs : List Ck) : Prop where
  bytes : Bytes wr a m cap bb
  off : bb ≠ [] → ∀ p, a = some p → p.block ∉ S
  sys : Sys wr S g gd lb r (tiles.set t cs) d
  same : addS (cs.map Ck.sh) bb = addS (cs0.map Ck.sh) b0
  room : needN (cs.map Ck.sh) bb.length + hereN (tiles.set t cs).flatten ≤ r
  grows : Grows S0 w0 S
  fr : Fr S0 w0 wr
theorem AddInv.push {w0 wr w1 : World} {S0 S S1 : List Nat} {g gd lb r t : Nat} {tiles : List (List Ck)} {d : Dev} {cs0 cs : List Ck} {b0 bb : List UInt8} {a : Option Addr} {m cap z : Nat} (h : AddInv w0 S0 g gd lb r t tiles d cs0 b0 wr a m cap bb S cs) (ht : t < tiles.length) (hl : left (cs.map Ck.sh) = 0) (hb : bb ≠ [])
    (hs : Sys w1 S1 g gd lb r (tiles.set t (cs ++ [⟨false, z, []⟩])) d) (hG : Grows S wr S1) (hf : Fr S wr w1) : AddInv w0 S0 g gd lb r t tiles d cs0 b0 w1 a m cap bb S1 (cs ++ [⟨false, z, []⟩]) := by
  obtain ⟨bk, off, rfl, hlt, _⟩ := h.bytes.row (by simpa using hb)
  refine ⟨h.bytes.fr hf (h.off hb), ?_, hs, ?_, ?_, h.grows.trans hG h.fr.size, h.fr.trans hf h.grows⟩
  · rintro _ p hp hm
    cases hp
    rcases hG _ hm with h1 | h1
    · exact h.off hb _ rfl h1
    · simp at h1; omega
  · rw [List.map_append, ← h.same]
    exact addS_push hl hb
  · have h1 := need_push hl (n := bb.length) (List.length_pos_iff.2 hb)
    have h2 := h.room
    have h3 := hereN_perm (tile_push ht cs ⟨false, z, []⟩)
    rw [hereN_cons] at h3
    rw [List.map_append, h3]
    simp only [Bool.false_eq_true, if_false]
    show needN (cs.map Ck.sh ++ [(false, [])]) _ + _ ≤ r
    omega
theorem AddInv.fill {w0 wr w1 : World} {S0 S : List Nat} {g gd lb r t : Nat} {tiles : List (List Ck)} {d : Dev} {cs0 ms : List Ck} {b0 bb x : List UInt8} {a a1 : Option Addr} {m cap m1 cap1 z k : Nat} (h : AddInv w0 S0 g gd lb r t tiles d cs0 b0 wr a m cap bb S (ms ++ [⟨false, z, x⟩])) (ht : t < tiles.length) (hx : x.length < 64) (hk : k = min bb.length (64 - x.length))
    (hs : Sys w1 S g gd lb r (tiles.set t (ms ++ [⟨false, z, x ++ bb.take k⟩])) d) (hf : Fr S wr w1) (hy : Bytes w1 a1 m1 cap1 (bb.drop k)) (ha : bb.drop k ≠ [] → ∀ p, a1 = some p → ∃ p', a = some p' ∧ p'.block = p.block) :
    AddInv w0 S0 g gd lb r t tiles d cs0 b0 w1 a1 m1 cap1 (bb.drop k) S (ms ++ [⟨false, z, x ++ bb.take k⟩]) := by
  refine ⟨hy, ?_, hs, ?_, ?_, h.grows, h.fr.trans hf h.grows⟩
  · intro hne p hp
    obtain ⟨p', h1, h2⟩ := ha hne p hp
    rw [← h2]
    exact h.off (by rintro rfl; simp at hne) p' h1
  · rw [← h.same, List.map_append, List.map_append]
    exact addS_fill (ms.map Ck.sh) x bb hx hk
  · have h2 := h.room
    have h3 := hereN_perm (tile_last ht ms ⟨false, z, x⟩)
    have h4 := hereN_perm (tile_last ht ms ⟨false, z, x ++ bb.take k⟩)
    rw [hereN_cons] at h3 h4
    have h5 := need_fill (ms.map Ck.sh) x bb.length k hx hk (x ++ bb.take k) (by rw [List.length_append, List.length_take]; omega)
    rw [List.map_append] at h2
    rw [List.map_append, List.length_drop, h4]
    rw [h3] at h2
    show needN (ms.map Ck.sh ++ [(false, x ++ bb.take k)]) _ + _ ≤ r
    have h6 : needN (ms.map Ck.sh ++ [(false, x)]) bb.length + (hereN (ms ++ (tiles.set t []).flatten) + 1) ≤ r := h2
    simp only [Bool.false_eq_true, if_false]
    omega
set_option maxRecDepth 10000 in
theorem add_nil (t : Int) (a : Option Addr) (n c : Nat) (w : World) : Calls Try.prog 13 #[.pointer none, .int .i64 t, .slice a n c] w fun e w' => e = .returned (.int .i64 1) ∧ w' = w := by
  go_enter Try.func13, Try.ntmps13
  go_wp2
  go_ret
  exact ⟨rfl, rfl⟩
set_option maxRecDepth 10000 in
theorem add_range {w : World} {lb : Nat} {SL : List Nat} {pa pd : Option Addr} {tiles : List (List Ck)} (h : Ls w lb SL pa pd tiles) (t : Int) (ht : t < 0 ∨ (tiles.length : Int) ≤ t) (a : Option Addr) (n c : Nat) :
    Calls Try.prog 13 #[.pointer (some ⟨lb, 0, none⟩), .int .i64 t, .slice a n c] w fun e w' => e = .returned (.int .i64 2) ∧ w' = w := by
  go_enter Try.func13, Try.ntmps13
  go_wp2_with (go_at_call 22; refine (valid_no h t ht).mono ?_; rintro e w1 ⟨rfl, rfl⟩)
  go_ret
  exact ⟨rfl, rfl⟩
set_option maxRecDepth 10000 in
theorem add_full {w : World} {S : List Nat} {g gd lb r : Nat} {tiles : List (List Ck)} {d : Dev} (h : Sys w S g gd lb r tiles d) {t : Nat} {cs : List Ck} (ht : tiles[t]? = some cs) (hd : d.L.length ≤ 100000) (a : Option Addr) (n c : Nat) (hn : n ≤ 9000000000000000) (hfull : r < needN (cs.map Ck.sh) n + hereN tiles.flatten) :
    Calls Try.prog 13 #[.pointer (some ⟨lb, 0, none⟩), .int .i64 t, .slice a n c] w fun e w' => e = .returned (.int .i64 8) ∧ Below w.heap.size w w' := by
  have h64 := h.len64 ht
  have hle := h.here
  obtain ⟨SA, SD, SL, free, U, most, mem, h, rfl⟩ := h
  have hr := h.ar.nodup
  have HV := valid_yes h.ls t (List.getElem?_eq_some_iff.1 ht).1
  have HN := hid (fun w' (hb : Below w.heap.size w w') => needs_calls (h.ls.keep hb) ht h64 n hn)
  have hls := h.ls
  obtain ⟨cb, vs, hl, rfl⟩ := hls
  have c0 := cell_at hl.top 0
  have hu := h.rel.hereN
  obtain ⟨N, hN⟩ : ∃ N, needN (cs.map Ck.sh) n = N := ⟨_, rfl⟩
  rw [hN] at HN hfull
  have hN2 : N ≤ n + 63 := by rw [← hN]; unfold needN; omega
  have q1 : IntKind.i64.wrap ((r : Int) - (U.length : Int)) = (r : Int) - (U.length : Int) := IntWalk.i64_in _ (by omega)
  have q2 : decide ((r : Int) - (U.length : Int) < (N : Int)) = true := by simp; omega
  have HA := h.ar
  clear ht h64 hN hu hl h
  go_enter Try.func13, Try.ntmps13
  go_wp2_with (go_at_call 22; refine HV.mono ?_; rintro e w1 ⟨rfl, rfl⟩)
  go_quiet (first
    | (go_at_call 23; exact Calls.quiet_of_same (HN.out _ (below_draws _ _ _)))
    | (go_at_call 24; exact Calls.quiet_of_same (room_calls (HA.drewN _)))
    | (go_at_call 16; exact Calls.quiet_of_same (used_calls (HA.drewN _))))
  go_wp2
  go_ret
  exact ⟨rfl, below_draws _ _ _⟩

theorem Sys.full {w : World} {S : List Nat} {g gd lb r : Nat} {tiles : List (List Ck)} {d : Dev} (h : Sys w S g gd lb r tiles d) {t : Nat} {cs : List Ck} (ht : tiles[t]? = some cs) : full1 w lb t = if left (cs.map Ck.sh) = 0 then 1 else 0 := by
  have h1 := h.len64 ht
  obtain ⟨SA, SD, SL, free, U, most, mem, h, rfl⟩ := h
  obtain ⟨cb, vs, hl, _⟩ := h.ls
  exact hl.full ht h1
theorem Ar.notin {w : World} {g : Nat} {S : List Nat} {r : Nat} {free U : List Int} {most : Int} {mem : Nat → List UInt8} (h : Ar w g S r free U most mem) {z : Int} (hz : z ∈ free) : z ∉ U := by
  obtain ⟨gb, mb, fv, bl, h, rfl, rfl⟩ := h
  intro hm
  obtain ⟨_, h1⟩ := (h.frees z).1 hz
  obtain ⟨_, b, h2⟩ := (h.used z).1 hm
  rw [h1] at h2
  cases h2
theorem last_cells {w : World} {a1 : Option Addr} {n cap1 : Nat} {ms : List Ck} {c : Ck} (ho : OwnL 73 3 Ck.cells w 0 (.slice a1 n cap1) (ms ++ [c])) :
    ∃ g1, a1 = some ⟨g1, 0, none⟩ ∧ w.cell? ⟨g1, ms.length * 3, none⟩ = some (.bool c.away) ∧ w.cell? ⟨g1, ms.length * 3 + 2, none⟩ = some (.int .i64 (c.bs.length : Int)) := by
  obtain ⟨g, cap', e, _, _⟩ := ho.there ck_sz (by decide) (by simp)
  simp only [Value.slice.injEq] at e
  obtain ⟨rfl, _, rfl⟩ := e
  have k0 := ho.cells ck_sz (by decide) ms.length (by simp) 0 (by decide)
  have k2 := ho.cells ck_sz (by decide) ms.length (by simp) 2 (by decide)
  simp only [List.getElem_append_right (Nat.le_refl _), Nat.sub_self, List.getElem_singleton, Ck.cells, List.getElem?_cons_zero, List.getElem?_cons_succ, Nat.add_zero] at k0 k2
  exact ⟨g, rfl, k0, k2⟩
/-- What the store behind an append reads. -/
theorem Lsx.grown6 {w w2 : World} {lb cb : Nat} {pa pd : Option Addr} {vs : List Value} {tiles : List (List Ck)} (h : Lsx w lb cb pa pd vs tiles) {t : Nat} {v : Value} (hg : w.grownBy w2 v.ownBlock) (hv : vs[t]? = some v) (v2 : Value) :
    w2.cell? ⟨lb, 2, none⟩ = some (.slice (some ⟨cb, 0, none⟩) vs.length vs.length) ∧ w2.cell? ⟨cb, t, none⟩ = some v ∧ w2.frozen? ⟨cb, t, none⟩ = false ∧ (w2.setCell ⟨cb, t, none⟩ v2).cell? ⟨lb, 2, none⟩ = some (.slice (some ⟨cb, 0, none⟩) vs.length vs.length) := by
  have hf : Fr v.ownBlock.toList w w2 := Fr.grown (Fr.refl _ _) hg (fun k hk => .inl (by simp [hk]))
  have hap := h.apart
  have n1 : lb ∉ v.ownBlock.toList := by intro hm; simp at hm; exact (hap.2 t v lb hv hm).1 rfl
  have n2 : cb ∉ v.ownBlock.toList := by intro hm; simp at hm; exact (hap.2 t v cb hv hm).2 rfl
  have t2 := hf.heap h.top n1
  have r2 := hf.heap h.row n2
  refine ⟨by rw [cell_at t2]; rfl, by rw [cell_at r2]; simpa using hv, free_at r2 t, ?_⟩
  have hs : Fr [cb] w2 (w2.setCell ⟨cb, t, none⟩ v2) := Fr.set (Fr.refl _ _) _ (.inl (by simp)) _
  rw [cell_at (hs.heap t2 (by simpa using hap.1))]; rfl
/-- A block is taken for a list. -/
theorem sys_pushed {w w1 wA w2 : World} {SA SD SL SA' : List Nat} {g gd lb cb r : Nat} {free free' U : List Int} {most : Int} {mem : Nat → List UInt8} {tiles : List (List Ck)} {d : Dev} {t z : Nat} {cs : List Ck} {vs : List Value} {v v2 : Value}
    (h : SysX w SA SD SL g gd lb r free U most mem tiles tiles.flatten d) (ht : tiles[t]? = some cs)
    (hA : Ar w1 g SA' r free' (U ++ [(z : Int)]) (max most (U.length + 1)) (fun i => if i = z then List.replicate 64 0 else mem i)) (hG : Grows SA w SA') (hf : Fr SA w w1) (hz : (z : Int) ∉ U) (hr : U.length < r)
    (hk : Below w1.heap.size w1 wA) (hl : Lsx wA lb cb (some ⟨g, 0, none⟩) (some ⟨gd, 0, none⟩) vs tiles) (hv : vs[t]? = some v) (hSL : SL = lsBlocks lb cb vs)
    (o : OwnL 73 3 Ck.cells w2 0 v2 (cs ++ [⟨false, z, []⟩])) (hg : wA.grownBy w2 v.ownBlock) (hlo : v2.ownBlock = v.ownBlock ∨ v2.ownBlock = some wA.heap.size) :
    ∃ S', Sys (w2.setCell ⟨cb, t, none⟩ v2) S' g gd lb r (tiles.set t (cs ++ [⟨false, z, []⟩])) d ∧ Grows (SA ++ (SD ++ SL)) w S' ∧ Fr (SA ++ (SD ++ SL)) w (w2.setCell ⟨cb, t, none⟩ v2) := by
  have htt : t < tiles.length := (List.getElem?_eq_some_iff.1 ht).1
  have h1 := (h.arena hA hG hf (h.rel.take hz _) (by have := h.mo; omega)).keep hk
  have hfv : Fr v.ownBlock.toList wA w2 := Fr.grown (Fr.refl _ _) hg (fun k hk => .inl (by simp [hk]))
  obtain ⟨h2, h3, h4⟩ := hl.put ht hv o hfv (fun k hk => by
    rcases hlo with e | e
    · exact .inl (by rw [← e]; exact hk)
    · rw [e] at hk; cases hk; exact .inr (Nat.le_refl _))
  have h5 := h1.lists (tiles' := tiles.set t (cs ++ [⟨false, z, []⟩])) (F' := (tiles.set t (cs ++ [⟨false, z, []⟩])).flatten) ⟨cb, _, h2, rfl⟩ (hSL ▸ h4) (hSL ▸ h3) (h1.rel.perm (by
    have := tile_push htt cs ⟨false, z, []⟩
    rwa [flat_set_self ht] at this))
  have hb : Fr (SA' ++ (SD ++ SL)) w1 wA := (Fr.ofBelow hk).nilMono
  have hGa : Grows (SA ++ (SD ++ SL)) w (SA' ++ (SD ++ SL)) := grows_a hG
  subst hSL
  refine ⟨_, ⟨_, _, _, _, _, _, _, h5, rfl⟩, ?_, ?_⟩
  · exact hGa.trans (grows_l h4) (Nat.le_trans hf.size hk.size)
  · exact ((fr_a hf).trans hb hGa).trans (fr_l h3) hGa
theorem Lsx.reads {w : World} {lb cb : Nat} {pa pd : Option Addr} {vs : List Value} {tiles : List (List Ck)} (h : Lsx w lb cb pa pd vs tiles) {t g1 n cap1 k : Nat} {ms : List Ck} {c : Ck} (ht : tiles[t]? = some (ms ++ [c])) (hv : vs[t]? = some (.slice (some ⟨g1, 0, none⟩) n cap1)) (hk : ms.length = k) :
    w.cell? ⟨lb, 0, none⟩ = some (.pointer pa) ∧ w.cell? ⟨g1, k * 3 + 1, none⟩ = some (.int .i64 c.id) ∧ w.cell? ⟨g1, k * 3 + 2, none⟩ = some (.int .i64 (c.bs.length : Int)) ∧ w.frozen? ⟨g1, k * 3 + 2, none⟩ = false := by
  have ho := h.rows t _ _ hv ht
  have k1 := ho.cells ck_sz (by decide) ms.length (by simp) 1 (by decide)
  have k2 := ho.cells ck_sz (by decide) ms.length (by simp) 2 (by decide)
  simp only [List.getElem_append_right (Nat.le_refl _), Nat.sub_self, List.getElem_singleton, Ck.cells, List.getElem?_cons_zero, List.getElem?_cons_succ] at k1 k2
  rw [hk] at k1 k2
  exact ⟨by rw [cell_at h.top]; rfl, k1, k2, ho.free _⟩
theorem sys_filled {w w1 : World} {SA SD SL : List Nat} {g gd lb cb r : Nat} {free U : List Int} {most : Int} {mem : Nat → List UInt8} {tiles : List (List Ck)} {d : Dev} {t z g1 n cap1 : Nat} {ms : List Ck} {x ys : List UInt8} {vs : List Value}
    (h : SysX w SA SD SL g gd lb r free U most mem (tiles.set t (ms ++ [⟨false, z, x⟩])) (tiles.set t (ms ++ [⟨false, z, x⟩])).flatten d) (ht : t < tiles.length)
    (hA : Ar w1 g SA r free U most (fun j => if j = z then (mem z).take x.length ++ (ys ++ (mem z).drop (x.length + ys.length)) else mem j)) (hf : Fr SA w w1)
    (hl : Lsx w lb cb (some ⟨g, 0, none⟩) (some ⟨gd, 0, none⟩) vs (tiles.set t (ms ++ [⟨false, z, x⟩]))) (hv : vs[t]? = some (.slice (some ⟨g1, 0, none⟩) n cap1)) (hSL : SL = lsBlocks lb cb vs) (hy : x.length + ys.length ≤ 64) :
    Sys (w1.setCell ⟨g1, ms.length * 3 + 2, none⟩ (.int .i64 ((x.length : Int) + (ys.length : Int)))) (SA ++ (SD ++ SL)) g gd lb r (tiles.set t (ms ++ [⟨false, z, x ++ ys⟩])) d ∧ Fr (SA ++ (SD ++ SL)) w (w1.setCell ⟨g1, ms.length * 3 + 2, none⟩ (.int .i64 ((x.length : Int) + (ys.length : Int)))) := by
  subst hSL
  have htg : (tiles.set t (ms ++ [⟨false, z, x⟩]))[t]? = some (ms ++ [⟨false, z, x⟩]) := by simp [ht]
  have hr1 := (h.rel.perm (tile_last ht ms ⟨false, z, x⟩).symm).write h.ar.nodup.1 ys ((mem z).drop (x.length + ys.length)) hy
  have h1 := h.arena hA (Grows.refl _ _) hf (hr1.perm (tile_last ht ms ⟨false, z, x ++ ys⟩)) h.mo
  have hl1 := hl.fr hf (fun k hk hm => h.al k hm hk)
  obtain ⟨h2, h3⟩ := hl1.cell htg hv ms.length 2 (by simp) (by decide) ⟨false, z, x ++ ys⟩ (.int .i64 ((x.length : Int) + (ys.length : Int))) (by
    rw [List.getElem_append_right (Nat.le_refl _)]
    simp [Ck.cells])
  have e : (ms ++ [(⟨false, z, x⟩ : Ck)]).set ms.length ⟨false, z, x ++ ys⟩ = ms ++ [⟨false, z, x ++ ys⟩] := by
    rw [List.set_append_right _ _ (Nat.le_refl _)]; simp
  rw [e, List.set_set] at h2
  exact ⟨⟨_, _, _, _, _, _, _, h1.lists ⟨cb, _, h2, rfl⟩ (Grows.refl _ _) h3 h1.rel, rfl⟩, (fr_a hf).trans (fr_l h3) (Grows.refl _ _)⟩
set_option maxRecDepth 10000 in
set_option maxHeartbeats 1000000 in
theorem add_ok {w : World} {S : List Nat} {g gd lb r : Nat} {tiles : List (List Ck)} {d : Dev} (h : Sys w S g gd lb r tiles d) {t : Nat} {cs : List Ck} (ht : tiles[t]? = some cs) (hd : d.L.length ≤ 100000) {a : Option Addr} {n c : Nat} {b : List UInt8} (hn9 : n ≤ 9000000000000000) (hb : Bytes w a n c b) (ha : b ≠ [] → ∀ p, a = some p → p.block ∉ S) (hroom : needN (cs.map Ck.sh) b.length + hereN tiles.flatten ≤ r) :
    Calls Try.prog 13 #[.pointer (some ⟨lb, 0, none⟩), .int .i64 t, .slice a n c] w fun e w' => e = .returned (.int .i64 0) ∧ ∃ S' cs', Sys w' S' g gd lb r (tiles.set t cs') d ∧ cs'.map Ck.sh = addS (cs.map Ck.sh) b ∧ Grows S w S' ∧ Fr S w w' := by
  have htt := (List.getElem?_eq_some_iff.1 ht).1
  have hbl := hb.len
  have hinv : AddInv w S g gd lb r t tiles d cs b w a n c b S cs := ⟨hb, ha, by rw [flat_set_self ht]; exact h, rfl, by rw [flat_set_self ht]; exact hroom, Grows.refl _ _, Fr.refl _ _⟩
  have h64 := h.len64 ht
  have hle := h.here
  have HS := hid h
  obtain ⟨SA, SD, SL, free, U, most, mem, h, rfl⟩ := h
  have hr := h.ar.nodup
  have HV := valid_yes h.ls t htt
  have HN := hid (fun w' (hb : Below w.heap.size w w') => needs_calls (h.ls.keep hb) ht h64 n hn9)
  have hls := h.ls
  obtain ⟨cb, vs, hl, rfl⟩ := hls
  have c0 := cell_at hl.top 0
  have hu := h.rel.hereN
  rw [hbl] at hroom
  obtain ⟨N, hN⟩ : ∃ N, needN (cs.map Ck.sh) n = N := ⟨_, rfl⟩
  rw [hN] at HN hroom
  have q1 : IntKind.i64.wrap ((r : Int) - (U.length : Int)) = (r : Int) - (U.length : Int) := IntWalk.i64_in _ (by omega)
  have q2 : decide ((r : Int) - (U.length : Int) < (N : Int)) = false := by simp; omega
  have HA := h.ar
  obtain ⟨S, hS⟩ : ∃ S, SA ++ (SD ++ lsBlocks lb cb vs) = S := ⟨_, rfl⟩
  rw [hS] at hinv HS ⊢
  have HI := hid hinv
  have HT := hid ht
  clear ht h64 hN hu hl h hS hinv hb ha hbl hroom
  go_enter Try.func13, Try.ntmps13
  go_wp2_with (go_at_call 22; refine HV.mono ?_; rintro e w1 ⟨rfl, rfl⟩)
  go_quiet (first
    | (go_at_call 23; exact Calls.quiet_of_same (HN.out _ (below_draws _ _ _)))
    | (go_at_call 24; exact Calls.quiet_of_same (room_calls (HA.drewN _)))
    | (go_at_call 16; exact Calls.quiet_of_same (used_calls (HA.drewN _))))
  go_wp2
  have hkq : Below w1.heap.size w1 (w1.drewN nq) := below_draws _ _ _
  obtain ⟨w2, hw2⟩ : ∃ w2, w1.drewN nq = w2 := ⟨_, rfl⟩
  rw [hw2] at hkq ⊢
  have HI2 := hid (show AddInv w1 S g gd lb r t tiles d cs b w2 a n c b S cs from
    ⟨HI.out.bytes.keep hkq, HI.out.off, HI.out.sys.keep hkq, rfl, HI.out.room, Grows.refl _ _, (Fr.ofBelow hkq).nilMono⟩)
  clear hw2 hkq HI HA HN HV q1 q2 c0
  go_loopw [2] (fun bv wr => ∃ (a : Option Addr) (m cap : Nat) (bb : List UInt8) (S1 : List Nat) (cs1 : List Ck), bv = .slice a m cap ∧ AddInv w1 S g gd lb r t tiles d cs b wr a m cap bb S1 cs1) (fun bv wr => (match bv with | .slice _ m _ => 2 * m | _ => 0) + full1 wr lb t)
  case atStart => exact ⟨a, n, c, b, S, cs, rfl, HI2.out⟩
  case round =>
    clear HI2
    obtain ⟨a, m, cap, bb, S1, cs1, rfl, hi⟩ := hrel
    have hlen := hi.bytes.len
    have htg : (tiles.set t cs1)[t]? = some cs1 := by simp [htt]
    by_cases hbb : bb = []
    · subst hbb
      obtain rfl : m = 0 := by simpa using hlen.symm
      have HI := hid hi
      clear hi hlen
      go_wp2
      go_ret
      exact ⟨rfl, S1, cs1, HI.out.sys, by rw [← HI.out.same, addS_nil], HI.out.grows, HI.out.fr⟩
    · have hm : 0 < m := by rw [← hlen]; exact List.length_pos_iff.2 hbb
      have h64 := hi.sys.len64 htg
      have HI := hid hi
      have hsy := hi.sys
      obtain ⟨SA, SD, SL, free, U, most, mem, h, hS1⟩ := hsy
      have hcnt : cs1.length ≤ 1000000 := by have := hi.sys.count htg; omega
      have hls := h.ls
      obtain ⟨cb, vs, hl, hSL⟩ := hls
      have c2 := cell_at hl.top 2
      have c0 := cell_at hl.top 0
      obtain ⟨a1, cap1, hv, ct, ft, ho, hvl, hle1, hmx1⟩ := hl.at htg
      unfold maxLen at hmx1
      have hfull := hl.full htg h64
      have z0 : (0 : Int) ≤ (t : Int) := Int.natCast_nonneg _
      by_cases hlf : left (cs1.map Ck.sh) = 0
      · have hr := h.ar.nodup
        have hUr : U.length < r := by
          have h1 := HI.out.room
          rw [← h.rel.hereN] at h1
          unfold needN at h1
          rw [hlf, hlen] at h1
          omega
        obtain ⟨fs, z, rfl, hz⟩ := h.ar.last hUr
        have HZ := hid (h.ar.notin (z := (z : Int)) (by simp))
        have HAR := hid h.ar
        have HX := hid h
        have HL := hid hl
        have HO := hid ho
        have hway : (cs1.length = 0) ∨ (∃ k g1, cs1.length = k + 1 ∧ a1 = some ⟨g1, 0, none⟩ ∧ wr.cell? ⟨g1, k * 3, none⟩ = some (.bool true)) ∨ (∃ k g1, cs1.length = k + 1 ∧ a1 = some ⟨g1, 0, none⟩ ∧ wr.cell? ⟨g1, k * 3, none⟩ = some (.bool false) ∧ wr.cell? ⟨g1, k * 3 + 2, none⟩ = some (.int .i64 64)) := by
          rcases List.eq_nil_or_concat cs1 with hc | ⟨ms, ⟨aw, y, x⟩, hc⟩
          · exact .inl (by rw [hc]; rfl)
          · rw [List.concat_eq_append] at hc
            subst hc
            obtain ⟨g1, h1, k0, k2⟩ := last_cells ho
            have h3 : x.length ≤ 64 := h64 ⟨aw, y, x⟩ (by simp)
            rw [List.map_append] at hlf
            have h2 : left (ms.map Ck.sh ++ [(aw, x)]) = 0 := hlf
            rw [left_snoc] at h2
            cases aw with
            | true => exact .inr (.inl ⟨ms.length, g1, by simp, h1, k0⟩)
            | false =>
              simp only [Bool.false_eq_true, if_false] at h2
              have h4 : (x.length : Int) = 64 := by omega
              exact .inr (.inr ⟨ms.length, g1, by simp, h1, k0, by rw [k2]; show some (Value.int .i64 (x.length : Int)) = _; rw [h4]⟩)
        have HLF := hid hlf
        rw [if_pos hlf] at hfull
        have HFU := hid hfull
        have HCN := hid hcnt
        have HV := hid hv
        have HUR := hid hUr
        obtain ⟨L, hL⟩ : ∃ L, cs1.length = L := ⟨_, rfl⟩
        rw [hL] at ct hle1 hway HO HV
        have HLL := hid hL
        clear h ho hv hr hi hfull hlf hUr hl hL hcnt h64 hz
        rcases hway with rfl | ⟨k, g1, rfl, rfl, k0⟩ | ⟨k, g1, rfl, rfl, k0, k2⟩
        all_goals
          go_wp2_with (go_at_call 25; refine (take_ok HAR.out).mono ?_; rintro e w4 ⟨rfl, SA', hA1, hG1, hf1⟩; have HA1 := hid hA1; have HG1 := hid hG1; have HF1 := hid hf1; clear hA1 hG1 hf1)
          have hl4 := HL.out.fr HF1.out (fun k hk hm => HX.out.al k hm (hSL ▸ hk))
          have hk5 : Below w4.heap.size w4 (w4.drew.alloc (.cells #[.bool false, .int .i64 (z : Int), .int .i64 0] 73)) := (Below.refl _ _).drew.alloc (by simp) _
          have HK5 := hid hk5
          have hl5 := hl4.keep hk5
          have HL5 := hid hl5
          have s0 := cell_at (hl4.keep (Below.refl _ _).drew).top 2
          have s1 := cell_at hl5.top 2
          have HO4 := hid (own_fr HO.out HF1.out (fun k hk hm => HX.out.al k hm (by rw [hSL]; have := vs_mem HV.out hk; simp [lsBlocks, this])))
          have HO5 := own_keep HO4.out ((Below.refl _ _).drew)
          have HO6 := hid (show OwnL 73 3 Ck.cells w4.drew 0 _ cs1 from HO5)
          simp only [List.getElem?_toArray, List.getElem?_cons_zero, List.getElem?_cons_succ] at s0 s1
          clear hl4 hk5 hl5 c0 c2 ct ft HO5
          go_region_held_law (fun w' => w'.cell? ⟨lb, 2, none⟩ = some (.slice (some ⟨cb, 0, none⟩) vs.length vs.length)) (first | exact s0 | exact s1 | exact s2 | exact s3)
            ((refine step_app_rec Try.elCk ck_sz ck_one ⟨false, (z : Int), []⟩ (by rfl) (.tmp 84) (.tmp 87) (by rfl) (by rfl) HO6.out (by rfl) (by rfl) (by rfl) (by decide) HCN.out (Nat.zero_le _) ?_; intro v6 w6 ho6 hg6 hl6; obtain ⟨s2, c6, f6, s3⟩ := HL5.out.grown6 hg6 HV.out v6; have HO7 := hid ho6; have HG7 := hid hg6; have HL7 := hid hl6; obtain ⟨a6, n6, q6, rfl⟩ : ∃ a n q, v6 = Value.slice a n q := (by obtain ⟨a6, q6, e, _⟩ := ho6.read; exact ⟨_, _, _, e⟩); clear ho6 hg6 hl6))
          obtain ⟨S2, hs2, hg2, hf2⟩ := sys_pushed HX.out htg HA1.out HG1.out HF1.out HZ.out HUR.out HK5.out HL5.out HV.out hSL HO7.out HG7.out (HL7.out.imp_right (fun e => by rw [e]; simp))
          rw [List.set_set] at hs2
          rw [← hS1] at hg2 hf2
          have hm2 := hs2.full (t := t) (by simp [htt]; rfl)
          rw [List.map_append, List.map_singleton, show left (cs1.map Ck.sh ++ [Ck.sh ⟨false, (z : Int), []⟩]) = 64 from left_snoc _ _ _, if_neg (by decide)] at hm2
          have HM2 := hid hm2
          have HI7 := hid (HI.out.push htt HLF.out hbb hs2 hg2 hf2)
          clear hs2 hg2 hf2 hm2
          go_wp2
          go_roundw
          case rel => exact ⟨a, m, cap, bb, S2, _, rfl, HI7.out⟩
          case measure =>
            have h1 := HM2.out
            have h2 := HFU.out
            simp only [h1, h2]
            omega
      · have hcs : ∃ ms y x, cs1 = ms ++ [⟨false, y, x⟩] ∧ x.length < 64 := by
          rcases List.eq_nil_or_concat cs1 with hc | ⟨ms, ⟨aw, y, x⟩, hc⟩
          · rw [hc] at hlf; exact absurd rfl hlf
          · rw [List.concat_eq_append] at hc
            subst hc
            rw [List.map_append] at hlf
            have h2 : ¬ left (ms.map Ck.sh ++ [(aw, x)]) = 0 := hlf
            rw [left_snoc] at h2
            cases aw with
            | true => simp at h2
            | false => exact ⟨ms, y, x, rfl, by simp at h2; omega⟩
        obtain ⟨ms, y, x, rfl, hx64⟩ := hcs
        have hmem : (⟨false, y, x⟩ : Ck) ∈ (tiles.set t (ms ++ [⟨false, y, x⟩])).flatten := (tile_last htt ms _).mem_iff.2 (List.mem_cons_self ..)
        have hy0 := h.rel.here _ hmem rfl
        obtain ⟨z, hz⟩ : ∃ z : Nat, y = (z : Int) := ⟨y.toNat, by have := hy0.1; simp only [] at this; omega⟩
        subst hz
        have hzU : (z : Int) ∈ U := h.rel.memU hmem rfl
        have hrel := h.rel.perm (tile_last htt ms ⟨false, z, x⟩).symm
        have hUn := h.ar.nodup.1
        obtain ⟨g1, rfl, k0, k2⟩ := last_cells ho
        have k1 := ho.cells ck_sz (by decide) ms.length (by simp) 1 (by decide)
        simp only [List.getElem_append_right (Nat.le_refl _), Nat.sub_self, List.getElem_singleton, Ck.cells, List.getElem?_cons_zero, List.getElem?_cons_succ, Nat.add_zero] at k1
        simp only [] at k0 k2
        obtain ⟨bk, off, rfl, hlt, hcells⟩ := hi.bytes.row (by simpa using hbb)
        have hcap : m ≤ cap ∧ cap ≤ maxLen := ⟨hi.bytes.le, hi.bytes.max⟩
        unfold maxLen at hcap
        rw [List.length_append, List.length_singleton] at ct hle1 hv
        obtain ⟨k, hk⟩ : ∃ k, ms.length = k := ⟨_, rfl⟩
        obtain ⟨q, hq⟩ : ∃ q, x.length = q := ⟨_, rfl⟩
        rw [hk] at ct hle1 hv k0 k1 k2
        rw [hq] at k2 hx64
        obtain ⟨N, hN, hN2⟩ : ∃ N : Nat, (if 64 - (q : Int) < (m : Int) then 64 - (q : Int) else (m : Int)) = (N : Int) ∧ N = min m (64 - q) := ⟨min m (64 - q), by split <;> omega, rfl⟩
        have hb1 : 0 < N := by omega
        have hb2 : N ≤ m := by omega
        have hb3 : q + N ≤ 64 := by omega
        have e1 : ((q : Int) == 64) = false := beq_eq_false_iff_ne.2 (by omega)
        have HN2 := hid hN2
        have HK := hid hk
        have HQ := hid hq
        have HX := hid h
        have HL := hid hl
        have HO := hid ho
        have HV := hid hv
        have HREL := hid hrel
        have HU := hid hzU
        have HUN := hid hUn
        have hyb := hi.bytes
        have HYB := hid hyb
        clear h ho hv hi hfull hlf hl hcnt h64 hN2 hk hq hrel hzU hUn hyb hmem hy0 hcells
        go_upto_region 16 with (fail)
        have hkd : Below wr.heap.size wr wr.drew := (Below.refl _ _).drew
        have hld := HL.out.keep hkd
        obtain ⟨s0, s1, s2, _⟩ := hld.reads htg HV.out HK.out
        have hyd : Bytes wr.drew (some ⟨bk, off, none⟩) N cap (bb.take N) := (HYB.out.front N hb2).drew
        have HYD := hid hyd
        have HAD := hid (HX.out.ar.keep hkd)
        have HLD := hid hld
        simp only [HQ.out] at s2
        have HS0 := hid (And.intro s0 (And.intro s1 s2))
        clear hkd hld hyd c0 c2 ct ft k0 k1 k2 s0 s1 s2
        go_region_held (fun w' => w'.cell? ⟨lb, 0, none⟩ = some (.pointer (some ⟨g, 0, none⟩)) ∧ w'.cell? ⟨g1, k * 3 + 1, none⟩ = some (.int .i64 (z : Int)) ∧ w'.cell? ⟨g1, k * 3 + 2, none⟩ = some (.int .i64 (q : Int))) (first | exact HS0.out | exact HS6.out)
          (first | (go_at_call 26; refine (write_ok HAD.out z HU.out q HYD.out hb3).mono ?_; rintro e w6 ⟨rfl, hA6, hf6⟩; have hl6 := HLD.out.fr hf6 (fun k hk hm => HX.out.al k hm (hSL ▸ hk)); obtain ⟨r0, r1, r2, r3⟩ := hl6.reads htg HV.out HK.out; simp only [HQ.out] at r2; have HS6 := hid (And.intro r0 (And.intro r1 r2)); have HA6 := hid hA6; have HF6 := hid hf6; clear hA6 hf6 hl6 r0))
        have hfw : Fr SA wr w6 := (Fr.ofBelow (Below.refl _ _).drew).nilMono.trans HF6.out (Grows.refl _ _)
        have hys : (bb.take N).length = N := by rw [List.length_take]; omega
        have hfin := sys_filled HX.out htt (ys := bb.take N) (by rw [HQ.out]; exact HA6.out) hfw HL.out HV.out hSL (by rw [HQ.out, hys]; exact hb3)
        rw [HK.out, HQ.out, hys, ← hS1] at hfin
        obtain ⟨hs7, hf7⟩ := hfin
        have hm7 := hs7.full (t := t) (by simp [htt]; rfl)
        have hle7 : full1 (w6.setCell ⟨g1, k * 3 + 2, none⟩ (.int .i64 ((q : Int) + (N : Int)))) lb t ≤ 1 := by rw [hm7]; split <;> omega
        have HM7 := hid hle7
        have hy7 := HYB.out.fr hf7 (by have := HI.out.off hbb; exact this)
        have hI7 := fun (a1 : Option Addr) (m1 cap1 : Nat) (h1 : Bytes (w6.setCell ⟨g1, k * 3 + 2, none⟩ (.int .i64 ((q : Int) + (N : Int)))) a1 m1 cap1 (bb.drop N)) (h2 : bb.drop N ≠ [] → ∀ p, a1 = some p → ∃ p' : Addr, (some ⟨bk, off, none⟩ : Option Addr) = some p' ∧ p'.block = p.block) =>
          HI.out.fill (z := z) (x := x) htt (by rw [HQ.out]; exact hx64) (by rw [HQ.out, hlen]; exact HN2.out) hs7 hf7 h1 h2
        have HI7 := hid hI7
        have HY7 := hid hy7
        clear hfw hys hs7 hf7 hm7 hle7 hy7 hI7
        by_cases hcN : cap = N
        · obtain rfl : m = N := by omega
          obtain rfl := hcN
          go_wp2
          go_roundw
          case rel =>
            refine ⟨_, _, _, bb.drop cap, S1, _, rfl, HI7.out _ _ _ ?_ ?_⟩
            · have e : bb.drop cap = [] := List.drop_of_length_le (by omega)
              rw [e]
              exact sl_zero _ _
            · intro hne; exact absurd (List.drop_of_length_le (by omega)) hne
          case measure =>
            have h1 := HM7.out
            simp only []
            omega
        · go_wp2
          go_roundw
          case rel =>
            refine ⟨_, _, _, bb.drop N, S1, _, rfl, HI7.out _ _ _ (Bytes.back HY7.out N hb2) ?_⟩
            rintro _ p hp
            cases hp
            exact ⟨_, rfl, rfl⟩
          case measure =>
            have h1 := HM7.out
            simp only []
            omega
end Go.Proofs.Ytakobldhjndeiaa
