/-
  The arena: its memory; making one.
-/
import Derived.Test.YtakobldhjndeiaaDict
import Derived.Test.YtakobldhjndeiaaFree
import Derived.Test.YtakobldhjndeiaaAppB
namespace Go.Proofs.Ytakobldhjndeiaa
open Go.RowKit

def cellOf : Option Nat → Value
  | none => .slice none 0 0
  | some b => .slice (some ⟨b, 0, none⟩) 64 64
def rowOf (bl : List (Option Nat)) : Array Value := (bl.map cellOf).toArray

/-- The arena at g: its row of blocks, its map, the numbers that are free, those in use, the most, what the blocks hold. -/
structure Arx (w : World) (g gb mb : Nat) (fv : Value) (bl : List (Option Nat)) (free U : List Int) (most : Int) (mem : Nat → List UInt8) : Prop where
  top : w.heap[g]? = some (.cells #[.slice (some ⟨gb, 0, none⟩) bl.length bl.length, fv, .map (some mb), .int .i64 most] 65 (0, 0))
  row : w.heap[gb]? = some (.cells (rowOf bl) 22 (0, 0))
  map : DictAt w mb (U.map (fun z => (z, Value.bool true)))
  own : FreeI w fv free
  mems : ∀ (i b : Nat), bl[i]? = some (some b) → w.heap[b]? = some (.cells (bytesArr (mem i)) 5 (0, 0)) ∧ (mem i).length = 64
  inj : ∀ (i j b : Nat), bl[i]? = some (some b) → bl[j]? = some (some b) → i = j
  used : ∀ z : Int, z ∈ U ↔ 0 ≤ z ∧ ∃ b, bl[z.toNat]? = some (some b)
  frees : ∀ z : Int, z ∈ free ↔ 0 ≤ z ∧ bl[z.toNat]? = some none
  nodup : free.Nodup
  count : free.length + U.length = bl.length
  most0 : 0 ≤ most ∧ most ≤ 4096
  len : bl.length ≤ 4096

def arBlocks (g gb mb : Nat) (fv : Value) (bl : List (Option Nat)) : List Nat := g :: gb :: mb :: (fv.ownBlock.toList ++ bl.filterMap id)
/-- The arena at g, over the blocks S. -/
def Ar (w : World) (g : Nat) (S : List Nat) (r : Nat) (free U : List Int) (most : Int) (mem : Nat → List UInt8) : Prop :=
  ∃ gb mb fv bl, Arx w g gb mb fv bl free U most mem ∧ S = arBlocks g gb mb fv bl ∧ r = bl.length

theorem Ar.fr {w w' : World} {g : Nat} {S S' : List Nat} {r : Nat} {free U : List Int} {most : Int} {mem : Nat → List UInt8} (h : Ar w g S r free U most mem) (hf : Fr S' w w') (hn : ∀ k ∈ S, k ∉ S') : Ar w' g S r free U most mem := by
  obtain ⟨gb, mb, fv, bl, h, rfl, rfl⟩ := h
  refine ⟨gb, mb, fv, bl, ⟨hf.heap h.top (hn _ (by simp [arBlocks])), hf.heap h.row (hn _ (by simp [arBlocks])), h.map.fr hf (hn _ (by simp [arBlocks])), h.own.fr hf (fun k hk => hn _ (by simp [arBlocks, hk])), ?_, h.inj, h.used, h.frees, h.nodup, h.count, h.most0, h.len⟩, rfl, rfl⟩
  intro i b hb
  obtain ⟨h1, h2⟩ := h.mems i b hb
  exact ⟨hf.heap h1 (hn _ (by simp only [arBlocks, List.mem_cons, List.mem_append, List.mem_filterMap]; exact .inr (.inr (.inr (.inr ⟨some b, List.mem_of_getElem? hb, rfl⟩))))), h2⟩
theorem Ar.keep {w w' : World} {g : Nat} {S : List Nat} {r : Nat} {free U : List Int} {most : Int} {mem : Nat → List UInt8} (h : Ar w g S r free U most mem) (hb : Below w.heap.size w w') : Ar w' g S r free U most mem := h.fr (Fr.ofBelow hb) (fun _ _ hm => by cases hm)
theorem Ar.drewN {w : World} {g : Nat} {S : List Nat} {r : Nat} {free U : List Int} {most : Int} {mem : Nat → List UInt8} (h : Ar w g S r free U most mem) (n : Nat) : Ar (w.drewN n) g S r free U most mem := h.keep (below_draws _ _ _)
theorem Ar.mem {w : World} {g : Nat} {S : List Nat} {r : Nat} {free U : List Int} {most : Int} {mem : Nat → List UInt8} (h : Ar w g S r free U most mem) : g ∈ S := by
  obtain ⟨gb, mb, fv, bl, h, rfl, rfl⟩ := h
  simp [arBlocks]

theorem Try.elRow : El Try.prog 62 22 (.slice none 0 0) 1 24 := ⟨Try.underlying62, by kernel_rfl, rfl, by decide⟩
/-- make([][]byte, n). -/
theorem run_make_rows (w : World) (n : Nat) (hn : n ≤ 4096) :
    (Instr.makeSlice 62 (.int .i64 (n : Int)) (.int .i64 (n : Int))).run Try.prog w = .ok (.slice (some ⟨w.heap.size, 0, none⟩) n n) (w.alloc (.cells (rowOf (List.replicate n none)) 22)) := by
  obtain ⟨i, hi, hz0, hz1, hz2⟩ := info_parts Try.elRow.hi
  have h := run_make w 62 22 i _ Try.elRow.ht hi hz0 .i64 .i64 (n : Int) n (by omega) (by omega) (by rw [hz2]; omega) (by omega)
  rw [h, hz1, Int.toNat_natCast]
  have : madeCells (Value.slice none 0 0).cells (n * 1) = rowOf (List.replicate n none) := by
    apply Array.toList_inj.1
    rw [Nat.mul_one]
    show (madeCells #[Value.slice none 0 0] n).toList = _
    rw [toList_madeCells_one]
    simp [rowOf, cellOf]
  rw [this]

/-- The numbers from r - 1 down to k. -/
def downs (r k : Nat) : List Int := (List.range (r - k)).map (fun j => ((r - 1 - j : Nat) : Int))
theorem downs_all (r : Nat) : downs r r = [] := by simp [downs]
theorem downs_next {r k : Nat} (h : k < r) : downs r k = downs r (k + 1) ++ [(k : Int)] := by
  unfold downs
  rw [show r - k = (r - (k + 1)) + 1 by omega, List.range_succ, List.map_append, List.map_singleton, show r - 1 - (r - (k + 1)) = k by omega]
end Go.Proofs.Ytakobldhjndeiaa
