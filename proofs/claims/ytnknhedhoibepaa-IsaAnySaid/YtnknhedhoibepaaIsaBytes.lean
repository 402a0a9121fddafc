/-
  A program's bytes, plain.
-/
import Derived.Test.YtnknhedhoibepaaPutW
import Derived.Test.YtnknhedhoibepaaIsaP
namespace Go.Proofs.Ytnknhedhoibepaa
open Go.RowKit

open Isa
def by8 (z : Int) : UInt8 := UInt8.ofNat z.toNat
theorem u8_by8 {z : Int} (h : 0 ≤ z ∧ z < 256) : u8 (by8 z) = .int .u8 z := by
  unfold u8 by8
  rw [ofNat_lo (by omega)]
  congr 1
  omega
def insBytes (x : Ins) : List UInt8 := [by8 x.op, by8 x.dst, by8 x.a, by8 x.b] ++ encN (zig x.imm)
def progBytes (l : List Ins) : List UInt8 := encN l.length ++ (l.map insBytes).flatten
theorem insBytes_len {x : Ins} (h : x.good) : (insBytes x).length ≤ 15 := by
  unfold Ins.good at h
  unfold insBytes
  have := encN_ten (zig x.imm) (Nat.lt_of_lt_of_eq (zig_lt _ (by omega)) rfl)
  rw [List.length_append]; simp only [List.length_cons, List.length_nil]; omega
theorem insB_len : ∀ {l : List Ins}, (∀ x ∈ l, x.good) → ((l.map insBytes).flatten).length ≤ 15 * l.length
  | [], _ => by simp
  | x :: l, h => by
    have h1 := insBytes_len (h x (by simp))
    have h2 := insB_len (l := l) (fun y hy => h y (List.mem_cons_of_mem _ hy))
    simp only [List.map_cons, List.flatten_cons, List.length_append, List.length_cons]; omega
theorem insB_take {l : List Ins} {j : Nat} {x : Ins} (h : l[j]? = some x) : ((l.take (j + 1)).map insBytes).flatten = ((l.take j).map insBytes).flatten ++ insBytes x := by
  have hi : j < l.length := by
    rcases Nat.lt_or_ge j l.length with h1 | h1
    · exact h1
    · rw [List.getElem?_eq_none h1] at h; cases h
  have e : l[j] = x := by rw [List.getElem?_eq_getElem hi] at h; exact Option.some.inj h
  rw [List.take_succ_eq_append_getElem hi, List.map_append, List.flatten_append, e]; simp
end Go.Proofs.Ytnknhedhoibepaa
