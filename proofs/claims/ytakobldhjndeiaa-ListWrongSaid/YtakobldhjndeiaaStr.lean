/-
  Strings out of bytes, and bytes out of strings.
-/
import Derived.Test.YtakobldhjndeiaaAppB
import Derived.Laws.BytesArg
import Derived.Laws.BytesString
import Derived.Laws.Concat
namespace Go.Proofs.Ytakobldhjndeiaa
open Go.RowKit

/-- The string of some bytes. -/
def str (bs : List UInt8) : ByteArray := ⟨bs.toArray⟩
theorem str_data (bs : List UInt8) : (str bs).data.toList = bs := by simp [str]
theorem str_size (bs : List UInt8) : (str bs).size = bs.length := by simp [str, ByteArray.size]
theorem str_toList (bs : List UInt8) : (str bs).toList = bs := by rw [ByteArray.toList_eq, str_data] 
theorem str_beq (a b : List UInt8) : ((str a).toList == (str b).toList) = (a == b) := by rw [str_toList, str_toList]

/-- 'string(b)'. -/
theorem run_str {P : Program} {w : World} {a : Option Addr} {n cap : Nat} {bs : List UInt8} (h : Bytes w a n cap bs) (src dst e : TypeId) (hs : P.underlying src = some (.slice e)) (he : P.underlying e = some (.int .u8)) (hd : P.underlying dst = some .string) :
    (convert src dst (.slice a n cap)).run P w = .ok (.string (str bs)) w := by
  have hlen := h.len
  subst hlen
  rw [run_convert_bytes_string w src dst e a _ cap hs he hd]
  cases a with
  | none =>
    have hc := Sl.nil h rfl
    have : bs = [] := by
      have := Sl.le h
      exact List.eq_nil_of_length_eq_zero (by omega)
    subst this
    simp [Conv.bytesToString, str]
    rfl
  | some ad =>
    have hl : (loadCells ad bs.length).run P w = .ok ((bs.map fun c => (c.toNat : Int)).map (Value.int .u8)).toArray w := by
      have := run_loadCells_list (P := P) w ad ((bs.map fun c => (c.toNat : Int)).map (Value.int .u8)) (fun j v hj => by
        have hjl : j < bs.length := by
          rcases Nat.lt_or_ge j bs.length with h | h
          · exact h
          · rw [List.getElem?_eq_none (by simpa using h)] at hj; simp at hj
        obtain ⟨b, off, h1, h2⟩ := h.at j hjl
        simp only [Option.some.injEq] at h1
        subst h1
        rw [add_addr, h2, ← hj]
        simp [hjl])
      simpa using this
    rw [run_bytesToString w ad bs.length cap _ hl, foldl_push_bytes]
    congr 2
    simp [str, ByteArray.empty, ByteArray.emptyWithCapacity]
    show [] ++ _ = _
    rw [List.nil_append]
    conv => rhs; rw [← List.map_id bs]
    apply List.map_congr_left
    intro x _
    simp

theorem str_append (a b : List UInt8) : str a ++ str b = str (a ++ b) := by
  apply ByteArray.ext
  simp [str]
theorem run_str_add {P : Program} (a b : List UInt8) (h : a.length + b.length ≤ 4611686018427387904) (w : World) : (Op.stringOp .add (str a) (str b)).run P w = .ok (.string (str (a ++ b))) w := by
  rw [run_string_add_sum w (str a) (str b) (by rw [str_size, str_size]; omega), str_append]
end Go.Proofs.Ytakobldhjndeiaa
