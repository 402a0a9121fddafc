/-
  The methods of the tiles, through an interface.
-/
import Derived.Test.YtekimoblmcbjlaaStHeap
import Derived.WalkSpells
namespace Go.Proofs.Ytekimoblmcbjlaa
open Go.RowKit

theorem load_slice {W : World} {a : Addr} {v : Value} (hc : W.cell? a = some v) : (loadVar 35 a).run Try.prog W = .ok v W := by
  have e : (loadVar 35 a).run Try.prog W = (load a).run Try.prog W := by kernel_rfl
  rw [e]
  simp [go_sem, hc]
theorem find_meth {t : TypeId} {name : String} {m : Method} (h : (Try.prog.info? t).bind (fun i => i.methods.find? (fun x => x.name == name)) = some m) : ∃ i, Try.prog.info? t = some i ∧ i.methods.find? (fun x => x.name == name) = some m := by
  cases hi : Try.prog.info? t with
  | none => rw [hi] at h; cases h
  | some i => rw [hi] at h; exact ⟨i, rfl, h⟩
theorem run_typeInfo {t : TypeId} {i : TypeInfo} (h : Try.prog.info? t = some i) (W : World) : (typeInfo t).run Try.prog W = .ok i W := by
  simp [typeInfo, Result.andThen, h]
/-- A promoted method, of the embedded slice. -/
theorem meth_up {W : World} {g f : Nat} {v : Value} {name : String} {sg : TypeId} (hc : W.cell? ⟨g, 0, none⟩ = some v) (hm : (Try.prog.info? 41).bind (fun i => i.methods.find? (fun x => x.name == name)) = some ⟨name, sg, #[⟨37, 0, true⟩], some (f, false)⟩) :
    (method 167 41 (.pointer (some ⟨g, 0, none⟩)) name).run Try.prog W = .ok (f, v) W := by
  obtain ⟨i, hi, hf⟩ := find_meth hm
  have h1 : (follow [⟨37, 0, true⟩] 41 (.val (.pointer (some ⟨g, 0, none⟩)))).run Try.prog W = .ok (35, .var ⟨g, 0, none⟩) W := by kernel_rfl
  have h2 : (receiverAt 35 (.var ⟨g, 0, none⟩) false none).run Try.prog W = (loadVar 35 ⟨g, 0, none⟩).run Try.prog W := by kernel_rfl
  rw [method]
  simp only [Sem.run_bind, run_typeInfo hi, Result.andThen_ok, hf, h1]
  simp [h2, load_slice hc]
theorem meth_len {W : World} {g : Nat} {v : Value} (hc : W.cell? ⟨g, 0, none⟩ = some v) : (method 167 41 (.pointer (some ⟨g, 0, none⟩)) "Len").run Try.prog W = .ok (32, v) W := meth_up (sg := 31) hc (by kernel_rfl)
theorem meth_less {W : World} {g : Nat} {v : Value} (hc : W.cell? ⟨g, 0, none⟩ = some v) : (method 167 41 (.pointer (some ⟨g, 0, none⟩)) "Less").run Try.prog W = .ok (33, v) W := meth_up (sg := 50) hc (by kernel_rfl)
theorem meth_swap {W : World} {g : Nat} {v : Value} (hc : W.cell? ⟨g, 0, none⟩ = some v) : (method 167 41 (.pointer (some ⟨g, 0, none⟩)) "Swap").run Try.prog W = .ok (35, v) W := meth_up (sg := 47) hc (by kernel_rfl)
theorem meth_pop (W : World) (g : Nat) : (method 167 41 (.pointer (some ⟨g, 0, none⟩)) "Pop").run Try.prog W = .ok (36, .pointer (some ⟨g, 0, none⟩)) W := by kernel_rfl
theorem meth_push (W : World) (g : Nat) : (method 167 41 (.pointer (some ⟨g, 0, none⟩)) "Push").run Try.prog W = .ok (37, .pointer (some ⟨g, 0, none⟩)) W := by kernel_rfl
end Go.Proofs.Ytekimoblmcbjlaa
