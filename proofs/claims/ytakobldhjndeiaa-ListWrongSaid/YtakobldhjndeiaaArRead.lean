/-
  The arena: what is told; what is refused; a nil one.
-/
import Derived.Test.YtakobldhjndeiaaArena
namespace Go.Proofs.Ytakobldhjndeiaa
open Go.RowKit

theorem zero_bool (w : World) : (zeroValue 4).run Try.prog w = .ok (.bool false) w := by kernel_rfl
theorem dget_set {U : List Int} (h : ((U.map (fun z => (z, Value.bool true))).map (·.1)).Nodup) (z : Int) : dget (U.map (fun z => (z, Value.bool true))) z (.bool false) = .bool (decide (z ∈ U)) := by
  by_cases hz : z ∈ U
  · have := (dget_some h (List.mem_map.2 ⟨z, hz, rfl⟩) (.bool false)).1
    rw [this]; simp [hz]
  · have := (dget_none (L := U.map (fun z => (z, Value.bool true))) (z := z) (by
      intro p hp
      obtain ⟨y, hy, rfl⟩ := List.mem_map.1 hp
      rintro rfl; exact hz hy) (.bool false)).1
    rw [this]; simp [hz]
theorem Arx.look {w : World} {g gb mb : Nat} {fv : Value} {bl : List (Option Nat)} {free U : List Int} {most : Int} {mem : Nat → List UInt8} (h : Arx w g gb mb fv bl free U most mem) (z : Int) (wz : -9223372036854775808 ≤ z ∧ z < 9223372036854775808) {u : Bool} (hu : decide (z ∈ U) = u) :
    (Instr.lookup 63 (.map (some mb)) (.int .i64 z) false).run Try.prog w = .ok (.bool u) w := by
  have := h.map.look (P := Try.prog) Try.underlying63 Try.underlying3 (zero_bool w) false (z := z) (WalkArith.wf_i64 (by omega))
  rw [this, ← hu]
  simp only [Bool.false_eq_true, if_false]
  rw [dget_set h.map.nodup]

set_option maxRecDepth 10000 in
theorem used_calls {w : World} {g : Nat} {S : List Nat} {r : Nat} {free U : List Int} {most : Int} {mem : Nat → List UInt8} (h : Ar w g S r free U most mem) :
    Calls Try.prog 16 #[.pointer (some ⟨g, 0, none⟩)] w fun e w' => e = .returned (.int .i64 U.length) ∧ w' = w := by
  obtain ⟨gb, mb, fv, bl, h, rfl, rfl⟩ := h
  have c2 := cell_at h.top 2
  have hl := fun ty => h.map.len (P := Try.prog) Try.underlying63 ty
  simp only [List.length_map] at hl
  go_enter Try.func16, Try.ntmps16
  go_wp2
  go_ret
  exact ⟨rfl, rfl⟩
set_option maxRecDepth 10000 in
theorem most_calls {w : World} {g : Nat} {S : List Nat} {r : Nat} {free U : List Int} {most : Int} {mem : Nat → List UInt8} (h : Ar w g S r free U most mem) :
    Calls Try.prog 21 #[.pointer (some ⟨g, 0, none⟩)] w fun e w' => e = .returned (.int .i64 most) ∧ w' = w := by
  obtain ⟨gb, mb, fv, bl, h, rfl, rfl⟩ := h
  have c3 := cell_at h.top 3
  go_enter Try.func21, Try.ntmps21
  go_wp2
  go_ret
  exact ⟨rfl, rfl⟩
set_option maxRecDepth 10000 in
theorem room_calls {w : World} {g : Nat} {S : List Nat} {r : Nat} {free U : List Int} {most : Int} {mem : Nat → List UInt8} (h : Ar w g S r free U most mem) :
    Calls Try.prog 24 #[.pointer (some ⟨g, 0, none⟩)] w fun e w' => e = .returned (.int .i64 r) ∧ w' = w := by
  obtain ⟨gb, mb, fv, bl, h, rfl, rfl⟩ := h
  have c0 := cell_at h.top 0
  go_enter Try.func24, Try.ntmps24
  go_wp2
  go_ret
  exact ⟨rfl, rfl⟩
set_option maxRecDepth 10000 in
theorem give_none {w : World} {g : Nat} {S : List Nat} {r : Nat} {free U : List Int} {most : Int} {mem : Nat → List UInt8} (h : Ar w g S r free U most mem) (n : Int) (wn : -9223372036854775808 ≤ n ∧ n < 9223372036854775808) (hn : n ∉ U) :
    Calls Try.prog 29 #[.pointer (some ⟨g, 0, none⟩), .int .i64 n] w fun e w' => e = .returned (.int .i64 9) ∧ w' = w := by
  obtain ⟨gb, mb, fv, bl, h, rfl, rfl⟩ := h
  have c2 := cell_at h.top 2
  have hl := h.look n wn (u := false) (by simp [hn])
  go_enter Try.func29, Try.ntmps29
  go_wp2
  go_ret
  exact ⟨rfl, rfl⟩
set_option maxRecDepth 10000 in
theorem write_none {w : World} {g : Nat} {S : List Nat} {r : Nat} {free U : List Int} {most : Int} {mem : Nat → List UInt8} (h : Ar w g S r free U most mem) (n : Int) (wn : -9223372036854775808 ≤ n ∧ n < 9223372036854775808) (hn : n ∉ U) (at_ : Int) (a : Option Addr) (l c : Nat) :
    Calls Try.prog 26 #[.pointer (some ⟨g, 0, none⟩), .int .i64 n, .int .i64 at_, .slice a l c] w fun e w' => e = .returned (.int .i64 9) ∧ w' = w := by
  obtain ⟨gb, mb, fv, bl, h, rfl, rfl⟩ := h
  have c2 := cell_at h.top 2
  have hl := h.look n wn (u := false) (by simp [hn])
  go_enter Try.func26, Try.ntmps26
  go_wp2
  go_ret
  exact ⟨rfl, rfl⟩
set_option maxRecDepth 10000 in
theorem bytes_none {w : World} {g : Nat} {S : List Nat} {r : Nat} {free U : List Int} {most : Int} {mem : Nat → List UInt8} (h : Ar w g S r free U most mem) (n : Int) (wn : -9223372036854775808 ≤ n ∧ n < 9223372036854775808) (hn : n ∉ U) :
    Calls Try.prog 27 #[.pointer (some ⟨g, 0, none⟩), .int .i64 n] w fun e w' => e = .returned (.tuple #[.slice none 0 0, .int .i64 9]) ∧ w' = w := by
  obtain ⟨gb, mb, fv, bl, h, rfl, rfl⟩ := h
  have c2 := cell_at h.top 2
  have hl := h.look n wn (u := false) (by simp [hn])
  go_enter Try.func27, Try.ntmps27
  go_wp2
  go_ret2
  exact ⟨rfl, rfl⟩

set_option maxRecDepth 10000 in
theorem take_nil (w : World) : Calls Try.prog 25 #[.pointer none] w fun e w' => e = .returned (.tuple #[.int .i64 0, .int .i64 1]) ∧ w' = w := by
  go_enter Try.func25, Try.ntmps25
  go_wp2
  go_ret2
  exact ⟨rfl, rfl⟩
set_option maxRecDepth 10000 in
theorem bytes_nil (n : Int) (w : World) : Calls Try.prog 27 #[.pointer none, .int .i64 n] w fun e w' => e = .returned (.tuple #[.slice none 0 0, .int .i64 1]) ∧ w' = w := by
  go_enter Try.func27, Try.ntmps27
  go_wp2
  go_ret2
  exact ⟨rfl, rfl⟩
set_option maxRecDepth 10000 in
theorem give_nil (n : Int) (w : World) : Calls Try.prog 29 #[.pointer none, .int .i64 n] w fun e w' => e = .returned (.int .i64 1) ∧ w' = w := by
  go_enter Try.func29, Try.ntmps29
  go_wp2
  go_ret
  exact ⟨rfl, rfl⟩
set_option maxRecDepth 10000 in
theorem write_nil (n at_ : Int) (a : Option Addr) (l c : Nat) (w : World) : Calls Try.prog 26 #[.pointer none, .int .i64 n, .int .i64 at_, .slice a l c] w fun e w' => e = .returned (.int .i64 1) ∧ w' = w := by
  go_enter Try.func26, Try.ntmps26
  go_wp2
  go_ret
  exact ⟨rfl, rfl⟩
theorem used_nil (w : World) : Calls Try.prog 16 #[.pointer none] w fun e w' => e = .returned (.int .i64 0) ∧ w' = w := by
  go_enter Try.func16, Try.ntmps16
  go_wp2
  go_ret
  exact ⟨rfl, rfl⟩
theorem most_nil (w : World) : Calls Try.prog 21 #[.pointer none] w fun e w' => e = .returned (.int .i64 0) ∧ w' = w := by
  go_enter Try.func21, Try.ntmps21
  go_wp2
  go_ret
  exact ⟨rfl, rfl⟩
theorem room_nil (w : World) : Calls Try.prog 24 #[.pointer none] w fun e w' => e = .returned (.int .i64 0) ∧ w' = w := by
  go_enter Try.func24, Try.ntmps24
  go_wp2
  go_ret
  exact ⟨rfl, rfl⟩
end Go.Proofs.Ytakobldhjndeiaa
