/-
  The device: what it tells of itself; the nil one; is a number one of some?
-/
import Derived.Test.YtakobldhjndeiaaDev
namespace Go.Proofs.Ytakobldhjndeiaa
open Go.RowKit

theorem BlockAt.fr {w w' : World} {X S : List Nat} {v : Value} {bs : List UInt8} (h : BlockAt w X v bs) (hf : Fr S w w') (hn : ∀ k, v.ownBlock = some k → k ∉ S) : BlockAt w' X v bs := by
  obtain ⟨b, c, rfl, h1, h2, h3⟩ := h
  exact ⟨b, c, rfl, h1, h2, Sl.fr h3 hf (fun p hp => by cases hp; exact hn _ rfl)⟩
theorem BlockAt.frX {w w' : World} {X : List Nat} {v : Value} {bs : List UInt8} (h : BlockAt w X v bs) (hf : Fr X w w') : BlockAt w' X v bs := by
  have h' := h
  obtain ⟨b, c, rfl, h1, h2, h3⟩ := h
  exact h'.fr hf (fun k hk => by cases hk; exact h1)
theorem Rows.frX {w w' : World} {X : List Nat} (hf : Fr X w w') : ∀ {V : List (Int × Value)} {L : List (Int × List UInt8)}, Rows w X V L → Rows w' X V L
  | [], [], _ => trivial
  | _ :: _, _ :: _, h => ⟨h.1, h.2.1.frX hf, Rows.frX hf h.2.2⟩
  | [], _ :: _, h => h.elim
  | _ :: _, [], h => h.elim
theorem rows_keys {w : World} {X : List Nat} : ∀ {V : List (Int × Value)} {L : List (Int × List UInt8)}, Rows w X V L → V.map (·.1) = L.map (·.1)
  | [], [], _ => rfl
  | _ :: _, _ :: _, h => by rw [List.map_cons, List.map_cons, h.1, rows_keys h.2.2]
  | [], _ :: _, h => h.elim
  | _ :: _, [], h => h.elim
theorem rows_len {w : World} {X : List Nat} {V : List (Int × Value)} {L : List (Int × List UInt8)} (h : Rows w X V L) : V.length = L.length := by simpa using congrArg List.length (rows_keys h)
theorem rows_none {w : World} {X : List Nat} {V : List (Int × Value)} {L : List (Int × List UInt8)} (h : Rows w X V L) {z : Int} (hz : ∀ q ∈ L, q.1 ≠ z) : ∀ p ∈ V, p.1 ≠ z := by
  intro p hp e
  have : z ∈ L.map (·.1) := by rw [← rows_keys h]; exact List.mem_map.2 ⟨p, hp, e⟩
  obtain ⟨q, hq, e2⟩ := List.mem_map.1 this
  exact hz q hq e2
theorem rows_get {w : World} {X : List Nat} {z : Int} {bs : List UInt8} : ∀ {V : List (Int × Value)} {L : List (Int × List UInt8)}, Rows w X V L → (z, bs) ∈ L → ∃ v, (z, v) ∈ V ∧ BlockAt w X v bs
  | [], [], _, hm => by cases hm
  | (a, v) :: V, (b, bs') :: L, h, hm => by
    rcases List.mem_cons.1 hm with e | hm
    · have e1 : a = z := by have := h.1; simp only at this; rw [this]; exact (congrArg Prod.fst e).symm
      have e2 : bs' = bs := (congrArg Prod.snd e).symm
      subst e1; subst e2
      exact ⟨v, by simp, h.2.1⟩
    · obtain ⟨v', h1, h2⟩ := rows_get h.2.2 hm
      exact ⟨v', List.mem_cons_of_mem _ h1, h2⟩
  | [], _ :: _, h, _ => h.elim
  | _ :: _, [], h, _ => h.elim
theorem rows_filter {w : World} {X : List Nat} (z : Int) : ∀ {V : List (Int × Value)} {L : List (Int × List UInt8)}, Rows w X V L → Rows w X (V.filter (fun p => !(p.1 == z))) (L.filter (fun p => !(p.1 == z)))
  | [], [], _ => trivial
  | (a, v) :: V, (b, bs) :: L, h => by
    have e : a = b := h.1
    subst e
    have ih := rows_filter z h.2.2
    by_cases hz : a = z
    · simpa [hz] using ih
    · simpa [hz] using ⟨rfl, h.2.1, ih⟩
  | [], _ :: _, h => h.elim
  | _ :: _, [], h => h.elim
theorem rows_snoc {w : World} {X : List Nat} {z : Int} {v : Value} {bs : List UInt8} (hv : BlockAt w X v bs) : ∀ {V : List (Int × Value)} {L : List (Int × List UInt8)}, Rows w X V L → Rows w X (V ++ [(z, v)]) (L ++ [(z, bs)])
  | [], [], _ => ⟨rfl, hv, trivial⟩
  | _ :: _, _ :: _, h => ⟨h.1, h.2.1, rows_snoc hv h.2.2⟩
  | [], _ :: _, h => h.elim
  | _ :: _, [], h => h.elim
theorem Rows.keep {w w' : World} {X : List Nat} {V : List (Int × Value)} {L : List (Int × List UInt8)} (h : Rows w X V L) (hb : Below w.heap.size w w') : Rows w' X V L := Rows.frX (Fr.ofBelow hb).nilMono h
theorem Dvx.keep {w w' : World} {g mb bb : Nat} {v1 v2 : Value} {V : List (Int × Value)} {d : Dev} (h : Dvx w g mb bb v1 v2 V d) (hb : Below w.heap.size w w') : Dvx w' g mb bb v1 v2 V d := by
  obtain ⟨a1, n1, c1, e1, s1, o1⟩ := h.full
  obtain ⟨a2, n2, c2, e2, s2, o2⟩ := h.fail
  exact ⟨(Fr.ofBelow hb).heap h.top (by simp), h.map.keep hb, h.rows.keep hb, ⟨a1, n1, c1, e1, s1.keep hb, o1⟩, ⟨a2, n2, c2, e2, s2.keep hb, o2⟩, h.bends.keep hb, h.apart, h.nums, h.room4⟩
theorem Dvx.lt {w : World} {g mb bb : Nat} {v1 v2 : Value} {V : List (Int × Value)} {d : Dev} (h : Dvx w g mb bb v1 v2 V d) : g < w.heap.size ∧ mb < w.heap.size ∧ bb < w.heap.size := ⟨heap_lt h.top, h.map.lt, h.bends.lt⟩

set_option maxRecDepth 10000 in
theorem dused_calls {w : World} {g mb bb : Nat} {v1 v2 : Value} {V : List (Int × Value)} {d : Dev} (h : Dvx w g mb bb v1 v2 V d) :
    Calls Try.prog 19 #[.pointer (some ⟨g, 0, none⟩)] w fun e w' => e = .returned (.int .i64 d.L.length) ∧ w' = w := by
  have c0 := cell_at h.top 0
  have hl := fun ty => h.map.len (P := Try.prog) Try.underlying66 ty
  rw [rows_len h.rows] at hl
  go_enter Try.func19, Try.ntmps19
  go_wp2
  go_ret
  exact ⟨rfl, rfl⟩
theorem dused_nil (w : World) : Calls Try.prog 19 #[.pointer none] w fun e w' => e = .returned (.int .i64 0) ∧ w' = w := by
  go_enter Try.func19, Try.ntmps19
  go_wp2
  go_ret
  exact ⟨rfl, rfl⟩
theorem dput_nil {w : World} {a : Option Addr} {n c : Nat} : Calls Try.prog 28 #[.pointer none, .slice a n c] w fun e w' => e = .returned (.tuple #[.int .i64 0, .int .i64 1]) ∧ w' = w := by
  go_enter Try.func28, Try.ntmps28
  go_wp2
  go_ret2
  exact ⟨rfl, rfl⟩
theorem dtake_nil {w : World} {z : Int} : Calls Try.prog 31 #[.pointer none, .int .i64 z] w fun e w' => e = .returned (.tuple #[.slice none 0 0, .int .i64 1]) ∧ w' = w := by
  go_enter Try.func31, Try.ntmps31
  go_wp2
  go_ret2
  exact ⟨rfl, rfl⟩
theorem ddrop_nil {w : World} {z : Int} : Calls Try.prog 30 #[.pointer none, .int .i64 z] w fun e w' => e = .returned (.int .i64 1) ∧ w' = w := by
  go_enter Try.func30, Try.ntmps30
  go_wp2
  go_ret
  exact ⟨rfl, rfl⟩

set_option maxRecDepth 10000 in
/-- Is a number one of some? -/
theorem damong_calls {a : Option Addr} {n c : Nat} {l : List Int} {w : World} (HI : Ints w a n c l) (z : Int) :
    Calls Try.prog 33 #[.int .i64 z, .slice a n c] w fun e w' => e = .returned (.bool (decide (z ∈ l))) ∧ w' = w := by
  have hlen := HI.len
  subst hlen
  have hbig := Sl.big HI
  have hle := Sl.le HI
  go_enter Try.func33, Try.ntmps33
  go_wp2
  go_loopw [6, 9] (fun _ i wr => ∃ k : Nat, k ≤ l.length ∧ i = .int .i64 k ∧ Hid (∀ (j : Nat) (h : j < l.length), j < k → l[j] ≠ z) ∧ wr = w) (fun _ i _ => l.length - (intOf i).toNat)
  case atStart => exact ⟨0, by omega, rfl, fun j _ hj => by omega, rfl⟩
  case round =>
    obtain ⟨k, hk, rfl, HN, rfl⟩ := hrel
    by_cases hlt : k < l.length
    · obtain ⟨b, off, rfl, k0⟩ := HI.at k hlt
      obtain ⟨x, hx⟩ : ∃ x, l[k] = x := ⟨_, rfl⟩
      rw [hx] at k0
      have HX : Hid _ := hx
      clear hx
      by_cases hz : x = z
      · subst hz
        have hm : x ∈ l := by rw [← HX.out]; exact List.getElem_mem _
        have hd : decide (x ∈ l) = true := by simp [hm]
        have HD := hid hd
        clear hm hd
        go_wp2
        go_ret
        exact ⟨by rw [HD.out]; rfl, by trivial⟩
      · have hz' : (x == z) = false := by simp [hz]
        clear hz
        go_wp2
        go_roundw
        case rel =>
          refine ⟨k + 1, by omega, by go_num, fun j hj hjk => ?_, by trivial⟩
          by_cases e : j = k
          · subst e; rw [HX.out]; simpa using hz'
          · exact HN.out j hj (by omega)
        case measure => simp [intOf]; omega
    · have hm : z ∉ l := by
        intro hm
        obtain ⟨j, hj, e⟩ := List.getElem_of_mem hm
        exact HN.out j hj (by omega) e
      have hd : decide (z ∈ l) = false := by simp [hm]
      have HD := hid hd
      clear hm hd
      go_wp2
      go_ret
      exact ⟨by rw [HD.out]; rfl, by trivial⟩
end Go.Proofs.Ytakobldhjndeiaa
