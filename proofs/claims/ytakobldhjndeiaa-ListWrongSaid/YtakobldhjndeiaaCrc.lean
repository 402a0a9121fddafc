/-
  The sum of chapter 5 as a plain function on bytes and on bits: it is linear, and no run of changed bits within 32 neighbours leaves it as it was.
-/
namespace Go.Proofs.Ytakobldhjndeiaa.Crc

abbrev B32 := BitVec 32
def poly : B32 := 0x04c11db7#32

/-- One bit's step of the register. -/
def step (n : B32) : B32 := if n.msb then (n <<< 1) ^^^ poly else n <<< 1

def steps : Nat → B32 → B32
  | 0, n => n
  | k + 1, n => steps k (step n)

def topByte (c : UInt8) : B32 := (c.toBitVec.setWidth 32) <<< 24

def byteStep (n : B32) (c : UInt8) : B32 := steps 8 (n ^^^ topByte c)
def reg (n : B32) (l : List UInt8) : B32 := l.foldl byteStep n
def sum (l : List UInt8) : B32 := ~~~ (reg (~~~ 0#32) l)

theorem reg_snoc (n : B32) (l : List UInt8) (c : UInt8) : reg n (l ++ [c]) = byteStep (reg n l) c := by simp [reg]

theorem step_xor (a b : B32) : step (a ^^^ b) = step a ^^^ step b := by
  unfold step
  rw [BitVec.msb_xor]
  have hs : (a ^^^ b) <<< 1 = (a <<< 1) ^^^ (b <<< 1) := BitVec.shiftLeft_xor_distrib ..
  cases ha : a.msb <;> cases hb : b.msb <;> simp [hs] 
  · rw [BitVec.xor_assoc]
  · rw [BitVec.xor_assoc, BitVec.xor_assoc, BitVec.xor_comm poly]
  · rw [BitVec.xor_assoc, BitVec.xor_comm poly, BitVec.xor_assoc, BitVec.xor_self, BitVec.xor_zero]

theorem steps_xor (k : Nat) : ∀ a b : B32, steps k (a ^^^ b) = steps k a ^^^ steps k b := by
  induction k with
  | zero => intro a b; rfl
  | succ k ih => intro a b; simp only [steps]; rw [step_xor, ih]

theorem step_zero : step 0#32 = 0#32 := by decide
theorem steps_zero (k : Nat) : steps k 0#32 = 0#32 := by
  induction k with
  | zero => rfl
  | succ k ih => simp only [steps]; rw [step_zero, ih]

/-- The step loses nothing: only nought comes to nought. -/
theorem step_inj0 (n : B32) (h : step n = 0#32) : n = 0#32 := by
  unfold step at h
  by_cases hm : n.msb = true
  · rw [if_pos hm] at h
    exfalso
    have h1 := congrArg (fun x : B32 => x.getLsbD 0) h
    simp [poly] at h1
  · rw [if_neg hm] at h
    have hm' : n.msb = false := by simpa using hm
    apply BitVec.eq_of_getLsbD_eq
    intro i hi
    rw [BitVec.getLsbD_zero]
    by_cases h31 : i = 31
    · subst h31
      have : n.msb = n.getLsbD 31 := by rw [BitVec.msb_eq_getLsbD_last]
      rw [← this]; exact hm'
    · have h1 := congrArg (fun x : B32 => x.getLsbD (i + 1)) h
      simp only [BitVec.getLsbD_shiftLeft, BitVec.getLsbD_zero] at h1
      simpa [show i + 1 < 32 by omega] using h1

theorem steps_inj0 (k : Nat) : ∀ n : B32, steps k n = 0#32 → n = 0#32 := by
  induction k with
  | zero => intro n h; exact h
  | succ k ih => intro n h; exact step_inj0 n (ih _ h)


/-! ### Bit by bit -/

def topBit (b : Bool) : B32 := if b then 0x80000000#32 else 0#32
def bitStep (n : B32) (b : Bool) : B32 := step (n ^^^ topBit b)
def regBits (n : B32) (l : List Bool) : B32 := l.foldl bitStep n
def byteBits (c : UInt8) : List Bool := [c.toBitVec.getLsbD 7, c.toBitVec.getLsbD 6, c.toBitVec.getLsbD 5, c.toBitVec.getLsbD 4, c.toBitVec.getLsbD 3, c.toBitVec.getLsbD 2, c.toBitVec.getLsbD 1, c.toBitVec.getLsbD 0]
def bitsOf (l : List UInt8) : List Bool := l.flatMap byteBits

theorem topBit_xor (a b : Bool) : topBit (a ^^ b) = topBit a ^^^ topBit b := by cases a <;> cases b <;> decide
theorem bitStep_xor (a b : B32) (x y : Bool) : bitStep (a ^^^ b) (x ^^ y) = bitStep a x ^^^ bitStep b y := by
  unfold bitStep
  rw [topBit_xor, ← step_xor]
  congr 1
  rw [BitVec.xor_assoc, BitVec.xor_assoc, ← BitVec.xor_assoc b, BitVec.xor_comm b, BitVec.xor_assoc (topBit x)]

theorem regBits_xor : ∀ (l m : List Bool) (a b : B32), l.length = m.length → regBits (a ^^^ b) (List.zipWith xor l m) = regBits a l ^^^ regBits b m
  | [], [], _, _, _ => rfl
  | x :: l, y :: m, a, b, h => by
    simp only [List.zipWith_cons_cons, regBits, List.foldl_cons]
    rw [bitStep_xor]
    exact regBits_xor l m _ _ (by simpa using h)
  | [], _ :: _, _, _, h => by simp at h
  | _ :: _, [], _, _, h => by simp at h

theorem regBits_append (n : B32) (l m : List Bool) : regBits n (l ++ m) = regBits (regBits n l) m := by simp [regBits]
theorem regBits_false (k : Nat) : ∀ n, regBits n (List.replicate k false) = steps k n := by
  induction k with
  | zero => intro n; rfl
  | succ k ih => intro n; simp only [List.replicate_succ, regBits, List.foldl_cons, steps]; rw [← regBits, ih]; simp [bitStep, topBit]

theorem byte_bits0 : ∀ c : BitVec 8, steps 8 (topByte ⟨c⟩) = regBits 0#32 (byteBits ⟨c⟩) := by decide +kernel

theorem byteStep_bits (n : B32) (c : UInt8) : byteStep n c = regBits n (byteBits c) := by
  have h1 : regBits n (byteBits c) = regBits n (List.replicate 8 false) ^^^ regBits 0#32 (byteBits c) := by
    rw [← regBits_xor _ _ _ _ (by rfl)]
    congr 1
    · simp
    · simp [byteBits, List.replicate]
  rw [h1, regBits_false, byteStep, steps_xor]
  congr 1
  exact byte_bits0 c.toBitVec

theorem reg_bits (l : List UInt8) : ∀ n, reg n l = regBits n (bitsOf l) := by
  induction l with
  | nil => intro n; rfl
  | cons c l ih =>
    intro n
    have : bitsOf (c :: l) = byteBits c ++ bitsOf l := by simp [bitsOf]
    rw [this, regBits_append, ← byteStep_bits]
    exact ih _

/-- Up to 32 bits, the first one on top. -/
def wordTop : List Bool → B32
  | [] => 0#32
  | b :: l => topBit b ^^^ (wordTop l >>> 1)

theorem wordTop_low (l : List Bool) : ∀ i, i + l.length < 32 → (wordTop l).getLsbD i = false := by
  induction l with
  | nil => intro i _; simp [wordTop]
  | cons b l ih =>
    intro i hi
    simp only [List.length_cons] at hi
    simp only [wordTop, BitVec.getLsbD_xor, BitVec.getLsbD_ushiftRight]
    rw [show 1 + i = i + 1 from by omega, ih (i + 1) (by omega)]
    cases b
    · simp [topBit]
    · have : ∀ j : Fin 31, (0x80000000#32).getLsbD j = false := by decide
      simpa [topBit] using this ⟨i, by omega⟩

theorem step_half (x : B32) (h : x.getLsbD 0 = false) : step (x >>> 1) = x := by
  have hm : (x >>> 1).msb = false := by rw [BitVec.msb_eq_getLsbD_last]; simp
  unfold step
  rw [if_neg (by simp [hm])]
  apply BitVec.eq_of_getLsbD_eq
  intro i hi
  simp only [BitVec.getLsbD_shiftLeft, BitVec.getLsbD_ushiftRight]
  cases i with
  | zero => simpa using h.symm
  | succ i => simp [show i + 1 < 32 by omega, show 1 + i = i + 1 by omega]

theorem regBits_word : ∀ (l : List Bool) (n : B32), l.length ≤ 32 → regBits n l = steps l.length (n ^^^ wordTop l)
  | [], n, _ => by simp [regBits, steps, wordTop]
  | b :: l, n, h => by
    simp only [List.length_cons] at h
    simp only [regBits, List.foldl_cons, List.length_cons, steps, wordTop]
    rw [← regBits, regBits_word l _ (by omega)]
    congr 1
    rw [← BitVec.xor_assoc, step_xor, step_half _ (wordTop_low l 0 (by omega))]
    rfl

theorem topBit_top (b : Bool) : (topBit b).getLsbD 31 = b := by cases b <;> decide

theorem wordTop_bit : ∀ (l : List Bool) (i : Nat), i < l.length → l.length ≤ 32 → (wordTop l).getLsbD (31 - i) = l.getD i false
  | [], _, h, _ => by simp at h
  | b :: l, 0, _, _ => by
    simp only [wordTop, BitVec.getLsbD_xor, BitVec.getLsbD_ushiftRight]
    rw [Nat.sub_zero, topBit_top]
    simp
  | b :: l, i + 1, h, h2 => by
    simp only [List.length_cons] at h h2
    simp only [wordTop, BitVec.getLsbD_xor, BitVec.getLsbD_ushiftRight]
    rw [show 1 + (31 - (i + 1)) = 31 - i from by omega, wordTop_bit l i (by omega) (by omega)]
    have hz : (topBit b).getLsbD (31 - (i + 1)) = false := by
      cases b
      · simp [topBit]
      · have : ∀ j : Fin 31, (0x80000000#32).getLsbD j = false := by decide
        simpa [topBit] using this ⟨31 - (i + 1), by omega⟩
    rw [hz]; simp

theorem wordTop_inj0 (l : List Bool) (h : l.length ≤ 32) (h0 : wordTop l = 0#32) : l = List.replicate l.length false := by
  apply List.ext_getElem
  · simp
  · intro i h1 h2
    have := wordTop_bit l i h1 h
    rw [h0] at this
    simp only [List.getElem_replicate]
    simpa [List.getD, h1] using this.symm

/-- A burst: changed bits within 32 neighbours. -/
theorem burst (i j : Nat) (m : List Bool) (hm : m.length ≤ 32) : regBits 0#32 (List.replicate i false ++ m ++ List.replicate j false) = 0#32 ↔ m = List.replicate m.length false := by
  rw [regBits_append, regBits_append, regBits_false i, steps_zero, regBits_false, regBits_word m _ hm]
  constructor
  · intro h
    have := steps_inj0 _ _ (steps_inj0 _ _ h)
    exact wordTop_inj0 m hm (by simpa using this)
  · intro h
    rw [h]
    have : ∀ k, wordTop (List.replicate k false) = 0#32 := by
      intro k; induction k with
      | zero => rfl
      | succ k ih => simp [List.replicate_succ, wordTop, ih, topBit]
    rw [this]
    simp [steps_zero]

theorem steps_inj (k : Nat) (a b : B32) (h : steps k a = steps k b) : a = b := by
  have : steps k (a ^^^ b) = 0#32 := by rw [steps_xor, h, BitVec.xor_self]
  exact BitVec.xor_eq_zero_iff.1 (steps_inj0 k _ this)

/-- The bytes of a number, the highest first. -/
def be (n : B32) : List UInt8 := [⟨(n >>> 24).setWidth 8⟩, ⟨(n >>> 16).setWidth 8⟩, ⟨(n >>> 8).setWidth 8⟩, ⟨n.setWidth 8⟩]

theorem bits_be_length (n : B32) : (bitsOf (be n)).length = 32 := by simp [bitsOf, be, byteBits]

theorem bitsOf_be (n : B32) : bitsOf (be n) = (List.range 32).map fun i => n.getLsbD (31 - i) := by
  simp [bitsOf, be, byteBits, List.range_succ]

theorem word_be (n : B32) : wordTop (bitsOf (be n)) = n := by
  apply BitVec.eq_of_getLsbD_eq
  intro i hi
  have h := wordTop_bit (bitsOf (be n)) (31 - i) (by rw [bits_be_length]; omega) (by rw [bits_be_length]; omega)
  rw [show 31 - (31 - i) = i from by omega] at h
  rw [h, bitsOf_be]
  simp [List.getD, show 31 - i < 32 by omega, show 31 - (31 - i) = i by omega]

def residue : B32 := steps 32 (~~~ 0#32)

theorem not_eq (x : B32) : ~~~ x = ~~~ 0#32 ^^^ x := by
  apply BitVec.eq_of_getLsbD_eq
  intro i hi
  rw [BitVec.getLsbD_not, BitVec.getLsbD_xor, BitVec.getLsbD_not, BitVec.getLsbD_zero]
  simp [hi]

/-- Bytes that end with four more are right as soon as the register says so. -/
theorem right_iff (l : List UInt8) (n : B32) : sum l = n ↔ regBits (~~~ 0#32) (bitsOf (l ++ be n)) = residue := by
  have hb : bitsOf (l ++ be n) = bitsOf l ++ bitsOf (be n) := by simp [bitsOf]
  rw [hb, regBits_append, ← reg_bits l, regBits_word (bitsOf (be n)) _ (by rw [bits_be_length]; omega), bits_be_length, word_be]
  unfold sum residue
  constructor
  · intro h
    rw [← h]
    congr 1
    rw [not_eq (reg _ l), BitVec.xor_comm, BitVec.xor_assoc, BitVec.xor_self, BitVec.xor_zero]
  · intro h
    have h2 := steps_inj _ _ _ h
    have : reg (~~~ 0#32) l ^^^ n ^^^ reg (~~~ 0#32) l = ~~~ 0#32 ^^^ reg (~~~ 0#32) l := by rw [h2]
    rw [BitVec.xor_comm (_ ^^^ _), ← BitVec.xor_assoc, BitVec.xor_self, BitVec.zero_xor] at this
    rw [this, not_eq]


def xorL (a b : List UInt8) : List UInt8 := List.zipWith (· ^^^ ·) a b

theorem byteBits_xor (a b : UInt8) : byteBits (a ^^^ b) = List.zipWith xor (byteBits a) (byteBits b) := by
  simp [byteBits]

theorem bitsOf_length (l : List UInt8) : (bitsOf l).length = 8 * l.length := by
  induction l with
  | nil => rfl
  | cons c l ih => rw [show bitsOf (c :: l) = byteBits c ++ bitsOf l from by simp [bitsOf], List.length_append, ih]; simp [byteBits]; omega

theorem bitsOf_xor : ∀ (a b : List UInt8), a.length = b.length → bitsOf (xorL a b) = List.zipWith xor (bitsOf a) (bitsOf b)
  | [], [], _ => rfl
  | c :: a, d :: b, h => by
    have ih := bitsOf_xor a b (by simpa using h)
    have e : ∀ (c : UInt8) (l : List UInt8), bitsOf (c :: l) = byteBits c ++ bitsOf l := fun c l => by simp [bitsOf]
    show bitsOf ((c ^^^ d) :: xorL a b) = _
    rw [e, e, e, ih, byteBits_xor, List.zipWith_append (by simp [byteBits])]
  | [], _ :: _, h => by simp at h
  | _ :: _, [], h => by simp at h

/-- What is changed alike changes the sum alike. -/
theorem reg_xor (a m : List UInt8) (h : a.length = m.length) (x y : B32) : reg (x ^^^ y) (xorL a m) = reg x a ^^^ reg y m := by
  rw [reg_bits, reg_bits, reg_bits, bitsOf_xor a m h, regBits_xor _ _ _ _ (by rw [bitsOf_length, bitsOf_length, h])]

theorem not_xor_not (r m : B32) : ~~~ (r ^^^ m) ^^^ ~~~ r = m := by
  apply BitVec.eq_of_getLsbD_eq
  intro i hi
  simp only [BitVec.getLsbD_xor, BitVec.getLsbD_not, hi, decide_true, Bool.true_and]
  cases r.getLsbD i <;> cases m.getLsbD i <;> rfl

theorem sum_xor (a m : List UInt8) (h : a.length = m.length) : sum (xorL a m) ^^^ sum a = reg 0#32 m := by
  unfold sum
  have h1 := reg_xor a m h (~~~ 0#32) 0#32
  rw [BitVec.xor_zero] at h1
  rw [h1, not_xor_not]

theorem mixes (n : Nat) (l a m : List UInt8) (hl : l.length = n) (ha : n ≤ a.length) (hm : n ≤ m.length) (h : ∀ j, j < n → l.getD j 0 = a.getD j 0 ^^^ m.getD j 0) :
    sum l ^^^ sum (a.take n) = reg 0#32 (m.take n) := by
  have : l = xorL (a.take n) (m.take n) := by
    apply List.ext_getElem
    · simp [xorL]; omega
    · intro i h1 h2
      have := h i (by omega)
      simp [List.getD, h1, show i < a.length by omega, show i < m.length by omega] at this
      simp [xorL, this]
  rw [this]
  exact sum_xor _ _ (by simp; omega)
end Go.Proofs.Ytakobldhjndeiaa.Crc
