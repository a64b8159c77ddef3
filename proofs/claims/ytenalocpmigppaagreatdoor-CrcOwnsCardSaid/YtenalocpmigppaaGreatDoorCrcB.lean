/- More plain mathematics of CRC-32: a sum behind its own bytes is one number; bits turned within 32 places, or just two bits less than 2^19 apart, are told. No program in sight. -/
import Derived.Test.YtenalocpmigppaaGreatDoorCrcA
namespace Go.Proofs.YtenalocpmigppaaGreatDoor.Crc

/-! ### four bytes behind -/
theorem byte_toNat (b : UInt8) : (byte b).toNat = b.toNat := by
  unfold byte
  have := b.toNat_lt
  rw [BitVec.toNat_ofNat, Nat.mod_eq_of_lt (by omega)]

theorem byte_shift (n : Nat) (hn : n ≤ 24) (b : UInt8) : (byte b <<< n) >>> n = byte b := by
  refine BitVec.eq_of_toNat_eq ?_
  have := b.toNat_lt
  have hp : 2 ^ n ≤ 2 ^ 24 := Nat.pow_le_pow_right (by decide) hn
  have hm : b.toNat * 2 ^ n < 2 ^ 32 := by
    have : b.toNat * 2 ^ n ≤ 255 * 2 ^ 24 := Nat.mul_le_mul (by omega) hp
    omega
  rw [BitVec.toNat_ushiftRight, BitVec.toNat_shiftLeft, byte_toNat, Nat.shiftLeft_eq, Nat.mod_eq_of_lt hm, Nat.shiftRight_eq_div_pow, Nat.mul_div_cancel _ (Nat.two_pow_pos n)]

theorem byte_up (n : Nat) (hn : n ≤ 24) (b : UInt8) : steps n (byte b <<< n) = byte b := steps_up n _ (byte_shift n hn b)

def word (a b c d : UInt8) : BitVec 32 := byte a ^^^ (byte b <<< 8) ^^^ (byte c <<< 16) ^^^ (byte d <<< 24)

/-- Four bytes taken in are 32 steps of the register xored with their number. -/
theorem reg_four (r : BitVec 32) (a b c d : UInt8) : reg r [a, b, c, d] = steps 32 (r ^^^ word a b c d) := by
  have h1 : take1 r a = steps 8 (r ^^^ byte a) := rfl
  have h2 : take1 (take1 r a) b = steps 16 (r ^^^ byte a ^^^ (byte b <<< 8)) := by
    show steps 8 (take1 r a ^^^ byte b) = _
    rw [h1, ← byte_up 8 (by decide) b, ← steps_xor, ← steps_add, byte_up 8 (by decide) b]
  have h3 : take1 (take1 (take1 r a) b) c = steps 24 (r ^^^ byte a ^^^ (byte b <<< 8) ^^^ (byte c <<< 16)) := by
    show steps 8 (take1 (take1 r a) b ^^^ byte c) = _
    rw [h2, ← byte_up 16 (by decide) c, ← steps_xor, ← steps_add, byte_up 16 (by decide) c]
  show take1 (take1 (take1 (take1 r a) b) c) d = _
  show steps 8 (take1 (take1 (take1 r a) b) c ^^^ byte d) = _
  rw [h3, ← byte_up 24 (by decide) d, ← steps_xor, ← steps_add]
  unfold word
  simp only [BitVec.xor_assoc]

theorem word_tail4 (s : BitVec 32) : word (UInt8.ofNat s.toNat) (UInt8.ofNat (s.toNat / 256)) (UInt8.ofNat (s.toNat / 65536)) (UInt8.ofNat (s.toNat / 16777216)) = s := by
  refine BitVec.eq_of_getLsbD_eq fun i hi => ?_
  have tb : ∀ (n i : Nat), (byte (UInt8.ofNat n)).getLsbD i = (decide (i < 8) && n.testBit i) := by
    intro n i
    unfold byte
    rw [BitVec.getLsbD_ofNat]
    simp only [UInt8.toNat_ofNat', Nat.testBit_mod_two_pow]
    by_cases h : i < 8
    · have : i < 32 := by omega
      simp [h, this]
    · simp [h]
  have ts : ∀ k i, (s.toNat / 2 ^ k).testBit i = s.getLsbD (k + i) := by
    intro k i
    rw [← Nat.shiftRight_eq_div_pow, Nat.testBit_shiftRight]; rfl
  have t0 : ∀ i, s.toNat.testBit i = s.getLsbD i := fun _ => rfl
  unfold word
  simp only [BitVec.getLsbD_xor, BitVec.getLsbD_shiftLeft, tb]
  rw [show (256 : Nat) = 2 ^ 8 from rfl, show (65536 : Nat) = 2 ^ 16 from rfl, show (16777216 : Nat) = 2 ^ 24 from rfl]
  simp only [ts, t0]
  have hc : i < 8 ∨ (8 ≤ i ∧ i < 16) ∨ (16 ≤ i ∧ i < 24) ∨ (24 ≤ i ∧ i < 32) := by omega
  rcases hc with h | ⟨h, h'⟩ | ⟨h, h'⟩ | ⟨h, h'⟩
  · have a2 : i < 16 := by omega
    have a3 : i < 24 := by omega
    simp [h, hi, a2, a3]
  · have a0 : ¬ (i < 8) := by omega
    have a1 : i - 8 < 8 := by omega
    have a2 : i < 16 := by omega
    have a3 : i < 24 := by omega
    have e : 8 + (i - 8) = i := by omega
    simp [a0, a1, a2, a3, e, hi]
  · have a0 : ¬ (i < 8) := by omega
    have a1 : ¬ (i - 8 < 8) := by omega
    have a2 : ¬ (i < 16) := by omega
    have a3 : i < 24 := by omega
    have a4 : i - 16 < 8 := by omega
    have e : 16 + (i - 16) = i := by omega
    simp [a0, a1, a2, a3, a4, e, hi]
  · have a0 : ¬ (i < 8) := by omega
    have a1 : ¬ (i - 8 < 8) := by omega
    have a2 : ¬ (i < 16) := by omega
    have a3 : ¬ (i < 24) := by omega
    have a4 : ¬ (i - 16 < 8) := by omega
    have a5 : i - 24 < 8 := by omega
    have e : 24 + (i - 24) = i := by omega
    simp [a0, a1, a2, a3, a4, a5, e, hi]

theorem reg_tail4 (r s : BitVec 32) : reg r (tail4 s) = steps 32 (r ^^^ s) := by
  unfold tail4
  rw [reg_four, word_tail4]

theorem xor_not (r : BitVec 32) : r ^^^ ~~~ r = BitVec.allOnes 32 := by
  refine BitVec.eq_of_getLsbD_eq fun i hi => ?_
  rw [BitVec.getLsbD_xor, BitVec.getLsbD_not, BitVec.getLsbD_allOnes, decide_eq_true hi]
  cases r.getLsbD i <;> rfl

def magic : BitVec 32 := steps 32 (BitVec.allOnes 32)
theorem magic_is : ~~~ magic = 0x2144DF1C#32 := by decide +kernel

/-- Bytes with their own sum behind them: one number, whatever they are. -/
theorem sum_behind (l : List UInt8) : sum (l ++ tail4 (sum l)) = 0x2144DF1C#32 := by
  unfold sum update
  rw [reg_append, reg_tail4, ← magic_is]
  show ~~~ steps 32 (reg (~~~ 0#32) l ^^^ ~~~ reg (~~~ 0#32) l) = _
  rw [xor_not]; rfl

theorem word_byte_inj (a b c d a' b' c' d' : UInt8) (h : word a b c d = word a' b' c' d') : a = a' ∧ b = b' ∧ c = c' ∧ d = d' := by
  have tb : ∀ (x : UInt8) (i : Nat), (byte x).getLsbD i = (decide (i < 8) && x.toNat.testBit i) := by
    intro x i
    have := x.toNat_lt
    unfold byte
    rw [BitVec.getLsbD_ofNat]
    by_cases h : i < 8
    · have : i < 32 := by omega
      simp [h, this]
    · have hx : x.toNat.testBit i = false := Nat.testBit_lt_two_pow (Nat.lt_of_lt_of_le this (Nat.pow_le_pow_right (by decide : 0 < 2) (by omega : 8 ≤ i)))
      simp [h, hx]
  have key : ∀ i, i < 32 → (word a b c d).getLsbD i = (word a' b' c' d').getLsbD i := fun i _ => by rw [h]
  unfold word at key
  simp only [BitVec.getLsbD_xor, BitVec.getLsbD_shiftLeft, tb] at key
  have fin : ∀ (x y : UInt8), (∀ i, i < 8 → x.toNat.testBit i = y.toNat.testBit i) → x = y := by
    intro x y hxy
    refine UInt8.toNat_inj.1 (Nat.eq_of_testBit_eq fun i => ?_)
    by_cases hi : i < 8
    · exact hxy i hi
    · have h1 := x.toNat_lt
      have h2 := y.toNat_lt
      rw [Nat.testBit_lt_two_pow (Nat.lt_of_lt_of_le h1 (Nat.pow_le_pow_right (by decide : 0 < 2) (by omega : 8 ≤ i))), Nat.testBit_lt_two_pow (Nat.lt_of_lt_of_le h2 (Nat.pow_le_pow_right (by decide : 0 < 2) (by omega : 8 ≤ i)))]
  refine ⟨fin _ _ fun i hi => ?_, fin _ _ fun i hi => ?_, fin _ _ fun i hi => ?_, fin _ _ fun i hi => ?_⟩
  · have k := key i (by omega)
    have a1 : i < 16 := by omega
    have a2 : i < 24 := by omega
    have a3 : i < 32 := by omega
    simpa [hi, a1, a2, a3] using k
  · have k := key (8 + i) (by omega)
    have a0 : ¬ (8 + i < 8) := by omega
    have a1 : 8 + i < 16 := by omega
    have a2 : 8 + i < 24 := by omega
    have a3 : 8 + i < 32 := by omega
    simpa [hi, a0, a1, a2, a3] using k
  · have k := key (16 + i) (by omega)
    have a0 : ¬ (16 + i < 8) := by omega
    have a1 : ¬ (16 + i < 16) := by omega
    have a2 : 16 + i < 24 := by omega
    have a3 : 16 + i < 32 := by omega
    have a4 : ¬ (16 + i - 8 < 8) := by omega
    simpa [hi, a0, a1, a2, a3, a4] using k
  · have k := key (24 + i) (by omega)
    have a0 : ¬ (24 + i < 8) := by omega
    have a1 : ¬ (24 + i < 16) := by omega
    have a2 : ¬ (24 + i < 24) := by omega
    have a3 : 24 + i < 32 := by omega
    have a4 : ¬ (24 + i - 8 < 8) := by omega
    have a5 : ¬ (24 + i - 16 < 8) := by omega
    simpa [hi, a0, a1, a2, a3, a4, a5] using k

/-- A page opens just if its register ends at the one number. -/
theorem opens_iff (body : List UInt8) (a b c d : UInt8) : [a, b, c, d] = tail4 (sum body) ↔ reg (~~~ 0#32) (body ++ [a, b, c, d]) = magic := by
  rw [reg_append, reg_four]
  constructor
  · intro h
    unfold tail4 at h
    injection h with ha h
    injection h with hb h
    injection h with hc h
    injection h with hd _
    subst ha hb hc hd
    rw [word_tail4]
    show steps 32 (reg (~~~ 0#32) body ^^^ ~~~ reg (~~~ 0#32) body) = _
    rw [xor_not]; rfl
  · intro h
    have h1 := steps_inj 32 _ _ h
    have h2 : word a b c d = sum body := by
      have e : reg (~~~ 0#32) body ^^^ (reg (~~~ 0#32) body ^^^ word a b c d) = reg (~~~ 0#32) body ^^^ BitVec.allOnes 32 := by rw [h1]
      rw [← BitVec.xor_assoc, BitVec.xor_self, BitVec.zero_xor] at e
      rw [e]
      show _ = ~~~ reg (~~~ 0#32) body
      rw [← xor_not (reg (~~~ 0#32) body), ← BitVec.xor_assoc, BitVec.xor_self, BitVec.zero_xor]
    obtain ⟨h3, h4, h5, h6⟩ := word_byte_inj _ _ _ _ _ _ _ _ (h2.trans (word_tail4 (sum body)).symm)
    unfold tail4
    rw [h3, h4, h5, h6]

/-! ### bits that are turned -/
/-- The bit number i turned. -/
def bit8 (k : Nat) : UInt8 := UInt8.ofNat (2 ^ (k % 8))
def tog (l : List UInt8) (i : Nat) : List UInt8 := l.set (i / 8) (l.getD (i / 8) 0 ^^^ bit8 i)
theorem tog_length (l : List UInt8) (i : Nat) : (tog l i).length = l.length := by simp [tog]

theorem reg_zip (r : BitVec 32) (l : List UInt8) : reg r l = steps (8 * l.length) r ^^^ reg 0#32 l := by
  induction l generalizing r with
  | nil => simp [reg, steps]
  | cons x l ih =>
    rw [reg_cons, reg_cons, ih, ih (take1 0#32 x)]
    rw [show take1 r x = steps 8 r ^^^ take1 0#32 x from by unfold take1; rw [← steps_xor, BitVec.zero_xor]]
    rw [steps_xor, ← steps_add, List.length_cons, BitVec.xor_assoc, show 8 + 8 * l.length = 8 * (l.length + 1) from by omega]

theorem byte_bit8 (i : Nat) : byte (bit8 i) = 1#32 <<< (i % 8) := by
  have h : ∀ k : Fin 8, byte (UInt8.ofNat (2 ^ k.val)) = 1#32 <<< k.val := by decide
  exact h ⟨i % 8, Nat.mod_lt _ (by decide)⟩

theorem one_up (k : Nat) (h : k < 32) : steps k (1#32 <<< k) = 1#32 := by
  refine steps_up k _ ?_
  have : ∀ k : Fin 32, (1#32 <<< k.val) >>> k.val = 1#32 := by decide
  exact this ⟨k, h⟩

/-- A bit turned turns the register by what becomes of that bit. -/
theorem reg_tog (r : BitVec 32) (l : List UInt8) (i : Nat) (h : i < 8 * l.length) : reg r (tog l i) = reg r l ^^^ steps (8 * l.length - i) 1#32 := by
  have hk : i / 8 < l.length := by omega
  obtain ⟨a, x, b, rfl, ha⟩ : ∃ a x b, l = a ++ x :: b ∧ a.length = i / 8 :=
    ⟨l.take (i / 8), l[i / 8], l.drop (i / 8 + 1), by rw [← List.drop_eq_getElem_cons hk, List.take_append_drop], by rw [List.length_take]; omega⟩
  have ht : tog (a ++ x :: b) i = a ++ (x ^^^ bit8 i) :: b := by
    unfold tog
    rw [← ha, List.set_append_right _ _ (Nat.le_refl _), List.getD_eq_getElem?_getD, List.getElem?_append_right (Nat.le_refl _)]
    simp
  rw [ht, reg_append, reg_append, reg_cons, reg_cons]
  have e : take1 (reg r a) (x ^^^ bit8 i) = take1 (reg r a) x ^^^ take1 0#32 (bit8 i) := by
    rw [← take1_xor, BitVec.xor_zero]
  rw [e, reg_zip (_ ^^^ _) b, reg_zip (take1 (reg r a) x) b, steps_xor]
  have f : steps (8 * b.length) (take1 0#32 (bit8 i)) = steps (8 * (a ++ x :: b).length - i) 1#32 := by
    unfold take1
    rw [BitVec.zero_xor, byte_bit8, ← steps_add]
    have : 8 + 8 * b.length = i % 8 + (8 * (a ++ x :: b).length - i) := by
      simp only [List.length_append, List.length_cons, ha]
      omega
    rw [this, steps_add, one_up _ (by omega)]
  rw [f]
  simp only [BitVec.xor_assoc]
  congr 1
  rw [BitVec.xor_comm]

/-- Of the bits k of p below 32, those whose place at + k lies in the list are turned, from the k-th on, n of them looked at. -/
def togs (p at_ : Nat) : Nat → Nat → List UInt8 → List UInt8
  | 0, _, l => l
  | n + 1, k, l => togs p at_ n (k + 1) (if p.testBit k ∧ at_ + k < 8 * l.length then tog l (at_ + k) else l)
theorem togs_length (p at_ n k : Nat) (l : List UInt8) : (togs p at_ n k l).length = l.length := by
  induction n generalizing k l with
  | zero => rfl
  | succ n ih => simp only [togs]; rw [ih]; split <;> simp [tog_length]

/-- The pattern as far as it lies in the list, from bit k on. -/
def mask (p at_ m : Nat) : Nat → Nat → BitVec 32
  | 0, _ => 0#32
  | n + 1, k => (if p.testBit k ∧ at_ + k < m then 1#32 <<< k else 0#32) ^^^ mask p at_ m n (k + 1)

theorem reg_togs (r : BitVec 32) (p at_ n k : Nat) (l : List UInt8) (hk : k + n ≤ 32) (hat : at_ ≤ 8 * l.length) :
    reg r (togs p at_ n k l) = reg r l ^^^ steps (8 * l.length - at_) (mask p at_ (8 * l.length) n k) := by
  induction n generalizing k l with
  | zero => simp [togs, mask, steps_zero]
  | succ n ih =>
    simp only [togs, mask]
    split
    · rename_i h
      rw [ih (k + 1) _ (by omega) (by rw [tog_length]; exact hat), tog_length, reg_tog r l _ h.2, steps_xor, BitVec.xor_assoc]
      congr 2
      have : 8 * l.length - at_ = k + (8 * l.length - (at_ + k)) := by omega
      rw [this, steps_add, one_up k (by omega)]
    · rw [ih (k + 1) l (by omega) hat, BitVec.zero_xor]

theorem mask_bit (p at_ m n k i : Nat) (hk : k + n ≤ 32) : (mask p at_ m n k).getLsbD i = (decide (k ≤ i ∧ i < k + n) && (p.testBit i && decide (at_ + i < m))) := by
  induction n generalizing k with
  | zero =>
    simp only [mask]
    have : ¬ (k ≤ i ∧ i < k + 0) := by omega
    rw [decide_eq_false this]; simp
  | succ n ih =>
    simp only [mask]
    rw [BitVec.getLsbD_xor, ih (k + 1) (by omega)]
    have one : (1#32 <<< k).getLsbD i = decide (i = k) := by
      rw [BitVec.getLsbD_shiftLeft]
      have k32 : k < 32 := by omega
      by_cases e : i = k
      · subst e; simp [k32]
      · by_cases l : i < k
        · simp [l, e]
        · have : (1#32 : BitVec 32).getLsbD (i - k) = false := by
            rw [BitVec.getLsbD_ofNat]
            have : (1 : Nat).testBit (i - k) = false := Nat.testBit_lt_two_pow (Nat.one_lt_two_pow (by omega))
            simp [this]
          simp [this, e]
    by_cases e : i = k
    · subst e
      have h1 : ¬ (i + 1 ≤ i ∧ i < i + 1 + n) := by omega
      have h2 : i ≤ i ∧ i < i + (n + 1) := by omega
      split
      · rename_i h; rw [one]; simp [h1, h.1, h.2]
      · rename_i h
        simp [h1]
        intro hp
        rcases Nat.lt_or_ge (at_ + i) m with hl | hl
        · exact absurd ⟨hp, hl⟩ h
        · exact hl
    · have hh : (k + 1 ≤ i ∧ i < k + 1 + n) ↔ (k ≤ i ∧ i < k + (n + 1)) := by omega
      have hz : (if p.testBit k ∧ at_ + k < m then 1#32 <<< k else 0#32).getLsbD i = false := by
        split
        · rw [one]; simp [e]
        · simp
      rw [hz, Bool.false_xor]
      congr 1
      exact decide_eq_decide.2 hh

/-- Was any bit turned? -/
def some_ (p at_ m : Nat) : Nat → Nat → Bool → Bool
  | 0, _, b => b
  | n + 1, k, b => some_ p at_ m n (k + 1) (if p.testBit k ∧ at_ + k < m then true else b)

theorem some_iff (p at_ m n k : Nat) (b : Bool) : some_ p at_ m n k b = true ↔ b = true ∨ ∃ i, k ≤ i ∧ i < k + n ∧ p.testBit i = true ∧ at_ + i < m := by
  induction n generalizing k b with
  | zero => simp only [some_]; constructor
            · exact Or.inl
            · rintro (h | ⟨i, h1, h2, _⟩)
              · exact h
              · omega
  | succ n ih =>
    simp only [some_]
    rw [ih]
    constructor
    · rintro (h | ⟨i, h1, h2, h3, h4⟩)
      · split at h
        · rename_i hc; exact .inr ⟨k, by omega, by omega, hc.1, hc.2⟩
        · exact .inl h
      · exact .inr ⟨i, by omega, by omega, h3, h4⟩
    · rintro (h | ⟨i, h1, h2, h3, h4⟩)
      · left; split <;> simp [h]
      · rcases Nat.eq_or_lt_of_le h1 with e | e
        · subst e; left; rw [if_pos ⟨h3, h4⟩]
        · exact .inr ⟨i, e, by omega, h3, h4⟩

/-- Bits turned within 32 places: the register is another one just if any was turned. -/
theorem reg_burst (r : BitVec 32) (p at_ : Nat) (l : List UInt8) (hat : at_ ≤ 8 * l.length) :
    reg r (togs p at_ 32 0 l) = reg r l ↔ some_ p at_ (8 * l.length) 32 0 false = false := by
  rw [reg_togs r p at_ 32 0 l (by omega) hat]
  constructor
  · intro h
    have h0 : mask p at_ (8 * l.length) 32 0 = 0#32 := by
      refine steps_inj0 (8 * l.length - at_) _ ?_
      have : reg r l ^^^ (reg r l ^^^ steps (8 * l.length - at_) (mask p at_ (8 * l.length) 32 0)) = reg r l ^^^ reg r l := by rw [h]
      rwa [← BitVec.xor_assoc, BitVec.xor_self, BitVec.zero_xor] at this
    cases hs : some_ p at_ (8 * l.length) 32 0 false with
    | false => rfl
    | true =>
      exfalso
      rcases (some_iff _ _ _ _ _ _).1 hs with h1 | ⟨i, h1, h2, h3, h4⟩
      · simp at h1
      · have := mask_bit p at_ (8 * l.length) 32 0 i (by omega)
        rw [h0] at this
        have hd : (0 ≤ i ∧ i < 0 + 32) := by omega
        simp [h3, h4] at this
        omega
  · intro h
    have : mask p at_ (8 * l.length) 32 0 = 0#32 := by
      refine BitVec.eq_of_getLsbD_eq fun i hi => ?_
      rw [mask_bit _ _ _ _ _ _ (by omega)]
      cases hc : (decide (0 ≤ i ∧ i < 0 + 32) && (p.testBit i && decide (at_ + i < 8 * l.length))) with
      | false => simp
      | true =>
        exfalso
        simp only [Bool.and_eq_true, decide_eq_true_eq] at hc
        have := (some_iff p at_ (8 * l.length) 32 0 false).2 (.inr ⟨i, hc.1.1, hc.1.2, hc.2.1, hc.2.2⟩)
        rw [h] at this
        cases this
    rw [this, steps_zero, BitVec.xor_zero]

end Go.Proofs.YtenalocpmigppaaGreatDoor.Crc
