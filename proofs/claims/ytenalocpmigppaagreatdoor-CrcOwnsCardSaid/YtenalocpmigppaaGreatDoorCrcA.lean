/- The plain mathematics of CRC-32 on bit vectors: steps of a register are linear and lose nothing; four steps by a table; a sum behind its own bytes. No program in sight. -/
namespace Go.Proofs.YtenalocpmigppaaGreatDoor.Crc

def poly : BitVec 32 := 0xEDB88320#32
def step (x : BitVec 32) : BitVec 32 := if x.getLsbD 0 then (x >>> 1) ^^^ poly else x >>> 1
def steps : Nat → BitVec 32 → BitVec 32
  | 0, x => x
  | n + 1, x => steps n (step x)

theorem steps_add (a b : Nat) (x : BitVec 32) : steps (a + b) x = steps b (steps a x) := by
  induction a generalizing x with
  | zero => simp [steps]
  | succ a ih => rw [Nat.succ_add]; simp only [steps]; exact ih _

theorem step_xor (x y : BitVec 32) : step (x ^^^ y) = step x ^^^ step y := by
  have h : (x ^^^ y) >>> 1 = (x >>> 1) ^^^ (y >>> 1) := BitVec.ushiftRight_xor_distrib ..
  have e : (x ^^^ y).getLsbD 0 = (x.getLsbD 0 ^^ y.getLsbD 0) := by simp
  unfold step
  rw [h, e]
  cases x.getLsbD 0 <;> cases y.getLsbD 0 <;> simp [BitVec.xor_assoc]
  · rw [BitVec.xor_comm poly]
  · rw [BitVec.xor_comm poly, BitVec.xor_assoc, BitVec.xor_self, BitVec.xor_zero]

theorem steps_xor (n : Nat) (x y : BitVec 32) : steps n (x ^^^ y) = steps n x ^^^ steps n y := by
  induction n generalizing x y with
  | zero => rfl
  | succ n ih => simp only [steps, step_xor]; exact ih _ _

theorem steps_zero (n : Nat) : steps n 0#32 = 0#32 := by
  induction n with
  | zero => rfl
  | succ n ih => simp only [steps]; rw [show step 0#32 = 0#32 from by decide]; exact ih

/-- A register that steps to nothing was nothing. -/
theorem step_inj0 (x : BitVec 32) (h : step x = 0#32) : x = 0#32 := by
  unfold step at h
  have h31 : (x >>> 1).getLsbD 31 = false := by simp
  split at h
  · have : ((x >>> 1) ^^^ poly).getLsbD 31 = (0#32 : BitVec 32).getLsbD 31 := by rw [h]
    rw [BitVec.getLsbD_xor, h31] at this
    simp [poly] at this
  · rename_i hl
    refine BitVec.eq_of_getLsbD_eq fun i hi => ?_
    rcases Nat.eq_zero_or_pos i with rfl | hp
    · simpa using hl
    · have : (x >>> 1).getLsbD (i - 1) = (0#32 : BitVec 32).getLsbD (i - 1) := by rw [h]
      rw [BitVec.getLsbD_ushiftRight] at this
      rw [show 1 + (i - 1) = i from by omega] at this
      simpa using this

theorem steps_inj0 (n : Nat) (x : BitVec 32) (h : steps n x = 0#32) : x = 0#32 := by
  induction n generalizing x with
  | zero => exact h
  | succ n ih => exact step_inj0 x (ih _ h)

theorem xor_eq_zero (x y : BitVec 32) (h : x ^^^ y = 0#32) : x = y := by
  have : x ^^^ y ^^^ y = 0#32 ^^^ y := by rw [h]
  rwa [BitVec.xor_assoc, BitVec.xor_self, BitVec.xor_zero, BitVec.zero_xor] at this

theorem steps_inj (n : Nat) (x y : BitVec 32) (h : steps n x = steps n y) : x = y := by
  refine xor_eq_zero x y (steps_inj0 n _ ?_)
  rw [steps_xor, h, BitVec.xor_self]

theorem step_low (x : BitVec 32) (h : x.getLsbD 0 = false) : step x = x >>> 1 := by unfold step; rw [h]; rfl

/-- Where the lowest n bits are 0 the register is shifted alone. -/
theorem steps_low (n : Nat) (x : BitVec 32) (h : ∀ i, i < n → x.getLsbD i = false) : steps n x = x >>> n := by
  induction n generalizing x with
  | zero => simp [steps]
  | succ n ih =>
    simp only [steps]
    rw [step_low x (h 0 (by omega)), ih]
    · rw [← BitVec.shiftRight_add, Nat.add_comm 1 n]
    · intro i hi
      rw [BitVec.getLsbD_ushiftRight]
      exact h _ (by omega)

/-- What was shifted up n places comes down in n steps. -/
theorem steps_up (n : Nat) (x : BitVec 32) (h : (x <<< n) >>> n = x) : steps n (x <<< n) = x := by
  rw [steps_low n _ (fun i hi => by simp; intro _ _; omega), h]

def tab : List (BitVec 32) := [0x00000000#32, 0x1db71064#32, 0x3b6e20c8#32, 0x26d930ac#32, 0x76dc4190#32, 0x6b6b51f4#32, 0x4db26158#32, 0x5005713c#32,
  0xedb88320#32, 0xf00f9344#32, 0xd6d6a3e8#32, 0xcb61b38c#32, 0x9b64c2b0#32, 0x86d3d2d4#32, 0xa00ae278#32, 0xbdbdf21c#32]

theorem tab_all : ∀ k : Fin 16, steps 4 (BitVec.ofNat 32 k.val) = tab.getD k.val 0#32 := by decide +kernel

/-- Four steps by one look at the table. -/
theorem steps4 (x : BitVec 32) : steps 4 x = (x >>> 4) ^^^ tab.getD (x.toNat % 16) 0#32 := by
  have e : x = (x &&& ~~~15#32) ^^^ (x &&& 15#32) := by
    refine BitVec.eq_of_getLsbD_eq fun i hi => ?_
    simp only [BitVec.getLsbD_xor, BitVec.getLsbD_and, BitVec.getLsbD_not, hi, decide_true, Bool.true_and]
    cases x.getLsbD i <;> cases (15#32 : BitVec 32).getLsbD i <;> rfl
  have hlo : x &&& 15#32 = BitVec.ofNat 32 (x.toNat % 16) := by
    refine BitVec.eq_of_toNat_eq ?_
    rw [BitVec.toNat_and, BitVec.toNat_ofNat, BitVec.toNat_ofNat]
    have : (15 : Nat) % 2 ^ 32 = 2 ^ 4 - 1 := by decide
    rw [this, Nat.and_two_pow_sub_one_eq_mod]
    omega
  have hhi : steps 4 (x &&& ~~~15#32) = x >>> 4 := by
    rw [steps_low]
    · refine BitVec.eq_of_getLsbD_eq fun i hi => ?_
      simp only [BitVec.getLsbD_ushiftRight, BitVec.getLsbD_and, BitVec.getLsbD_not]
      by_cases h4 : 4 + i < 32
      · have : (15#32 : BitVec 32).getLsbD (4 + i) = false := by
          simp only [BitVec.getLsbD_ofNat, Bool.and_eq_false_iff]
          right
          have : (15 : Nat) < 2 ^ (4 + i) := Nat.lt_of_lt_of_le (by decide : 15 < 2 ^ 4) (Nat.pow_le_pow_right (by decide) (by omega))
          exact Nat.testBit_lt_two_pow this
        rw [this, decide_eq_true h4]; simp
      · rw [BitVec.getLsbD_of_ge _ _ (by omega)]; simp
    · intro i hi
      have : ∀ i : Fin 4, (15#32 : BitVec 32).getLsbD i.val = true := by decide
      have := this ⟨i, hi⟩
      simp only [BitVec.getLsbD_and, BitVec.getLsbD_not, this]
      simp
  have h2 : steps 4 x = steps 4 ((x &&& ~~~15#32) ^^^ (x &&& 15#32)) := by rw [← e]
  rw [h2, steps_xor, hhi, hlo]
  have := tab_all ⟨x.toNat % 16, Nat.mod_lt _ (by decide)⟩
  simp only at this
  rw [this]

def byte (b : UInt8) : BitVec 32 := BitVec.ofNat 32 b.toNat
/-- A register takes a byte in. -/
def take1 (r : BitVec 32) (b : UInt8) : BitVec 32 := steps 8 (r ^^^ byte b)
def reg (r : BitVec 32) (l : List UInt8) : BitVec 32 := l.foldl take1 r
def update (c : BitVec 32) (l : List UInt8) : BitVec 32 := ~~~ (reg (~~~ c) l)
def sum (l : List UInt8) : BitVec 32 := update 0#32 l

theorem reg_append (r : BitVec 32) (a b : List UInt8) : reg r (a ++ b) = reg (reg r a) b := by unfold reg; rw [List.foldl_append]
theorem update_append (c : BitVec 32) (a b : List UInt8) : update (update c a) b = update c (a ++ b) := by
  unfold update; rw [BitVec.not_not, reg_append]
theorem reg_cons (r : BitVec 32) (x : UInt8) (l : List UInt8) : reg r (x :: l) = reg (take1 r x) l := rfl

/-- The program's way with a byte: twice four steps. -/
theorem take1_two (r : BitVec 32) (b : UInt8) : take1 r b = steps 4 (steps 4 (r ^^^ byte b)) := by
  unfold take1; rw [← steps_add]

/-- Linear in the register and in the bytes. -/
theorem take1_xor (r s : BitVec 32) (a b : UInt8) : take1 (r ^^^ s) (a ^^^ b) = take1 r a ^^^ take1 s b := by
  unfold take1
  rw [← steps_xor]
  congr 1
  have : byte (a ^^^ b) = byte a ^^^ byte b := by
    refine BitVec.eq_of_toNat_eq ?_
    unfold byte
    rw [BitVec.toNat_xor, BitVec.toNat_ofNat, BitVec.toNat_ofNat, BitVec.toNat_ofNat, UInt8.toNat_xor]
    have h1 := a.toNat_lt
    have h2 := b.toNat_lt
    have h3 : a.toNat ^^^ b.toNat < 2 ^ 8 := Nat.xor_lt_two_pow h1 h2
    rw [Nat.mod_eq_of_lt (by omega), Nat.mod_eq_of_lt (by omega), Nat.mod_eq_of_lt (by omega)]
  rw [this]
  simp only [BitVec.xor_assoc]
  congr 1
  rw [← BitVec.xor_assoc s, BitVec.xor_comm s, BitVec.xor_assoc]

theorem reg_xor (a b : List UInt8) (hl : a.length = b.length) (r s : BitVec 32) :
    reg (r ^^^ s) (List.zipWith (· ^^^ ·) a b) = reg r a ^^^ reg s b := by
  induction a generalizing b r s with
  | nil => cases b <;> simp_all [reg]
  | cons x a ih =>
    cases b with
    | nil => simp at hl
    | cons y b =>
      simp only [List.zipWith_cons_cons, reg_cons, take1_xor]
      exact ih b (by simpa using hl) _ _

def tail4 (s : BitVec 32) : List UInt8 := [UInt8.ofNat s.toNat, UInt8.ofNat (s.toNat / 256), UInt8.ofNat (s.toNat / 65536), UInt8.ofNat (s.toNat / 16777216)]

end Go.Proofs.YtenalocpmigppaaGreatDoor.Crc
