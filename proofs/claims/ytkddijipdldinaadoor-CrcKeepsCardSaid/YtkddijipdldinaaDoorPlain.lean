/- The plain arithmetic of the sum: one bit's step, a byte's step, a text's; the table of sixteen; that a step is linear and turns no two into one. No program in it. -/
import Derived.Laws.BitsLemmas
import Derived.Laws.Entries
namespace Go.Proofs.YtkddijipdldinaaDoor
namespace Crc

def P : BitVec 32 := 0x82F63B78#32
/-- One bit's step. -/
def bs (c : BitVec 32) : BitVec 32 := (c >>> 1) ^^^ (if c.getLsbD 0 then P else 0#32)
def bs4 (c : BitVec 32) : BitVec 32 := bs (bs (bs (bs c)))
def ext (b : UInt8) : BitVec 32 := BitVec.ofNat 32 b.toNat
/-- A byte's step. -/
def up (c : BitVec 32) (b : UInt8) : BitVec 32 := bs4 (bs4 (c ^^^ ext b))
def run (c : BitVec 32) (l : List UInt8) : BitVec 32 := l.foldl up c
def more (c : BitVec 32) (l : List UInt8) : BitVec 32 := ~~~ (run (~~~ c) l)
def sum (l : List UInt8) : BitVec 32 := more 0#32 l
/-- The table. -/
def tab : List Nat := [0, 274646895, 549293790, 820201905, 1098587580, 1361435347, 1640403810, 1905808397, 2197175160, 2460548119, 2722870694, 2987750089, 3280807620, 3553878443, 3811616794, 4084100981]
def tv (i : Nat) : Int := (tab.getD i 0 : Nat)
/-- A number of 32 bits as Go's. -/
def v (c : BitVec 32) : Int := (c.toNat : Int)

theorem bs_xor (a b : BitVec 32) : bs (a ^^^ b) = bs a ^^^ bs b := by
  unfold bs
  rw [BitVec.ushiftRight_xor_distrib, BitVec.getLsbD_xor]
  have e1 : ∀ x y p : BitVec 32, x ^^^ y ^^^ p = x ^^^ (y ^^^ p) := fun x y p => BitVec.xor_assoc x y p
  have e2 : ∀ x y p : BitVec 32, x ^^^ y ^^^ p = x ^^^ p ^^^ y := fun x y p => by rw [BitVec.xor_assoc, BitVec.xor_comm y p, ← BitVec.xor_assoc]
  cases a.getLsbD 0 <;> cases b.getLsbD 0
  · simp
  · simp [BitVec.xor_assoc]
  · simpa using e2 _ _ _
  · simp only [Bool.xor_true, Bool.not_true, Bool.false_eq_true, if_true, if_false, BitVec.xor_zero]
    rw [e2 (a >>> 1) P (b >>> 1 ^^^ P), ← e1 (a >>> 1) (b >>> 1) P, e1 _ P P, BitVec.xor_self, BitVec.xor_zero]
theorem bs4_xor (a b : BitVec 32) : bs4 (a ^^^ b) = bs4 a ^^^ bs4 b := by simp only [bs4, bs_xor]
theorem bs_even {a : BitVec 32} (h : a.getLsbD 0 = false) : bs a = a >>> 1 := by unfold bs; rw [h]; simp
theorem bs4_hi {a : BitVec 32} (h : ∀ i, i < 4 → a.getLsbD i = false) : bs4 a = a >>> 4 := by
  unfold bs4
  have h1 : (a >>> 1).getLsbD 0 = false := by rw [BitVec.getLsbD_ushiftRight]; exact h 1 (by omega)
  have h2 : (a >>> 1 >>> 1).getLsbD 0 = false := by rw [BitVec.getLsbD_ushiftRight, BitVec.getLsbD_ushiftRight]; exact h 2 (by omega)
  have h3 : (a >>> 1 >>> 1 >>> 1).getLsbD 0 = false := by rw [BitVec.getLsbD_ushiftRight, BitVec.getLsbD_ushiftRight, BitVec.getLsbD_ushiftRight]; exact h 3 (by omega)
  rw [bs_even (h 0 (by omega)), bs_even h1, bs_even h2, bs_even h3]
  simp [← BitVec.shiftRight_add]
theorem tab_bs4 : ∀ i : Fin 16, bs4 (BitVec.ofNat 32 i.val) = BitVec.ofNat 32 (tab.getD i.val 0) := by decide
theorem split4 (c : BitVec 32) : c = (c &&& ~~~ 15#32) ^^^ (c &&& 15#32) := by
  apply BitVec.eq_of_getLsbD_eq
  intro i hi
  simp only [BitVec.getLsbD_xor, BitVec.getLsbD_and, BitVec.getLsbD_not]
  cases c.getLsbD i <;> cases (15#32).getLsbD i <;> simp [hi]
theorem and15 (c : BitVec 32) : c &&& 15#32 = BitVec.ofNat 32 (c.toNat % 16) := by
  apply BitVec.eq_of_toNat_eq
  rw [BitVec.toNat_and, BitVec.toNat_ofNat]
  have := Nat.and_two_pow_sub_one_eq_mod c.toNat 4
  simp only [BitVec.toNat_ofNat]
  have e : (2 ^ 4 - 1 : Nat) = 15 % 2 ^ 32 := by decide
  rw [e] at this
  rw [this]
  omega
theorem low15 {i : Nat} (hi : i < 4) : (15#32).getLsbD i = true := by
  have : i = 0 ∨ i = 1 ∨ i = 2 ∨ i = 3 := by omega
  rcases this with rfl | rfl | rfl | rfl <;> decide
theorem high15 {i : Nat} (hi : 4 ≤ i) : (15#32).getLsbD i = false := by
  rw [BitVec.getLsbD_ofNat]
  have : Nat.testBit 15 i = false := Nat.testBit_lt_two_pow (Nat.lt_of_lt_of_le (by decide : 15 < 2 ^ 4) (Nat.pow_le_pow_right (by decide) hi))
  simp [this]
/-- Half a byte by the table. -/
theorem bs4_tab (c : BitVec 32) : bs4 c = BitVec.ofNat 32 (tab.getD (c.toNat % 16) 0) ^^^ (c >>> 4) := by
  rw [← tab_bs4 ⟨c.toNat % 16, Nat.mod_lt _ (by decide)⟩]
  conv => lhs; rw [split4 c, bs4_xor]
  rw [BitVec.xor_comm, and15]
  congr 1
  rw [bs4_hi]
  · apply BitVec.eq_of_getLsbD_eq
    intro i hi
    simp only [BitVec.getLsbD_ushiftRight, BitVec.getLsbD_and, BitVec.getLsbD_not]
    by_cases h : 4 + i < 32
    · rw [high15 (by omega)]; simp [h]
    · rw [BitVec.getLsbD_of_ge c (4 + i) (by omega)]; simp
  · intro i hi
    simp only [BitVec.getLsbD_and, BitVec.getLsbD_not, low15 hi]
    simp

/-! Go's numbers. -/
theorem v_lt (c : BitVec 32) : 0 ≤ v c ∧ v c < 4294967296 := by unfold v; have := c.isLt; omega
theorem bits_xor_v (a b : BitVec 32) : bits .xor .u32 (v a) (v b) = v (a ^^^ b) := by
  unfold v bits
  have ha : BitVec.ofInt IntKind.u32.bits (a.toNat : Int) = a := by
    show BitVec.ofInt 32 _ = a
    rw [BitVec.ofInt_natCast, BitVec.ofNat_toNat]; simp
  have hb : BitVec.ofInt IntKind.u32.bits (b.toNat : Int) = b := by
    show BitVec.ofInt 32 _ = b
    rw [BitVec.ofInt_natCast, BitVec.ofNat_toNat]; simp
  simp only [ha, hb]
  rw [IntKind.wrap_u32]
  have := (a ^^^ b).isLt
  show ((a ^^^ b).toNat : Int) % 4294967296 = _
  omega
theorem bits_and15_v (a : BitVec 32) : bits .and .u32 (v a) 15 = ((a.toNat % 16 : Nat) : Int) := by
  unfold v bits
  have ha : BitVec.ofInt IntKind.u32.bits (a.toNat : Int) = a := by
    show BitVec.ofInt 32 _ = a
    rw [BitVec.ofInt_natCast, BitVec.ofNat_toNat]; simp
  simp only [ha]
  show IntKind.u32.wrap (((a &&& BitVec.ofInt 32 15) : BitVec 32).toNat : Int) = _
  have e : BitVec.ofInt 32 15 = 15#32 := by decide
  rw [IntKind.wrap_u32, e, and15, BitVec.toNat_ofNat]
  omega
theorem v_shr4 (a : BitVec 32) : v a / (16 : Int) = v (a >>> (4 : Nat)) := by
  unfold v
  rw [BitVec.toNat_ushiftRight, Nat.shiftRight_eq_div_pow]
  omega
theorem v_ofNat (n : Nat) (h : n < 4294967296) : v (BitVec.ofNat 32 n) = n := by
  unfold v
  rw [BitVec.toNat_ofNat]
  omega
theorem v_ext (b : UInt8) : v (ext b) = (b.toNat : Int) := by
  have := b.toNat_lt
  exact v_ofNat _ (by omega)
theorem v_inj {a b : BitVec 32} (h : v a = v b) : a = b := by
  unfold v at h
  exact BitVec.eq_of_toNat_eq (by omega)
theorem tab_lt (i : Nat) : tab.getD i 0 < 4294967296 := by
  by_cases h : i < 16
  · have := (by decide : ∀ i : Fin 16, tab.getD i.val 0 < 4294967296) ⟨i, h⟩
    exact this
  · rw [List.getD_eq_getElem?_getD, List.getElem?_eq_none (by simp [tab]; omega)]; decide
end Crc
end Go.Proofs.YtkddijipdldinaaDoor
