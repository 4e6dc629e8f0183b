/- The plain law behind the third promise: bits turned within 32 that stand together turn the sum. No program in it. -/
import Derived.Test.YtkddijipdldinaaDoorPlain
namespace Go.Proofs.YtkddijipdldinaaDoor
namespace Crc

def bsk : Nat → BitVec 32 → BitVec 32
  | 0, c => c
  | j + 1, c => bs (bsk j c)
theorem bsk_up (c : BitVec 32) (b : UInt8) : bsk 8 (c ^^^ ext b) = up c b := rfl
theorem bs_zero : bs 0#32 = 0#32 := by decide
theorem bsk_zero (n : Nat) : bsk n 0#32 = 0#32 := by
  induction n with
  | zero => rfl
  | succ n ih => show bs (bsk n 0#32) = _; rw [ih, bs_zero]
theorem bsk_xor (n : Nat) (a b : BitVec 32) : bsk n (a ^^^ b) = bsk n a ^^^ bsk n b := by
  induction n with
  | zero => rfl
  | succ n ih => show bs (bsk n (a ^^^ b)) = bs (bsk n a) ^^^ bs (bsk n b); rw [ih, bs_xor]
/-- A step turns nothing but zero into zero. -/
theorem bs_eq_zero {x : BitVec 32} (h : bs x = 0#32) : x = 0#32 := by
  have hm : (bs x).getLsbD 31 = x.getLsbD 0 := by
    unfold bs
    rw [BitVec.getLsbD_xor, BitVec.getLsbD_ushiftRight, BitVec.getLsbD_of_ge x (1 + 31) (by omega), Bool.false_xor]
    cases x.getLsbD 0
    · simp
    · rw [if_pos rfl]; decide
  rw [h] at hm
  have h0 : x.getLsbD 0 = false := by rw [← hm]; simp
  rw [bs_even h0] at h
  apply BitVec.eq_of_getLsbD_eq
  intro i hi
  rcases Nat.eq_zero_or_pos i with rfl | hp
  · rw [h0]; simp
  · have h1 : (x >>> 1).getLsbD (i - 1) = x.getLsbD i := by rw [BitVec.getLsbD_ushiftRight, show 1 + (i - 1) = i by omega]
    rw [← h1, h]
    simp
theorem bsk_eq_zero (n : Nat) {x : BitVec 32} (h : bsk n x = 0#32) : x = 0#32 := by
  induction n with
  | zero => exact h
  | succ n ih => exact ih (bs_eq_zero h)

def bit (b : Bool) : BitVec 32 := if b then 1#32 else 0#32
theorem bit_xor (a b : Bool) : bit (a ^^ b) = bit a ^^^ bit b := by cases a <;> cases b <;> decide
/-- n bits, one by one. -/
def runF (f : Nat → Bool) : Nat → BitVec 32 → BitVec 32
  | 0, c => c
  | n + 1, c => bs (runF f n c ^^^ bit (f n))
theorem xor4 (a b c d : BitVec 32) : a ^^^ b ^^^ (c ^^^ d) = a ^^^ c ^^^ (b ^^^ d) := by
  rw [BitVec.xor_assoc, ← BitVec.xor_assoc b c d, BitVec.xor_comm b c, BitVec.xor_assoc c b d, ← BitVec.xor_assoc]
theorem runF_xor (f g : Nat → Bool) (n : Nat) (c d : BitVec 32) : runF (fun j => f j ^^ g j) n (c ^^^ d) = runF f n c ^^^ runF g n d := by
  induction n with
  | zero => rfl
  | succ n ih =>
    show bs (runF (fun j => f j ^^ g j) n (c ^^^ d) ^^^ bit (f n ^^ g n)) = bs (runF f n c ^^^ bit (f n)) ^^^ bs (runF g n d ^^^ bit (g n))
    rw [ih, bit_xor, xor4, bs_xor]
theorem runF_congr {f g : Nat → Bool} (n : Nat) (c : BitVec 32) (h : ∀ j, j < n → f j = g j) : runF f n c = runF g n c := by
  induction n with
  | zero => rfl
  | succ n ih =>
    show bs (runF f n c ^^^ bit (f n)) = bs (runF g n c ^^^ bit (g n))
    rw [ih fun j hj => h j (by omega), h n (by omega)]
theorem runF_none {f : Nat → Bool} (a n : Nat) (c : BitVec 32) (h : ∀ j, j < n → f (a + j) = false) : runF f (a + n) c = bsk n (runF f a c) := by
  induction n with
  | zero => rfl
  | succ n ih =>
    show bs (runF f (a + n) c ^^^ bit (f (a + n))) = bs (bsk n (runF f a c))
    rw [ih fun j hj => h j (by omega), h n (by omega)]
    simp [bit]
/-- The low k bits. -/
def lowk (x : BitVec 32) : Nat → BitVec 32
  | 0 => 0#32
  | k + 1 => lowk x k ^^^ (if x.getLsbD k then 1#32 <<< k else 0#32)
theorem one_shl_bit (k j : Nat) (hk : k < 32) : (1#32 <<< k).getLsbD j = decide (j = k) := by
  rw [BitVec.getLsbD_shiftLeft]
  by_cases h : j = k
  · subst h; simp [hk]
  · rcases Nat.lt_or_ge j k with h1 | h1
    · simp [h1, h]
    · have : (1#32).getLsbD (j - k) = false := by
        rw [BitVec.getLsbD_ofNat]
        have : Nat.testBit 1 (j - k) = false := Nat.testBit_lt_two_pow (Nat.lt_of_lt_of_le (by decide : 1 < 2 ^ 1) (Nat.pow_le_pow_right (by decide) (by omega)))
        simp [this]
      rw [this]; simp [h]
theorem lowk_bit (x : BitVec 32) (k j : Nat) (hk : k ≤ 32) : (lowk x k).getLsbD j = (decide (j < k) && x.getLsbD j) := by
  induction k with
  | zero => simp [lowk]
  | succ k ih =>
    show (lowk x k ^^^ (if x.getLsbD k then 1#32 <<< k else 0#32)).getLsbD j = _
    rw [BitVec.getLsbD_xor, ih (by omega)]
    by_cases hj : j = k
    · subst hj
      cases hx : x.getLsbD j
      · simp
      · rw [if_pos rfl, one_shl_bit j j (by omega)]; simp
    · have e : (if x.getLsbD k then 1#32 <<< k else 0#32).getLsbD j = false := by
        cases x.getLsbD k
        · simp
        · rw [if_pos rfl, one_shl_bit k j (by omega)]; simp [hj]
      rw [e, Bool.xor_false]
      have : decide (j < k + 1) = decide (j < k) := by
        by_cases h : j < k
        · simp [h]; omega
        · simp [h]; omega
      rw [this]
theorem bsk_one : ∀ k : Fin 32, bsk k.val (1#32 <<< k.val) = 1#32 := by decide +kernel
theorem runF_word (f : Nat → Bool) (a : Nat) (x c : BitVec 32) (k : Nat) (hk : k ≤ 32) (h : ∀ i, i < k → f (a + i) = x.getLsbD i) : runF f (a + k) c = bsk k (runF f a c ^^^ lowk x k) := by
  induction k with
  | zero => show runF f a c = runF f a c ^^^ 0#32; simp
  | succ k ih =>
    show bs (runF f (a + k) c ^^^ bit (f (a + k))) = bs (bsk k (runF f a c ^^^ (lowk x k ^^^ (if x.getLsbD k then 1#32 <<< k else 0#32))))
    rw [ih (by omega) fun i hi => h i (by omega), h k (by omega), ← BitVec.xor_assoc, bsk_xor k (runF f a c ^^^ lowk x k)]
    congr 2
    cases x.getLsbD k
    · show 0#32 = _; rw [if_neg (by simp), bsk_zero]
    · show 1#32 = _; rw [if_pos rfl, bsk_one ⟨k, by omega⟩]
theorem lowk_all (x : BitVec 32) : lowk x 32 = x := by
  apply BitVec.eq_of_getLsbD_eq
  intro i hi
  rw [lowk_bit x 32 i (by omega)]
  simp [hi]
theorem ext_bit (b : UInt8) (j : Nat) : (ext b).getLsbD j = b.toNat.testBit j := by
  unfold ext
  rw [BitVec.getLsbD_ofNat]
  by_cases h : j < 32
  · simp [h]
  · have : b.toNat.testBit j = false := Nat.testBit_lt_two_pow (Nat.lt_of_lt_of_le b.toNat_lt (Nat.pow_le_pow_right (by decide) (by omega)))
    simp [this]
theorem lowk_ext (b : UInt8) : lowk (ext b) 8 = ext b := by
  apply BitVec.eq_of_getLsbD_eq
  intro i hi
  rw [lowk_bit _ 8 i (by omega), ext_bit]
  by_cases h : i < 8
  · simp [h]
  · have : b.toNat.testBit i = false := Nat.testBit_lt_two_pow (Nat.lt_of_lt_of_le b.toNat_lt (Nat.pow_le_pow_right (by decide) (by omega)))
    simp [this]
/-- Bit j of a text. -/
def bitAt (l : List UInt8) (j : Nat) : Bool := (l.getD (j / 8) 0).toNat.testBit (j % 8)
theorem run_runF (c : BitVec 32) (l : List UInt8) (k : Nat) (hk : k ≤ l.length) : run c (l.take k) = runF (bitAt l) (8 * k) c := by
  induction k with
  | zero => rfl
  | succ k ih =>
    have hkl : k < l.length := by omega
    rw [List.take_succ_eq_append_getElem hkl]
    have e : run c (l.take k ++ [l[k]]) = up (run c (l.take k)) l[k] := by unfold run; rw [List.foldl_append]; rfl
    rw [e, ih (by omega), ← bsk_up, show 8 * (k + 1) = 8 * k + 8 by omega, runF_word (bitAt l) (8 * k) (ext l[k]) c 8 (by omega), lowk_ext]
    intro i hi
    rw [ext_bit]
    unfold bitAt
    rw [show (8 * k + i) / 8 = k by omega, show (8 * k + i) % 8 = i by omega, List.getD_eq_getElem?_getD, List.getElem?_eq_getElem hkl]
    rfl

/-- l with the first i of the bits turned, from bit 'at' on. -/
def Turned (l : List UInt8) (p : Nat) (x : BitVec 32) (i : Nat) (t : List UInt8) : Prop :=
  t.length = l.length ∧ ∀ j, j < 8 * l.length → bitAt t j = (bitAt l j ^^ (decide (p ≤ j ∧ j < p + i) && x.getLsbD (j - p)))
theorem turned_ne (l t : List UInt8) (p : Nat) (x : BitVec 32) (hx : x ≠ 0#32) (hp : p + 32 ≤ 8 * l.length) (h : Turned l p x 32 t) : sum t ≠ sum l := by
  obtain ⟨hlen, hb⟩ := h
  have e1 : run (~~~ 0#32) t = runF (bitAt t) (8 * l.length) (~~~ 0#32) := by
    have := run_runF (~~~ 0#32) t t.length (Nat.le_refl _)
    rwa [List.take_length, hlen] at this
  have e2 : run (~~~ 0#32) l = runF (bitAt l) (8 * l.length) (~~~ 0#32) := by
    have := run_runF (~~~ 0#32) l l.length (Nat.le_refl _)
    rwa [List.take_length] at this
  let h : Nat → Bool := fun j => decide (p ≤ j ∧ j < p + 32) && x.getLsbD (j - p)
  have e3 : runF (bitAt t) (8 * l.length) (~~~ 0#32) = runF (bitAt l) (8 * l.length) (~~~ 0#32) ^^^ runF h (8 * l.length) 0#32 := by
    rw [← runF_xor, BitVec.xor_zero]
    exact runF_congr _ _ hb
  have z0 : runF h (0 + p) 0#32 = 0#32 := by
    rw [runF_none 0 p 0#32 fun j hj => by simp [h]; omega]
    exact bsk_zero p
  have z1 : runF h (p + 32) 0#32 = bsk 32 x := by
    rw [runF_word h p x 0#32 32 (by omega) fun i hi => by simp [h]; omega, lowk_all]
    rw [Nat.zero_add] at z0
    rw [z0, BitVec.zero_xor]
  obtain ⟨m, hm⟩ : ∃ m, 8 * l.length = p + 32 + m := ⟨8 * l.length - (p + 32), by omega⟩
  have z2 : runF h (8 * l.length) 0#32 = bsk m (bsk 32 x) := by
    rw [hm, runF_none (p + 32) m 0#32 fun j hj => by simp [h]; omega, z1]
  intro he
  unfold sum more at he
  have he' : run (~~~ 0#32) t = run (~~~ 0#32) l := by
    have := congrArg (fun y => ~~~ y) he
    simpa using this
  rw [e1, e2, e3, z2] at he'
  have : bsk m (bsk 32 x) = 0#32 := by
    have h2 := congrArg (fun y => runF (bitAt l) (8 * l.length) (~~~ 0#32) ^^^ y) he'
    simp only [← BitVec.xor_assoc, BitVec.xor_self, BitVec.zero_xor] at h2
    exact h2
  exact hx (bsk_eq_zero 32 (bsk_eq_zero m this))
/-- One bit more. -/
theorem Turned.step {l t : List UInt8} {p i : Nat} {x : BitVec 32} (h : Turned l p x i t) (hi : i < 32) (hp : p + 32 ≤ 8 * l.length) (u : UInt8)
    (hu : u.toNat = if x.getLsbD i then (t.getD ((p + i) / 8) 0).toNat ^^^ 2 ^ ((p + i) % 8) else (t.getD ((p + i) / 8) 0).toNat) : Turned l p x (i + 1) (t.set ((p + i) / 8) u) := by
  obtain ⟨hlen, hb⟩ := h
  refine ⟨by simp [hlen], fun j hj => ?_⟩
  have hq : (p + i) / 8 < t.length := by omega
  by_cases hd : j / 8 = (p + i) / 8
  · have e0 : bitAt (t.set ((p + i) / 8) u) j = u.toNat.testBit (j % 8) := by
      unfold bitAt
      rw [hd, List.getD_eq_getElem?_getD, List.getElem?_set_self hq]
      rfl
    have e1 : (t.getD ((p + i) / 8) 0).toNat.testBit (j % 8) = bitAt t j := by unfold bitAt; rw [hd]
    rw [e0, hu]
    by_cases hji : j = p + i
    · subst hji
      have e2 := hb (p + i) hj
      rw [show (decide (p ≤ p + i ∧ p + i < p + i)) = false by simp, Bool.false_and, Bool.xor_false] at e2
      rw [show (decide (p ≤ p + i ∧ p + i < p + (i + 1))) = true by simp, Bool.true_and, show p + i - p = i by omega]
      cases hx : x.getLsbD i
      · rw [if_neg (by simp), e1, e2]; simp
      · rw [if_pos rfl, Nat.testBit_xor, e1, e2, Nat.testBit_two_pow_self]
    · have hm : ¬ ((p + i) % 8 = j % 8) := by omega
      have e3 : (if x.getLsbD i = true then (t.getD ((p + i) / 8) 0).toNat ^^^ 2 ^ ((p + i) % 8) else (t.getD ((p + i) / 8) 0).toNat).testBit (j % 8) = bitAt t j := by
        cases hx : x.getLsbD i
        · rw [if_neg (by simp), e1]
        · rw [if_pos rfl, Nat.testBit_xor, e1, Nat.testBit_two_pow]
          simp [hm]
      rw [e3, hb j hj]
      congr 2
      by_cases h1 : p ≤ j ∧ j < p + i
      · simp [h1]; omega
      · have : ¬ (p ≤ j ∧ j < p + (i + 1)) := by omega
        simp only [h1, this]
  · have e0 : bitAt (t.set ((p + i) / 8) u) j = bitAt t j := by
      unfold bitAt
      rw [List.getD_eq_getElem?_getD, List.getElem?_set_ne (Ne.symm hd), ← List.getD_eq_getElem?_getD]
    rw [e0, hb j hj]
    congr 2
    have hji : j ≠ p + i := fun e => hd (by rw [e])
    by_cases h1 : p ≤ j ∧ j < p + i
    · simp [h1]; omega
    · have : ¬ (p ≤ j ∧ j < p + (i + 1)) := by omega
      simp only [h1, this]
theorem Turned.zero (l : List UInt8) (p : Nat) (x : BitVec 32) : Turned l p x 0 l := ⟨rfl, fun j _ => by
  rw [show (decide (p ≤ j ∧ j < p + 0)) = false by simp]; simp⟩
end Crc
end Go.Proofs.YtkddijipdldinaaDoor
