/- The order of keys' texts, and that unlike keys have unlike texts. No program in it. -/
import Derived.Test.YtankjbppjabcoaaPlain
namespace Go.Proofs.Ytankjbppjabcoaa
namespace Ky
open Go.Op (bytesLess)

theorem less_ne {x y : UInt8} (l m : Bs) (h : x ≠ y) : bytesLess (x :: l) (y :: m) = decide (x.toNat < y.toNat) := by
  have hb : (x == y) = false := by simpa using h
  simp only [bytesLess, hb, Bool.false_and, Bool.or_false]
  rfl
theorem less_eq (x : UInt8) (l m : Bs) : bytesLess (x :: l) (x :: m) = bytesLess l m := by
  have h1 : decide (x < x) = false := by simp
  simp only [bytesLess, h1, Bool.false_or, beq_self_eq_true, Bool.true_and]
theorem less_self (l : Bs) : bytesLess l l = false := by
  induction l with
  | nil => rfl
  | cons x l ih => rw [less_eq, ih]
theorem less_pre (u l m : Bs) : bytesLess (u ++ l) (u ++ m) = bytesLess l m := by
  induction u with
  | nil => rfl
  | cons x u ih => rw [List.cons_append, List.cons_append, less_eq, ih]
/-- The number that bytes make. -/
def val : Bs → Nat
  | [] => 0
  | x :: u => x.toNat * 256 ^ u.length + val u
theorem val_lt (u : Bs) : val u < 256 ^ u.length := by
  induction u with
  | nil => simp [val]
  | cons x u ih =>
    have hx : x.toNat + 1 ≤ 256 := x.toNat_lt
    have h1 : (x.toNat + 1) * 256 ^ u.length ≤ 256 * 256 ^ u.length := Nat.mul_le_mul_right _ hx
    show x.toNat * 256 ^ u.length + val u < 256 ^ (u.length + 1)
    rw [Nat.pow_succ, Nat.mul_comm (256 ^ u.length) 256]
    rw [Nat.add_mul, Nat.one_mul] at h1
    omega
theorem less_val : ∀ (u v l m : Bs), u.length = v.length → val u ≠ val v → bytesLess (u ++ l) (v ++ m) = decide (val u < val v)
  | [], [], _, _, _, h => absurd rfl h
  | [], _ :: _, _, _, hl, _ => by simp at hl
  | _ :: _, [], _, _, hl, _ => by simp at hl
  | x :: u, y :: v, l, m, hl, h => by
    have hl' : u.length = v.length := by simpa using hl
    by_cases e : x = y
    · subst e
      rw [List.cons_append, List.cons_append, less_eq]
      have h' : val u ≠ val v := fun e => h (by simp only [val, hl', e])
      rw [less_val u v l m hl' h']
      simp only [val, hl']
      congr 1
      rw [eq_iff_iff]
      omega
    · rw [List.cons_append, List.cons_append, less_ne _ _ e]
      have hu := val_lt u
      have hv := val_lt v
      simp only [val, hl']
      rw [hl'] at hu
      have e' : x.toNat ≠ y.toNat := fun h => e (UInt8.toNat_inj.1 h)
      congr 1
      rw [eq_iff_iff]
      constructor
      · intro hlt
        have h1 : (x.toNat + 1) * 256 ^ v.length ≤ y.toNat * 256 ^ v.length := Nat.mul_le_mul_right _ hlt
        rw [Nat.add_mul, Nat.one_mul] at h1
        omega
      · intro hlt
        rcases Nat.lt_or_ge x.toNat y.toNat with h2 | h2
        · exact h2
        · have h3 : y.toNat + 1 ≤ x.toNat := by omega
          have h1 : (y.toNat + 1) * 256 ^ v.length ≤ x.toNat * 256 ^ v.length := Nat.mul_le_mul_right _ h3
          rw [Nat.add_mul, Nat.one_mul] at h1
          omega
theorem bn_nat (n i : Nat) : (bn n i).toNat = n / 2 ^ (8 * i) % 256 := by unfold bn; rw [UInt8.toNat_ofNat']
theorem val_fx (n : Nat) (h : n < 18446744073709551616) : val (fx n) = n := by
  have h7 : (bn n 7).toNat = n / 72057594037927936 % 256 := bn_nat n 7
  have h6 : (bn n 6).toNat = n / 281474976710656 % 256 := bn_nat n 6
  have h5 : (bn n 5).toNat = n / 1099511627776 % 256 := bn_nat n 5
  have h4 : (bn n 4).toNat = n / 4294967296 % 256 := bn_nat n 4
  have h3 : (bn n 3).toNat = n / 16777216 % 256 := bn_nat n 3
  have h2 : (bn n 2).toNat = n / 65536 % 256 := bn_nat n 2
  have h1 : (bn n 1).toNat = n / 256 % 256 := bn_nat n 1
  have h0 : (bn n 0).toNat = n % 256 := by have := bn_nat n 0; simpa using this
  simp only [fx, val, List.length_cons, List.length_nil, h7, h6, h5, h4, h3, h2, h1, h0]
  omega
theorem fx_inj {n m : Nat} (hn : n < 18446744073709551616) (hm : m < 18446744073709551616) (h : fx n = fx m) : n = m := by
  have := congrArg val h
  rwa [val_fx n hn, val_fx m hm] at this
theorem less_fx (n m : Nat) (l l' : Bs) (hn : n < 18446744073709551616) (hm : m < 18446744073709551616) (h : n ≠ m) : bytesLess (fx n ++ l) (fx m ++ l') = decide (n < m) := by
  rw [less_val (fx n) (fx m) l l' rfl (by rw [val_fx n hn, val_fx m hm]; exact h), val_fx n hn, val_fx m hm]

theorem text_n {k : K} (h : k.kind = 110) (r : right k) : text k = [110] ∧ k.ino = 0 ∧ k.name = [] ∧ k.index = 0 := by
  rcases r with ⟨_, h1, h2, h3⟩ | ⟨_, (⟨h1 | h1, _⟩ | ⟨h1, _⟩ | ⟨h1, _⟩)⟩
  · exact ⟨by unfold text; simp [h, h2], h1, h2, h3⟩
  all_goals (rw [h] at h1; exact absurd h1 (by decide))
/-- Behind the number. -/
def tail (k : K) : Bs := (if k.kind = 112 then fx (un k.index) else []) ++ k.name
theorem text_o {k : K} (h : k.kind ≠ 110) (r : right k) : text k = k.kind :: (fx (un k.ino) ++ tail k) ∧ 0 < k.ino ∧ k.ino ≤ 1099511627776 := by
  rcases r with ⟨h1, _⟩ | ⟨⟨h1, h2⟩, _⟩
  · exact absurd h1 h
  · exact ⟨by unfold text tail; rw [if_neg h, List.append_assoc], h1, h2⟩
theorem less_kind {a b : K} (h : a.kind ≠ b.kind) : bytesLess (text a) (text b) = decide (a.kind.toNat < b.kind.toNat) := less_ne _ _ h
theorem less_ino {a b : K} (ra : right a) (rb : right b) (hk : a.kind = b.kind) (h : a.ino ≠ b.ino) : bytesLess (text a) (text b) = decide (a.ino < b.ino) := by
  by_cases h110 : a.kind = 110
  · have h1 := text_n h110 ra
    have h2 := text_n (hk ▸ h110) rb
    exact absurd (h1.2.1.trans h2.2.1.symm) h
  · obtain ⟨ea, a0, a1⟩ := text_o h110 ra
    obtain ⟨eb, b0, b1⟩ := text_o (hk ▸ h110) rb
    rw [ea, eb, hk, less_eq]
    have u1 := un_pos (z := a.ino) (by omega) (by omega)
    have u2 := un_pos (z := b.ino) (by omega) (by omega)
    rw [less_fx _ _ _ _ (un_lt _) (un_lt _) (by omega), u1, u2]
    congr 1
    rw [eq_iff_iff]
    omega
/-- What stands behind the number, of a right key. -/
theorem tail_of {k : K} (h110 : k.kind ≠ 110) (r : right k) : (k.kind = 112 ∧ tail k = fx (un k.index) ∧ k.name = [] ∧ 0 ≤ k.index ∧ k.index < 72057594037927936) ∨ (k.kind ≠ 112 ∧ tail k = k.name ∧ k.index = 0) := by
  rcases r with ⟨h1, _⟩ | ⟨_, (⟨h1, _, _, h4⟩ | ⟨h1, h2, h3, h4⟩ | ⟨h1, h2, h3⟩)⟩
  · exact absurd h1 h110
  · have : k.kind ≠ 112 := by rcases h1 with h1 | h1 <;> rw [h1] <;> decide
    exact .inr ⟨this, by unfold tail; rw [if_neg this]; rfl, h4⟩
  · exact .inl ⟨h1, by unfold tail; rw [if_pos h1, h2, List.append_nil], h2, h3, h4⟩
  · have : k.kind ≠ 112 := by rw [h1]; decide
    exact .inr ⟨this, by unfold tail; rw [if_neg this]; rfl, h3⟩
theorem less_name {a b : K} (ra : right a) (rb : right b) (hk : a.kind = b.kind) (hi : a.ino = b.ino) (h : a.name ≠ b.name) : bytesLess (text a) (text b) = bytesLess a.name b.name := by
  by_cases h110 : a.kind = 110
  · have h1 := text_n h110 ra
    have h2 := text_n (hk ▸ h110) rb
    exact absurd (h1.2.2.1.trans h2.2.2.1.symm) h
  · have hb : b.kind ≠ 110 := hk ▸ h110
    rw [(text_o h110 ra).1, (text_o hb rb).1, hk, hi, less_eq, less_pre]
    rcases tail_of h110 ra with ⟨k1, _, n1, _⟩ | ⟨k1, t1, _⟩ <;> rcases tail_of hb rb with ⟨k2, _, n2, _⟩ | ⟨k2, t2, _⟩
    · exact absurd (n1.trans n2.symm) h
    · exact absurd (hk ▸ k1) k2
    · exact absurd (hk.symm ▸ k2) k1
    · rw [t1, t2]
theorem less_index {a b : K} (ra : right a) (rb : right b) (hk : a.kind = b.kind) (hi : a.ino = b.ino) (hn : a.name = b.name) : bytesLess (text a) (text b) = decide (a.index < b.index) := by
  by_cases h110 : a.kind = 110
  · have h1 := text_n h110 ra
    have h2 := text_n (hk ▸ h110) rb
    rw [h1.1, h2.1, h1.2.2.2, h2.2.2.2]; rfl
  · have hb : b.kind ≠ 110 := hk ▸ h110
    rw [(text_o h110 ra).1, (text_o hb rb).1, hk, hi, less_eq, less_pre]
    rcases tail_of h110 ra with ⟨k1, t1, n1, i1, j1⟩ | ⟨k1, t1, x1⟩ <;> rcases tail_of hb rb with ⟨k2, t2, n2, i2, j2⟩ | ⟨k2, t2, x2⟩
    · rw [t1, t2]
      by_cases e : a.index = b.index
      · rw [e, less_self]; simp
      · have u1 := un_pos (z := a.index) (by omega) (by omega)
        have u2 := un_pos (z := b.index) (by omega) (by omega)
        have := less_fx (un a.index) (un b.index) [] [] (un_lt _) (un_lt _) (by omega)
        rw [List.append_nil, List.append_nil] at this
        rw [this, u1, u2]
        congr 1
        rw [eq_iff_iff]
        omega
    · exact absurd (hk ▸ k1) k2
    · exact absurd (hk.symm ▸ k2) k1
    · rw [t1, t2, hn, less_self, x1, x2]; rfl
theorem text_inj {a b : K} (ra : right a) (rb : right b) (h : text a = text b) : a.kind = b.kind ∧ a.ino = b.ino ∧ a.name = b.name ∧ a.index = b.index := by
  have hk : a.kind = b.kind := by unfold text at h; exact (List.cons.inj h).1
  by_cases h110 : a.kind = 110
  · have h1 := text_n h110 ra
    have h2 := text_n (hk ▸ h110) rb
    exact ⟨hk, h1.2.1.trans h2.2.1.symm, h1.2.2.1.trans h2.2.2.1.symm, h1.2.2.2.trans h2.2.2.2.symm⟩
  · have hb : b.kind ≠ 110 := hk ▸ h110
    obtain ⟨ea, a0, a1⟩ := text_o h110 ra
    obtain ⟨eb, b0, b1⟩ := text_o hb rb
    rw [ea, eb] at h
    have h2 := (List.cons.inj h).2
    have h3 := List.append_inj h2 rfl
    have hino : a.ino = b.ino := by
      have := fx_inj (un_lt _) (un_lt _) h3.1
      have u1 := un_pos (z := a.ino) (by omega) (by omega)
      have u2 := un_pos (z := b.ino) (by omega) (by omega)
      omega
    rcases tail_of h110 ra with ⟨k1, t1, n1, i1, j1⟩ | ⟨k1, t1, x1⟩ <;> rcases tail_of hb rb with ⟨k2, t2, n2, i2, j2⟩ | ⟨k2, t2, x2⟩
    · refine ⟨hk, hino, n1.trans n2.symm, ?_⟩
      have := h3.2
      rw [t1, t2] at this
      have := fx_inj (un_lt _) (un_lt _) this
      have u1 := un_pos (z := a.index) (by omega) (by omega)
      have u2 := un_pos (z := b.index) (by omega) (by omega)
      omega
    · exact absurd (hk ▸ k1) k2
    · exact absurd (hk.symm ▸ k2) k1
    · refine ⟨hk, hino, ?_, x1.trans x2.symm⟩
      have := h3.2
      rwa [t1, t2] at this
end Ky
end Go.Proofs.Ytankjbppjabcoaa
