/- The plain words for keys' texts: bytes as lists, a number in eight bytes, a key's text. No program in it. -/
import Derived.Laws.BitsLemmas
import Derived.Laws.Entries
import Derived.Laws.Strings
namespace Go.Proofs.Ytankjbppjabcoaa
namespace Ky

abbrev Bs := List UInt8
/-- A text out of its bytes. -/
def S (l : Bs) : ByteArray := ⟨l.toArray⟩
theorem S_toList (l : Bs) : (S l).data.toList = l := rfl
theorem S_size (l : Bs) : (S l).size = l.length := by simp [S, ByteArray.size]
theorem S_tl (l : Bs) : (S l).toList = l := by
  rw [ByteArray.toList_eq, S_toList]
theorem S_of (s : ByteArray) : ∃ l, s = S l := ⟨s.data.toList, by cases s; simp [S]⟩
theorem S_app (l m : Bs) : S l ++ S m = S (l ++ m) := by
  apply ByteArray.ext
  simp [S, ByteArray.data_append]
theorem S_inj {l m : Bs} (h : S l = S m) : l = m := by
  have := congrArg (fun s => s.data.toList) h
  exact this

/-- Byte i of a number. -/
def bn (n i : Nat) : UInt8 := UInt8.ofNat (n / 2 ^ (8 * i))
theorem bn_val (n i : Nat) : ((bn n i).toNat : Int) = ((n : Int) / 2 ^ (8 * i)) % 256 := by
  unfold bn
  rw [UInt8.toNat_ofNat']
  have : ((2 : Int) ^ (8 * i)) = ((2 ^ (8 * i) : Nat) : Int) := by simp
  rw [this, ← Int.natCast_ediv]
  omega
/-- Eight bytes, the highest first. -/
def fx (n : Nat) : Bs := [bn n 7, bn n 6, bn n 5, bn n 4, bn n 3, bn n 2, bn n 1, bn n 0]
theorem fx_length (n : Nat) : (fx n).length = 8 := rfl

/-- A number of an int as an unsigned one. -/
def un (z : Int) : Nat := (z % 18446744073709551616).toNat
theorem un_lt (z : Int) : un z < 18446744073709551616 := by unfold un; omega
theorem un_pos {z : Int} (h0 : 0 ≤ z) (h1 : z < 18446744073709551616) : un z = z.toNat := by unfold un; omega

structure K where
  kind : UInt8
  ino : Int
  name : Bs
  index : Int

def rightI (k : K) : Prop := 0 < k.ino ∧ k.ino ≤ 1099511627776
instance decRightI (k : K) : Decidable (rightI k) := by unfold rightI; infer_instance
/-- Is it a key? -/
def right (k : K) : Prop :=
  (k.kind = 110 ∧ k.ino = 0 ∧ k.name = [] ∧ k.index = 0) ∨
  (rightI k ∧ (((k.kind = 100 ∨ k.kind = 120) ∧ k.name ≠ [] ∧ k.name.length ≤ 255 ∧ k.index = 0) ∨
    (k.kind = 112 ∧ k.name = [] ∧ 0 ≤ k.index ∧ k.index < 72057594037927936) ∨
    (k.kind = 105 ∧ k.name = [] ∧ k.index = 0)))
instance decRight (k : K) : Decidable (right k) := by unfold right; infer_instance
/-- A key's text. -/
def text (k : K) : Bs :=
  k.kind :: ((if k.kind = 110 then [] else fx (un k.ino)) ++ (if k.kind = 112 then fx (un k.index) else []) ++ k.name)
def made (k : K) : Bs × Int := if right k then (text k, 0) else ([], 81)
end Ky
end Go.Proofs.Ytankjbppjabcoaa
