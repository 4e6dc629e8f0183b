import Derived.Test.YtankjbppjabcoaaWkJ
import Derived.Laws.ResultCell
import Derived.WalkMore
namespace Go.Proofs.Ytankjbppjabcoaa
open Go.RowKit Ky

theorem read_any (s : Bs) (w : World) :
    Calls Try.prog 20 #[.string (S s)] w fun e w' => e = .returned (.pointer (some ⟨w.heap.size, 0, none⟩)) ∧ w' = w.alloc (.cells #[.string (S s), .int .i64 0, .int .i64 0] 56 (0, 0)) := by
  go_enter Try.func20, Try.ntmps20
  go_wp2
  go_ret
  exact ⟨rfl, rfl⟩
theorem read_at (s : Bs) (w : World) (g : Nat) (hg : w.heap.size = g) :
    Calls Try.prog 20 #[.string (S s)] w fun e w' => e = .returned (.pointer (some ⟨g, 0, none⟩)) ∧ Rd w' g s 0 0 ∧ w'.heap.size = g + 1 ∧ Below w.heap.size w w' := by
  subst hg
  exact (read_any s w).mono fun e w' h => ⟨h.1, by rw [h.2]; exact Blk.new w _ _, by rw [h.2]; simp, by rw [h.2]; exact below_al (Below.refl _ _)⟩
/-- A block's cells, and that none is frozen. -/
theorem four {w : World} {g : Nat} {t : TypeId} {c0 c1 c2 c3 : Value} (h : Blk w g t #[c0, c1, c2, c3]) :
    w.cell? ⟨g, 0, none⟩ = some c0 ∧ w.cell? ⟨g, 1, none⟩ = some c1 ∧ w.cell? ⟨g, 2, none⟩ = some c2 ∧ w.cell? ⟨g, 3, none⟩ = some c3 ∧
    w.frozen? ⟨g, 0, none⟩ = false ∧ w.frozen? ⟨g, 1, none⟩ = false ∧ w.frozen? ⟨g, 2, none⟩ = false ∧ w.frozen? ⟨g, 3, none⟩ = false :=
  ⟨h.cell 0, h.cell 1, h.cell 2, h.cell 3, h.free 0, h.free 1, h.free 2, h.free 3⟩
theorem Blk.new' {w : World} {g : Nat} (cs : Array Value) (t : TypeId) (h : w.heap.size = g) : Blk (w.alloc (.cells cs t (0, 0))) g t cs := by
  subst h; exact Blk.new w cs t
theorem Blk.set1 {w : World} {g : Nat} {t : TypeId} {a b c d : Value} (h : Blk w g t #[a, b, c, d]) (u : Value) : Blk (w.setCell ⟨g, 1, none⟩ u) g t #[a, u, c, d] := h.set 1 u
theorem Blk.set2 {w : World} {g : Nat} {t : TypeId} {a b c d : Value} (h : Blk w g t #[a, b, c, d]) (u : Value) : Blk (w.setCell ⟨g, 2, none⟩ u) g t #[a, b, u, d] := h.set 2 u
theorem Blk.set3 {w : World} {g : Nat} {t : TypeId} {a b c d : Value} (h : Blk w g t #[a, b, c, d]) (u : Value) : Blk (w.setCell ⟨g, 3, none⟩ u) g t #[a, b, c, u] := h.set 3 u
def zero : K := ⟨0, 0, [], 0⟩
/-- What a parser answers once it has its candidate. -/
def res (k : K) (s : Bs) : K × Int := if (made k).2 = 0 ∧ (made k).1 = s then (k, 0) else (zero, 81)
theorem res_no1 {k : K} {s t : Bs} {z : Int} (hm : made k = (t, z)) (h : (z != 0) = true) : res k s = (zero, 81) := by
  unfold res
  rw [hm, if_neg]
  intro e
  rw [show z = 0 from e.1] at h
  exact absurd h (by decide)
theorem res_no2 {k : K} {s t : Bs} {z : Int} (hm : made k = (t, z)) (h : (t == s) = false) : res k s = (zero, 81) := by
  unfold res
  rw [hm, if_neg]
  intro e
  rw [show t = s from e.2] at h
  exact absurd h (by simp)
theorem res_yes {k : K} {s t : Bs} {z : Int} (hm : made k = (t, z)) (h : (z != 0) = false) (h2 : (t == s) = true) : res k s = (k, 0) := by
  unfold res
  rw [hm, if_pos]
  exact ⟨by simpa using h, by simpa using h2⟩
theorem split3 (z : Int) (t s : Bs) : (z != 0) = true ∨ (z != 0) = false ∧ (t == s) = false ∨ (z != 0) = false ∧ (t == s) = true := by
  cases (z != 0) <;> cases (t == s) <;> simp
/-- A key's value. -/
def kval (k : K) : Value := .agg #[.int .u8 (k.kind.toNat : Int), .int .i64 k.ino, .string (S k.name), .int .i64 k.index]
def rval (r : K × Int) : Ending := .returned (.tuple #[kval r.1, .int .i64 r.2])

theorem left_to (g : Nat) (s : Bs) (a err l : Int) (w : World) (h : Rd w g s a err) (hs : s.length ≤ 140737488351232) (h0 : 0 ≤ a) (h1 : a ≤ s.length) (hl : (if err = 0 then (s.length : Int) - a else 0) = l) :
    Calls Try.prog 23 #[.pointer (some ⟨g, 0, none⟩)] w fun e w' => e = .returned (.int .i64 l) ∧ Rd w' g s a err ∧ But g w w' := by
  subst hl
  exact left_any' g s a err w h hs h0 h1
theorem fixed_fail' (g : Nat) (a err : Int) (s : Bs) (w : World) (h : Rd w g s a err) (he : (err != 0) = true) :
    Calls Try.prog 22 #[.pointer (some ⟨g, 0, none⟩)] w fun e w' => e = .returned (.int .u64 0) ∧ Rd w' g s a err ∧ But g w w' :=
  (fixed_fail g a err s w h he).mono fun _ _ k => ⟨k.1, k.2 ▸ h, k.2 ▸ But.refl _ _⟩
end Go.Proofs.Ytankjbppjabcoaa
