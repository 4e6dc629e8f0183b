/- The script's cells in the walk's own spelling, in any later world. -/
import Derived.Test.YtbbegbiiaabmgaaScript
import Derived.Test.YtbbegbiiaabmgaaWkI
import Derived.Test.YtbbegbiiaabmgaaWkD
namespace Go.Proofs.Ytbbegbiiaabmgaa
open Go.RowKit Mp

theorem add_block' (a : Addr) (n : Nat) : (a.add n).block = a.block := by unfold Addr.add; split <;> rfl
theorem add_off' (a : Addr) (n : Nat) : (a.add n).off = a.off + n := by
  unfold Addr.add
  split
  · rename_i h; rw [h]; rfl
  · rfl
theorem cell_plain {w : World} {p : Addr} {v : Value} (h : w.cell? p = some v) : w.cell? ⟨p.block, p.off, none⟩ = some v ∧ p.block < w.heap.size := by
  unfold World.cell? at h ⊢
  cases hb : w.heap[p.block]? with
  | none => rw [hb] at h; cases h
  | some o =>
    have hlt : p.block < w.heap.size := (Array.getElem?_eq_some_iff.1 hb).1
    rw [hb] at h
    cases o with
    | cells c t m =>
      simp only at h ⊢
      refine ⟨?_, hlt⟩
      split at h
      · cases h
      · simpa using h
    | _ => cases h
/-- What the walk reads of call i of a script at a. -/
structure At (w : World) (a : Addr) (i : Nat) (k s g : Int) : Prop where
  c0 : w.cell? (a.add (i * 3)) = some (.int .i64 k)
  c1 : w.cell? ⟨(a.add (i * 3)).block, (a.add (i * 3)).off + 1, none⟩ = some (.int .i64 s)
  c2 : w.cell? ⟨(a.add (i * 3)).block, (a.add (i * 3)).off + 2, none⟩ = some (.int .i64 g)
  wk : -9223372036854775808 ≤ k ∧ k ≤ 9223372036854775807
  ws : -9223372036854775808 ≤ s ∧ s ≤ 9223372036854775807
  wg : -9223372036854775808 ≤ g ∧ g ≤ 9223372036854775807
def Sc (w : World) (oa : Option Addr) (len : Nat) : Prop := ∀ i, i < len → ∃ a, oa = some a ∧ ∃ k s g : Int, At w a i k s g ∧ (a.add (i * 3)).block < w.heap.size
theorem cell_shift {w : World} {a : Addr} {n j : Nat} {v : Value} (h : w.cell? (a.add (n + j)) = some v) : w.cell? ⟨(a.add n).block, (a.add n).off + j, none⟩ = some v := by
  have := (cell_plain h).1
  rw [add_block', add_off'] at this ⊢
  rw [Nat.add_assoc]
  exact this
theorem Sc.of {w : World} {v : Value} {len : Nat} (h : Script w v len) : ∃ oa cap, v = .slice oa len cap ∧ len ≤ cap ∧ cap ≤ maxLen ∧ Sc w oa len := by
  rcases h with ⟨rfl, rfl⟩ | ⟨a, cap, rfl, h1, h2, h⟩
  · exact ⟨none, 0, rfl, Nat.le_refl _, Nat.zero_le _, fun i hi => absurd hi (Nat.not_lt_zero _)⟩
  · refine ⟨some a, cap, rfl, h1, h2, fun i hi => ⟨a, rfl, ?_⟩⟩
    obtain ⟨k, s, g, h0, h1, h2, w0, w1, w2⟩ := h i hi
    exact ⟨k, s, g, ⟨h0, cell_shift h1, cell_shift h2, bounds_i64 w0, bounds_i64 w1, bounds_i64 w2⟩, (cell_plain h0).2⟩
theorem Sc.at {w w' : World} {oa : Option Addr} {len : Nat} (h : Sc w oa len) (hb : Below w.heap.size w w') {i : Nat} (hi : i < len) : ∃ a, oa = some a ∧ ∃ k s g : Int, At w' a i k s g := by
  obtain ⟨a, ha, k, s, g, A, hl⟩ := h i hi
  refine ⟨a, ha, k, s, g, ?_, ?_, ?_, A.wk, A.ws, A.wg⟩
  · rw [hb.cell hl]; exact A.c0
  · rw [hb.cell (p := ⟨_, _, none⟩) hl]; exact A.c1
  · rw [hb.cell (p := ⟨_, _, none⟩) hl]; exact A.c2
end Go.Proofs.Ytbbegbiiaabmgaa
