/- Lists of snapshots in memory. -/
import Derived.Test.YtlbdeabohjokeaaProg
import Derived.Test.YtlbdeabohjokeaaSn
import Derived.Test.YtlbdeabohjokeaaMp2
import Derived.WalkKit
import Derived.WalkSpells
import Derived.WalkLawsBesides
import Derived.Lib.Hide
import Derived.Deep.LoopGhost
import Derived.RegionTactic
import Derived.Laws.AppendOwn
import Derived.Laws.ResultCell
namespace Go.Proofs.Ytlbdeabohjokeaa
open Go.RowKit Mp Ln

/-- A snapshot as a value, and its cells. -/
def sv (s : Sn) : Value := .agg #[.string s.nm, .int .i64 s.id, .int .i64 s.p, .int .i64 s.src]
def cellsOf (s : Sn) : List Value := [.string s.nm, .int .i64 s.id, .int .i64 s.p, .int .i64 s.src]
def Blk (w : World) (g : Nat) (t : TypeId) (cs : Array Value) : Prop := w.heap[g]? = some (.cells cs t (0, 0))
theorem Blk.cell {w : World} {g : Nat} {t : TypeId} {cs : Array Value} (h : Blk w g t cs) (j : Nat) : w.cell? ⟨g, j, none⟩ = cs[j]? := cell_of_row w g j cs t (0, 0) h
theorem Blk.free {w : World} {g : Nat} {t : TypeId} {cs : Array Value} (h : Blk w g t cs) (j : Nat) : w.frozen? ⟨g, j, none⟩ = false := frozen_of_row w g j cs t h
theorem Blk.new' {w : World} {g : Nat} (cs : Array Value) (t : TypeId) (h : w.heap.size = g) : Blk (w.alloc (.cells cs t (0, 0))) g t cs := by
  subst h; exact heap_alloc_new w _
theorem Blk.on {w w' : World} {b : Nat} {t : TypeId} {cs : Array Value} (h : Blk w b t cs) (k : Below w.heap.size w w') : Blk w' b t cs :=
  (k.block b (Array.getElem?_eq_some_iff.1 h).1).trans h
theorem below_al {w W : World} {o : Obj} (h : Below w.heap.size w W) : Below w.heap.size w (W.alloc o) := h.alloc h.size o
theorem add_block' (a : Addr) (n : Nat) : (a.add n).block = a.block := by unfold Addr.add; split <;> rfl
theorem add_off' (a : Addr) (n : Nat) : (a.add n).off = a.off + n := by
  unfold Addr.add
  split
  · rename_i h; rw [h]; rfl
  · rfl
theorem cell_plain {w : World} {p : Addr} {v : Value} (h : w.cell? p = some v) : w.cell? ⟨p.block, p.off, none⟩ = some v ∧ p.block < w.heap.size := by
  unfold World.cell? at h ⊢
  cases hb : w.heap[p.block]? with
  | none => rw [hb] at h; cases h
  | some o =>
    have hlt : p.block < w.heap.size := (Array.getElem?_eq_some_iff.1 hb).1
    rw [hb] at h
    cases o with
    | cells c t m =>
      simp only at h ⊢
      refine ⟨?_, hlt⟩
      split at h
      · cases h
      · simpa using h
    | _ => cases h
/-- What the walk reads of snapshot i of a list at a. -/
structure At (w : World) (a : Addr) (i : Nat) (s : Sn) : Prop where
  c0 : w.cell? (a.add (i * 4)) = some (.string s.nm)
  c1 : w.cell? ⟨(a.add (i * 4)).block, (a.add (i * 4)).off + 1, none⟩ = some (.int .i64 s.id)
  c2 : w.cell? ⟨(a.add (i * 4)).block, (a.add (i * 4)).off + 2, none⟩ = some (.int .i64 s.p)
  c3 : w.cell? ⟨(a.add (i * 4)).block, (a.add (i * 4)).off + 3, none⟩ = some (.int .i64 s.src)
theorem cell_shift {w : World} {a : Addr} {n j : Nat} {v : Value} (h : w.cell? (a.add (n + j)) = some v) : w.cell? ⟨(a.add n).block, (a.add n).off + j, none⟩ = some v := by
  have := (cell_plain h).1
  rw [add_block', add_off'] at this ⊢
  rw [Nat.add_assoc]
  exact this
/-- The list L, as it lies at oa. -/
def Sl (w : World) (oa : Option Addr) (L : List Sn) : Prop := ∀ i, i < L.length → ∃ a, oa = some a ∧ At w a i (nth L i) ∧ (a.add (i * 4)).block < w.heap.size
theorem Sl.on {w w' : World} {oa : Option Addr} {L : List Sn} (h : Sl w oa L) (hb : Below w.heap.size w w') : Sl w' oa L := fun i hi => by
  obtain ⟨a, ha, A, hl⟩ := h i hi
  refine ⟨a, ha, ⟨?_, ?_, ?_, ?_⟩, Nat.lt_of_lt_of_le hl hb.size⟩
  · rw [hb.cell hl]; exact A.c0
  · rw [hb.cell (p := ⟨_, _, none⟩) hl]; exact A.c1
  · rw [hb.cell (p := ⟨_, _, none⟩) hl]; exact A.c2
  · rw [hb.cell (p := ⟨_, _, none⟩) hl]; exact A.c3
/-- All cells of a list. -/
def allCells (L : List Sn) : List Value := L.flatMap cellsOf
theorem allCells_len (L : List Sn) : (allCells L).length = L.length * 4 := by
  induction L with
  | nil => rfl
  | cons s L ih =>
    have : allCells (s :: L) = cellsOf s ++ allCells L := rfl
    rw [this, List.length_append, ih, List.length_cons]
    show 4 + _ = _
    omega
theorem allCells_at : ∀ (L : List Sn) (i j : Nat), i < L.length → j < 4 → (allCells L)[i * 4 + j]? = (cellsOf (nth L i))[j]?
  | [], i, _, h, _ => absurd h (Nat.not_lt_zero i)
  | s :: L, 0, j, _, hj => by
    have : allCells (s :: L) = cellsOf s ++ allCells L := rfl
    rw [this, List.getElem?_append_left (by show _ < 4; omega)]
    have e : 0 * 4 + j = j := by omega
    rw [e]; rfl
  | s :: L, i + 1, j, h, hj => by
    have : allCells (s :: L) = cellsOf s ++ allCells L := rfl
    have e4 : (cellsOf s).length = 4 := rfl
    rw [this, List.getElem?_append_right (by rw [e4]; omega), e4]
    have e : (i + 1) * 4 + j - 4 = i * 4 + j := by omega
    rw [e, allCells_at L i j (by rw [List.length_cons] at h; omega) hj]
    rfl
theorem one_cells (L : List Sn) : ∀ u ∈ allCells L, u.oneCell' = true := by
  intro u hu
  unfold allCells at hu
  obtain ⟨s, _, hs⟩ := List.mem_flatMap.1 hu
  unfold cellsOf at hs
  simp at hs
  rcases hs with rfl | rfl | rfl | rfl <;> rfl
theorem Sl.cells {w : World} {a : Addr} {L : List Sn} (h : Sl w (some a) L) : ∀ j u, (allCells L)[j]? = some u → w.cell? (a.add j) = some u := by
  intro j u hu
  have hj := (List.getElem?_eq_some_iff.1 hu).1
  rw [allCells_len] at hj
  obtain ⟨i, k, rfl, hk⟩ : ∃ i k, j = i * 4 + k ∧ k < 4 := ⟨j / 4, j % 4, by omega, by omega⟩
  have hi : i < L.length := by omega
  obtain ⟨a', ha, A, hl⟩ := h i hi
  cases ha
  rw [allCells_at L i k hi hk] at hu
  have sp : ∀ v, w.cell? ⟨(a.add (i * 4)).block, (a.add (i * 4)).off + k, none⟩ = some v → w.cell? (a.add (i * 4 + k)) = some v := fun v hv => by
    have e : a.spot = none ∨ i * 4 + k ≠ 0 := by
      by_cases z : i * 4 = 0
      · have c := A.c0
        have e1 : a.add (i * 4) = a := by unfold Addr.add; rw [if_pos z]
        rw [e1] at c
        cases hs : a.spot with
        | none => exact .inl rfl
        | some x =>
          unfold World.cell? at c
          rw [hs] at c
          cases hb : w.heap[a.block]? with
          | none => rw [hb] at c; cases c
          | some o => rw [hb] at c; cases o <;> simp at c
      · exact .inr (by omega)
    rw [add_block', add_off'] at hv
    have e2 : a.add (i * 4 + k) = ⟨a.block, a.off + i * 4 + k, none⟩ := by
      unfold Addr.add
      split
      · rename_i z
        have e1 : a.spot = none := by rcases e with e | e; exact e; exact absurd z e
        obtain ⟨b, o, s⟩ := a
        simp at e1
        simp [e1]
        try omega
      · simp; try omega
    rw [e2]; exact hv
  match k, hk with
  | 0, _ => cases hu; exact A.c0
  | 1, _ => cases hu; exact sp _ A.c1
  | 2, _ => cases hu; exact sp _ A.c2
  | 3, _ => cases hu; exact sp _ A.c3
/-- What the call owns reads as a list. -/
theorem Sl.owned {w : World} {base n : Nat} {v : Value} {L : List Sn} (h : w.ownsRow base 25 4 v n (allCells L)) : ∃ oa cap, v = .slice oa L.length cap ∧ L.length ≤ cap ∧ cap ≤ maxLen ∧ Sl w oa L := by
  obtain ⟨h1, h2⟩ := h
  rw [allCells_len] at h1
  obtain rfl : n = L.length := by omega
  rcases h2 with ⟨rfl, h3⟩ | ⟨g, cap, cur, rfl, _, hb, h4, h5, h6, h7⟩
  · refine ⟨none, 0, by rw [h3], by omega, Nat.zero_le _, fun i hi => by omega⟩
  · refine ⟨_, cap, rfl, h4, h5, fun i hi => ⟨_, rfl, ?_, ?_⟩⟩
    · have key : ∀ j, j < 4 → w.cell? ⟨g, i * 4 + j, none⟩ = (cellsOf (nth L i))[j]? := fun j hj => by
        rw [cell_of_row w g _ cur 25 (0, 0) hb, ← allCells_at L i j hi hj, ← h7, List.getElem?_take, if_pos (by omega)]
        simp
      have e : (⟨g, 0, none⟩ : Addr).add (i * 4) = ⟨g, i * 4, none⟩ := by unfold Addr.add; split <;> simp_all
      refine ⟨?_, ?_, ?_, ?_⟩
      · rw [e]; exact key 0 (by omega)
      · rw [e]; exact key 1 (by omega)
      · rw [e]; exact key 2 (by omega)
      · rw [e]; exact key 3 (by omega)
    · rw [add_block']; exact (Array.getElem?_eq_some_iff.1 hb).1
end Go.Proofs.Ytlbdeabohjokeaa
