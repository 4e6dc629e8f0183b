/- A list of snapshots that comes in. -/
import Derived.Test.YtlbdeabohjokeaaFrame
import Derived.Test.YtlbdeabohjokeaaWkB
import Derived.Deep.Slices
import Derived.Deep.Fields
import Derived.ChangeSame
import Derived.ShutString
namespace Go.Proofs.Ytlbdeabohjokeaa
open Go.ChangeShapes Go.WideShapes Go.Deep Go.ChangeAt Go.RowKit Ln

theorem under25 : ∃ fs : Array Field, Try.prog.underlying 25 = some (.struct fs) ∧ fs.size = 4 ∧
    (∀ f, fs[0]? = some f → f.offset = 0 ∧ f.type = 9) ∧ (∀ j f, 1 ≤ j → j < 4 → fs[j]? = some f → f.offset = j ∧ f.type = 3) := by
  refine ⟨_, Try.underlying25, rfl, fun f hf => ?_, fun j f h1 h2 hf => ?_⟩
  · cases hf; exact ⟨rfl, rfl⟩
  · match j, h1, h2 with
    | 1, _, _ => cases hf; exact ⟨rfl, rfl⟩
    | 2, _, _ => cases hf; exact ⟨rfl, rfl⟩
    | 3, _, _ => cases hf; exact ⟨rfl, rfl⟩
theorem nth_map (f : Nat → Sn) (n i : Nat) (hi : i < n) : nth ((List.range n).map f) i = f i := by
  unfold nth
  rw [List.getD_eq_getElem?_getD, List.getElem?_map, List.getElem?_range hi]
  rfl
theorem snaps_cells {H : Type} {enc : TypeId × Value → H} {w : World} {base : Nat} {sp : Nat → Bool} {held : Bool} {n : Nat} {cs : List Value} {x : DataW H × List MemPlace}
    (h : DataW.trod enc Try.prog w base sp held n 22 cs = some x) :
    cs = [.slice none 0 0] ∨ ∃ (a : Addr) (len cap : Nat), cs = [.slice (some a) len cap] ∧ len ≤ cap ∧ cap ≤ maxLen ∧ ∀ i, i < len → ∃ s : Sn, At w a i s := by
  have hC : Try.prog.cellsOf 25 = 4 := by kernel_rfl
  obtain ⟨fs, hu, hsz, hf0, hf1⟩ := under25
  rcases open_slice Try.underlying22 h with ⟨h0, _⟩ | ⟨a, len, cap, m, n', D, Pl, rfl, _, hl, hm, hmm, _, hi⟩
  · exact .inl h0
  · refine .inr ⟨a, len, cap, rfl, hl, hm, fun i hil => ?_⟩
    have him : i < m := by
      rw [hmm]
      split <;> omega
    obtain ⟨cs', hc, ht⟩ := hi i him
    rw [hC] at hc
    obtain ⟨ys, n2, _, _, _, hyl, hf⟩ := DataW.trod_struct hu ht
    obtain ⟨_, hcl, hat⟩ := World.cells?_some hc
    have cellAt : ∀ (j : Nat) (hj : j < 4), w.cell? (a.add (i * 4 + j)) = some (cs'[j]'(by omega)) := fun j hj => by
      rw [← Go.Deep.add_add, hat j hj, List.getElem?_eq_getElem (by omega)]
    have take1 : ∀ (j : Nat) (hj : j < 4), (cs'.drop j).take 1 = [cs'[j]'(by omega)] := fun j hj => by
      rw [List.drop_eq_getElem_cons (by omega)]; rfl
    have ysAt : ∀ (j : Nat), j < 4 → ∃ y, ys[j]? = some y := fun j hj => by
      have h4 : ys.length = 4 := hyl.trans hsz
      exact ⟨_, List.getElem?_eq_getElem (by omega)⟩
    have ints : ∀ (j : Nat), 1 ≤ j → j < 4 → ∃ z : Int, w.cell? (a.add (i * 4 + j)) = some (.int .i64 z) := fun j h1 h4 => by
      obtain ⟨f, hfj⟩ : ∃ f, fs[j]? = some f := ⟨_, Array.getElem?_eq_getElem (by omega)⟩
      obtain ⟨ho, hty⟩ := hf1 j f h1 h4 hfj
      have h2 := hf j f hfj
      have hk : Try.prog.cellsOf f.type = 1 := by rw [hty]; kernel_rfl
      rw [ho, hk, hty, take1 j h4] at h2
      obtain ⟨y, hy⟩ := ysAt j h4
      rw [hy] at h2
      obtain ⟨z, hz, _, _⟩ := DataW.trod_int Try.underlying3 h2
      exact ⟨z, by rw [cellAt j h4]; simpa using hz⟩
    have str : ∃ s : ByteArray, w.cell? (a.add (i * 4 + 0)) = some (.string s) := by
      obtain ⟨f, hfj⟩ : ∃ f, fs[0]? = some f := ⟨_, Array.getElem?_eq_getElem (by omega)⟩
      obtain ⟨ho, hty⟩ := hf0 f hfj
      have h2 := hf 0 f hfj
      have hk : Try.prog.cellsOf f.type = 1 := by rw [hty]; kernel_rfl
      rw [ho, hk, hty, take1 0 (by omega)] at h2
      obtain ⟨y, hy⟩ := ysAt 0 (by omega)
      rw [hy] at h2
      obtain ⟨s, hs, _, _⟩ := DataW.trod_string Try.underlying9 h2
      exact ⟨s, by rw [cellAt 0 (by omega)]; simpa using hs⟩
    obtain ⟨s, hs⟩ := str
    obtain ⟨z1, h1⟩ := ints 1 (by omega) (by omega)
    obtain ⟨z2, h2⟩ := ints 2 (by omega) (by omega)
    obtain ⟨z3, h3⟩ := ints 3 (by omega) (by omega)
    exact ⟨⟨s, z1, z2, z3⟩, hs, cell_shift h1, cell_shift h2, cell_shift h3⟩
theorem snaps_of {H : Type} {enc : TypeId × Value → H} {w : World} {r : Reach} {b0 base : Nat} {sp : Nat → Bool} {held : Bool} {v : Value} {d : DataW H} {p : List MemPlace}
    (hv : Value.okWide Try.prog w r b0 22 v) (h : DataW.Trod enc Try.prog w base sp held 22 v d p) : ∃ L, Ls w v L := by
  obtain ⟨a, len, cap, rfl⟩ := okWide_slice Try.underlying22 hv
  obtain ⟨n, h⟩ := h
  rcases snaps_cells h with h0 | ⟨a', len', cap', h0, hl, hm, hc⟩
  · have h1 : [Value.slice a len cap] = [.slice none 0 0] := h0
    refine ⟨[], none, 0, by simpa using h1, fun _ => ⟨rfl, rfl⟩, Nat.le_refl _, Nat.zero_le _, fun i hi => absurd hi (Nat.not_lt_zero _)⟩
  · have h1 : [Value.slice a len cap] = [.slice (some a') len' cap'] := h0
    have hex : ∀ i, ∃ s : Sn, i < len' → At w a' i s := fun i => by
      by_cases hi : i < len'
      · obtain ⟨s, hs⟩ := hc i hi
        exact ⟨s, fun _ => hs⟩
      · exact ⟨dfl, fun h => absurd h hi⟩
    obtain ⟨f, hf⟩ := Classical.skolem.1 hex
    refine ⟨(List.range len').map f, some a', cap', ?_, ?_, ?_, hm, ?_⟩
    · simpa using h1
    · intro e; cases e
    · simpa using hl
    · intro i hi
      have hi' : i < len' := by simpa using hi
      have A := hf i hi'
      refine ⟨a', rfl, ?_, ?_⟩
      · rw [nth_map f len' i hi']; exact A
      · exact (cell_plain A.c0).2
end Go.Proofs.Ytlbdeabohjokeaa
