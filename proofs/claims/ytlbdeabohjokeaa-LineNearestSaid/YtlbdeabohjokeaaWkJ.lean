/- slices.Reverse at a row of one's own. -/
import Derived.Test.YtlbdeabohjokeaaWkH
import Derived.ChangeAlike
import Derived.BigRegion
namespace Go.Proofs.Ytlbdeabohjokeaa
open Go.RowKit Mp Ln

/-- Block g is a row of so many numbers, with more behind. -/
def Rowf (w : World) (g n cap : Nat) (f : Nat → Int) : Prop := ∃ cur : Array Value, Blk w g 3 cur ∧ cur.size = cap ∧ ∀ k, k < n → cur[k]? = some (.int .i64 (f k))
theorem Rowf.cell {w : World} {g n cap : Nat} {f : Nat → Int} (h : Rowf w g n cap f) {k : Nat} (hk : k < n) : w.cell? ⟨g, k, none⟩ = some (.int .i64 (f k)) := by
  obtain ⟨cur, h1, _, h3⟩ := h
  exact (h1.cell k).trans (h3 k hk)
theorem Rowf.free {w : World} {g n cap : Nat} {f : Nat → Int} (h : Rowf w g n cap f) (k : Nat) : w.frozen? ⟨g, k, none⟩ = false := by
  obtain ⟨cur, h1, _⟩ := h
  exact h1.free k
theorem Rowf.set {w : World} {g n cap : Nat} {f : Nat → Int} (h : Rowf w g n cap f) (k : Nat) (v : Int) (hn : n ≤ cap) : Rowf (w.setCell ⟨g, k, none⟩ (.int .i64 v)) g n cap (fun j => if j = k then v else f j) := by
  obtain ⟨cur, h1, h2, h3⟩ := h
  refine ⟨_, h1.set k _, by simp [h2], fun j hj => ?_⟩
  rw [Array.getElem?_setIfInBounds]
  by_cases e : k = j
  · subst e
    have : k < cur.size := by omega
    simp [this]
  · have e' : ¬ j = k := fun x => e x.symm
    simp only [if_neg e, if_neg e']; exact h3 j hj
theorem Rowf.same {w : World} {g n cap : Nat} {f f' : Nat → Int} (h : Rowf w g n cap f) (he : ∀ k, k < n → f k = f' k) : Rowf w g n cap f' := by
  obtain ⟨cur, h1, h2, h3⟩ := h
  exact ⟨cur, h1, h2, fun k hk => by rw [← he k hk]; exact h3 k hk⟩
theorem Rowf.drew {w : World} {g n cap : Nat} {f : Nat → Int} (h : Rowf w g n cap f) : Rowf w.drew g n cap f := h
/-- The row, so far turned from both ends. -/
def turned (n i : Nat) (f : Nat → Int) (k : Nat) : Int := if k < i ∨ n ≤ k + i then f (n - 1 - k) else f k
theorem turned_zero (n : Nat) (f : Nat → Int) (k : Nat) (hk : k < n) : f k = turned n 0 f k := by unfold turned; rw [if_neg (by omega)]
theorem turned_step (n i j : Nat) (f : Nat → Int) (hj : i + j + 1 = n) (hij : i < j) (k : Nat) (_hk : k < n) :
    (if k = j then turned n i f i else if k = i then turned n i f j else turned n i f k) = turned n (i + 1) f k := by
  unfold turned
  by_cases e : k = j
  · subst e
    rw [if_pos rfl, if_neg (by omega), if_pos (by omega)]
    congr 1; omega
  · rw [if_neg e]
    by_cases e2 : k = i
    · subst e2
      rw [if_pos rfl, if_neg (by omega), if_pos (by omega)]
      congr 1; omega
    · rw [if_neg e2]
      by_cases c : k < i ∨ n ≤ k + i
      · rw [if_pos c, if_pos (by omega)]
      · rw [if_neg c, if_neg (by omega)]
theorem turned_all (n i : Nat) (f : Nat → Int) (hi : n ≤ i + i + 1) (k : Nat) (_hk : k < n) : turned n i f k = f (n - 1 - k) := by
  unfold turned
  by_cases c : k < i ∨ n ≤ k + i
  · rw [if_pos c]
  · rw [if_neg c]
    congr 1; omega
/-- Nothing but block b has turned. -/
structure Only (b : Nat) (w w' : World) : Prop where
  os : w'.os = w.os
  tape : w'.tape = w.tape
  output : w'.output = w.output
  size : w'.heap.size = w.heap.size
  block : ∀ k, k ≠ b → w'.heap[k]? = w.heap[k]?
theorem Only.refl (b : Nat) (w : World) : Only b w w := ⟨rfl, rfl, rfl, rfl, fun _ _ => rfl⟩
theorem Only.drew {b : Nat} {w w1 : World} (h : Only b w w1) : Only b w w1.drew := ⟨h.os, h.tape, h.output, h.size, h.block⟩
theorem Only.set {b : Nat} {w w1 : World} (h : Only b w w1) (j : Nat) (v : Value) : Only b w (w1.setCell ⟨b, j, none⟩ v) :=
  ⟨h.os, h.tape, h.output, by simp [h.size], fun i hi => (heap_setCell_other _ _ _ _ hi).trans (h.block i hi)⟩
set_option maxHeartbeats 1000000 in
theorem rev_row (g n cap : Nat) (f : Nat → Int) (w : World) (h : Rowf w g n cap f) (hn : n ≤ 60) (hc : n ≤ cap) :
    Calls Try.prog 28 #[.slice (some ⟨g, 0, none⟩) n cap] w fun e w' => e = .returned (.tuple #[]) ∧ Rowf w' g n cap (fun k => f (n - 1 - k)) ∧ Only g w w' := by
  go_enter Try.func28, Try.ntmps28
  go_wp2
  go_loopg [2, 3] n (fun q v2 v3 wr => ∃ (i : Nat) (jz : Int), v2 = .int .i64 i ∧ v3 = .int .i64 jz ∧ q = n - i ∧ i ≤ n ∧ jz = n - 1 - i ∧ Rowf wr g n cap (turned n i f) ∧ Only g w wr)
  case atStart => exact ⟨0, (n : Int) - 1, rfl, rfl, rfl, by omega, by omega, h.same (turned_zero n f), Only.refl _ _⟩
  case round =>
    obtain ⟨i, jz, rfl, rfl, rfl, hi, hjz, hR, hO⟩ := hrel
    by_cases hlt : (i : Int) < jz
    · obtain ⟨j, rfl⟩ : ∃ j : Nat, jz = j := ⟨jz.toNat, by omega⟩
      have hij : i + j + 1 = n := by omega
      have HJ := Lib.hid hij
      have e1 := hR.cell (k := i) (by omega)
      have e2 := hR.cell (k := j) (by omega)
      have f1 := hR.free i
      have f2 := hR.free j
      have n1 : ¬ i = j := by omega
      have n2 : ¬ j = i := by omega
      have b1 : i < n := by omega
      have b2 : j < n := by omega
      clear hjz hij
      go_wp2
      go_region
      all_goals
        go_wp2
        go_roundg (n - (i + 1))
        case measure => omega
        case rel =>
          have hij := HJ.out
          have h1 := (hR.set i (turned n i f j) hc).set j (turned n i f i) hc
          refine ⟨i + 1, (j : Int) - 1, by go_num, rfl, rfl, by omega, by omega, ?_, ?_⟩
          · first
              | exact (h1.same (turned_step n i j f hij (by omega))).drew
              | exact h1.same (turned_step n i j f hij (by omega))
          · first
              | exact ((hO.set i _).set j _).drew
              | exact (hO.set i _).set j _
    · go_wp2
      go_end0
      exact ⟨rfl, hR.same (turned_all n i f (by omega)), hO⟩
theorem getD_some {xs : List Int} {k : Nat} (h : k < xs.length) : xs[k]? = some (xs.getD k 0) := by
  rw [List.getD_eq_getElem?_getD, List.getElem?_eq_getElem h]; rfl
theorem own_row {W : World} {base g n cap : Nat} {xs : List Int} (h : W.ownsRow base 3 1 (.slice (some ⟨g, 0, none⟩) n cap) n (xs.map (.int .i64))) : Rowf W g n cap (fun k => xs.getD k 0) ∧ n = xs.length ∧ n ≤ cap ∧ cap ≤ maxLen ∧ base ≤ g := by
  obtain ⟨h1, h2⟩ := h
  have hl : xs.length = n := by simpa using h1
  rcases h2 with ⟨h3, _⟩ | ⟨g', cap', cur, h3, hb, hh, h4, h5, h6, h7⟩
  · cases h3
  · cases h3
    refine ⟨⟨cur, hh, by simpa using h6, fun k hk => ?_⟩, hl.symm, h4, h5, hb⟩
    have : (cur.toList.take (n * 1))[k]? = (xs.map (Value.int .i64))[k]? := by rw [h7]
    rw [List.getElem?_take, if_pos (by omega), List.getElem?_map, getD_some (by omega)] at this
    simpa using this
theorem row_own {W : World} {base g n cap : Nat} {f : Nat → Int} {xs : List Int} (h : Rowf W g n cap f) (h1 : n ≤ cap) (h2 : cap ≤ maxLen) (h3 : base ≤ g) (hx : xs.length = n) (hf : ∀ k, k < n → f k = xs.getD k 0) : W.ownsRow base 3 1 (.slice (some ⟨g, 0, none⟩) n cap) n (xs.map (.int .i64)) := by
  obtain ⟨cur, hb, hs, hc⟩ := h
  refine ⟨by simp [hx], .inr ⟨g, cap, cur, rfl, h3, hb, h1, h2, by omega, ?_⟩⟩
  apply List.ext_getElem?
  intro k
  by_cases hk : k < n
  · rw [List.getElem?_take, if_pos (by omega), List.getElem?_map, getD_some (by omega)]
    have := hc k hk
    rw [hf k hk] at this
    simpa using this
  · rw [List.getElem?_eq_none (by rw [List.length_take]; omega), List.getElem?_eq_none (by simp; omega)]
theorem rev_nil (w : World) : Calls Try.prog 28 #[.slice none 0 0] w fun e w' => e = .returned (.tuple #[]) ∧ w = w' := by
  go_enter Try.func28, Try.ntmps28
  go_wp2
  go_loopg [2, 3] 0 (fun q v2 v3 wr => v2 = .int .i64 0 ∧ v3 = .int .i64 (-1) ∧ w = wr)
  case atStart => exact ⟨rfl, rfl, rfl⟩
  case round =>
    obtain ⟨rfl, rfl, rfl⟩ := hrel
    go_wp2
    go_end0
    exact ⟨rfl, rfl⟩
theorem rev_own (base n : Nat) (v : Value) (xs : List Int) (w : World) (h : w.ownsRow base 3 1 v n (xs.map (.int .i64))) (hn : n ≤ 60) :
    Calls Try.prog 28 #[v] w fun e w' => e = .returned (.tuple #[]) ∧ w'.ownsRow base 3 1 v n (xs.reverse.map (.int .i64)) ∧ w.grownBy w' v.ownBlock := by
  rcases h.2 with ⟨rfl, rfl⟩ | ⟨g, cap, cur, rfl, _⟩
  · have : xs = [] := by have := h.1; simpa using this
    subst this
    exact (rev_nil w).mono fun e w' ⟨h1, h2⟩ => ⟨h1, h2 ▸ h, h2 ▸ ⟨rfl, rfl, rfl, Nat.le_refl _, fun _ _ _ => rfl⟩⟩
  · obtain ⟨h1, h2, h3, h4, h5⟩ := own_row h
    refine (rev_row g n cap _ w h1 hn h3).mono fun e w' ⟨k1, k2, k3⟩ => ⟨k1, row_own k2 h3 h4 h5 (by simp [h2]) fun k hk => ?_, k3.os, k3.tape, k3.output, Nat.le_of_eq k3.size.symm, fun k _ hne => k3.block k (fun e => hne (by rw [e]; rfl))⟩
    show xs.getD (n - 1 - k) 0 = xs.reverse.getD k 0
    rw [List.getD_eq_getElem?_getD, List.getD_eq_getElem?_getD, List.getElem?_reverse (by omega), h2]
end Go.Proofs.Ytlbdeabohjokeaa
