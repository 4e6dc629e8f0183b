/- Each method keeps the invariant, whatever it answers. -/
import Derived.Test.YtbbegbiiaabmgaaWkG
import Derived.Test.YtbbegbiiaabmgaaMp3
namespace Go.Proofs.Ytbbegbiiaabmgaa
open Go.RowKit Mp

/-- An allocator in order. -/
def Good (w : World) (g hm wm : Nat) (lo hi : Int) : Prop := ∃ H W, Al w g hm wm lo hi H W ∧ Inv lo hi H W
theorem take_inv (g hm wm : Nat) (lo hi gen : Int) (w : World) (h : Good w g hm wm lo hi) (hb : 0 ≤ lo ∧ lo ≤ hi ∧ hi ≤ 4096) :
    Calls Try.prog 10 #[.pointer (some ⟨g, 0, none⟩), .int .i64 gen] w fun e w' => ∃ x y, e = .returned (.tuple #[.int .i64 x, .int .i64 y]) ∧ Good w' g hm wm lo hi ∧ Fr hm wm w w' := by
  obtain ⟨H, W, hA, hI⟩ := h
  refine (take_any g hm wm lo hi gen H W w hA hb).mono fun e w' k => ?_
  rcases k with ⟨n, h0, h1, _, _, k1, k2, k3⟩ | ⟨_, k1, k2, k3⟩
  · exact ⟨n, 0, k1, ⟨_, _, k2, hI.put h0 h1 (by omega) (by omega)⟩, k3⟩
  · exact ⟨0, 50, k1, ⟨_, _, k2, hI⟩, k3⟩
theorem mark_inv (g hm wm : Nat) (lo hi n gen : Int) (w : World) (h : Good w g hm wm lo hi) :
    Calls Try.prog 19 #[.pointer (some ⟨g, 0, none⟩), .int .i64 n, .int .i64 gen] w fun e w' => ∃ x, e = .returned (.int .i64 x) ∧ Good w' g hm wm lo hi ∧ Fr hm wm w w' := by
  obtain ⟨H, W, hA, hI⟩ := h
  by_cases h0 : n < lo
  · exact (mark_out g hm wm lo hi n gen H W w hA (.inl h0)).mono fun e w' k => ⟨31, k.1, ⟨H, W, k.2 ▸ hA, hI⟩, k.2 ▸ Fr.refl _ _ _⟩
  · by_cases h1 : hi ≤ n
    · exact (mark_out g hm wm lo hi n gen H W w hA (.inr ⟨h0, h1⟩)).mono fun e w' k => ⟨31, k.1, ⟨H, W, k.2 ▸ hA, hI⟩, k.2 ▸ Fr.refl _ _ _⟩
    · cases hb : busyB n H W with
      | true => exact (mark_there g hm wm lo hi n gen H W w hA h0 h1 hb).mono fun e w' k => ⟨103, k.1, ⟨H, W, hA.on k.2, hI⟩, Fr.of k.2⟩
      | false => exact (mark_ok g hm wm lo hi n gen H W w hA h0 h1 hb).mono fun e w' k => ⟨0, k.1, ⟨_, _, k.2.1, hI.put (by omega) (by omega) (by omega) (by omega)⟩, k.2.2⟩
theorem hold_inv (g hm wm : Nat) (lo hi n : Int) (w : World) (h : Good w g hm wm lo hi) :
    Calls Try.prog 14 #[.pointer (some ⟨g, 0, none⟩), .int .i64 n] w fun e w' => ∃ x, e = .returned (.int .i64 x) ∧ Good w' g hm wm lo hi ∧ Fr hm wm w w' := by
  obtain ⟨H, W, hA, hI⟩ := h
  cases hg : get n H with
  | none => exact (hold_free g hm wm lo hi n H W w hA hg).mono fun e w' k => ⟨51, k.1, ⟨_, _, k.2.1, hI⟩, k.2.2⟩
  | some p =>
    obtain ⟨a, b⟩ := p
    have hi' := hI.hin _ (get_mem hg)
    by_cases ha : 5000 ≤ a
    · exact (hold_many g hm wm lo hi n a b H W w hA hg ha).mono fun e w' k => ⟨52, k.1, ⟨_, _, k.2.1, hI⟩, k.2.2⟩
    · exact (hold_ok g hm wm lo hi n a b H W w hA hg (by have := hi'.2.2.1; simp at this; omega) ha).mono fun e w' k => ⟨0, k.1, ⟨_, _, k.2.1, hI.put hi'.1 hi'.2.1 (by have := hi'.2.2.1; simp at this; omega) (by omega)⟩, k.2.2⟩
theorem drop_inv (g hm wm : Nat) (lo hi n gen : Int) (w : World) (h : Good w g hm wm lo hi) (hgen : gen ≤ 9223372036854775807) :
    Calls Try.prog 12 #[.pointer (some ⟨g, 0, none⟩), .int .i64 n, .int .i64 gen] w fun e w' => ∃ x, e = .returned (.int .i64 x) ∧ Good w' g hm wm lo hi ∧ Fr hm wm w w' := by
  obtain ⟨H, W, hA, hI⟩ := h
  cases hg : get n H with
  | none => exact (drop_free g hm wm lo hi n gen H W w hA hg).mono fun e w' k => ⟨51, k.1, ⟨_, _, k.2.1, hI⟩, k.2.2⟩
  | some p =>
    obtain ⟨a, b⟩ := p
    obtain ⟨i0, i1, i2, i3⟩ := hI.hin _ (get_mem hg)
    replace i2 : 1 ≤ a := i2
    replace i3 : a ≤ 5000 := i3
    by_cases ha : 2 ≤ a
    · exact (drop_more g hm wm lo hi n gen a b H W w hA hg ha i3).mono fun e w' k => ⟨0, k.1, ⟨_, _, k.2.1, hI.put i0 i1 (by omega) (by omega)⟩, k.2.2⟩
    · refine (drop_last g hm wm lo hi n gen a b H W w hA hg (by omega) (by omega)).mono fun e w' k => ⟨0, k.1, ⟨_, _, k.2.1, ?_⟩, k.2.2⟩
      by_cases e : b = gen
      · rw [if_pos e]; exact hI.del n
      · rw [if_neg e]; exact (hI.del n).wait gen i0 i1 hgen
end Go.Proofs.Ytbbegbiiaabmgaa
