/- The document's example; awake. -/
import Derived.Test.YtlbdeabohjokeaaWkN
namespace Go.Proofs.Ytlbdeabohjokeaa
open Go.RowKit Mp Ln

def exL : List Sn := [⟨⟨#[]⟩, 1, 0, 11⟩, ⟨⟨#[]⟩, 2, 1, 12⟩, ⟨⟨#[]⟩, 3, 2, 13⟩, ⟨⟨#[]⟩, 4, 2, 14⟩]
theorem ex_common : comV (line exL 3) (line exL 4) = (12, true) := by decide +kernel
theorem ex_line : lids exL 4 = [4, 2, 1] := by decide +kernel
theorem example_any (w : World) : Calls Try.prog 23 #[] w fun e w' => ∃ oa cap, e = .returned (.slice oa exL.length cap) ∧ Sl w' oa exL ∧ Below w.heap.size w w' := by
  go_enter Try.func23, Try.ntmps23
  go_wp2
  go_ret
  have hown : (w.alloc (.cells (allCells exL).toArray 25)).ownsRow w.heap.size 25 4 (.slice (some ⟨w.heap.size, 0, none⟩) 4 4) 4 (allCells exL) :=
    ⟨rfl, .inr ⟨w.heap.size, 4, _, rfl, Nat.le_refl _, heap_alloc_new w _, Nat.le_refl _, by unfold maxLen; omega, rfl, rfl⟩⟩
  obtain ⟨oa, cap, h1, _, _, h4⟩ := Sl.owned hown
  exact ⟨oa, cap, by rw [← h1]; rfl, h4, below_al (Below.refl _ _)⟩
theorem built_il (w : World) : Il (w.alloc (.cells #[.int .i64 4, .int .i64 2, .int .i64 1] 3)) (some ⟨w.heap.size, 0, none⟩) [4, 2, 1] := by
  have hown : (w.alloc (.cells #[.int .i64 4, .int .i64 2, .int .i64 1] 3)).ownsRow w.heap.size 3 1 (.slice (some ⟨w.heap.size, 0, none⟩) 3 3) 3 (([4, 2, 1] : List Int).map (.int .i64)) :=
    ⟨rfl, .inr ⟨w.heap.size, 3, _, rfl, Nat.le_refl _, heap_alloc_new w _, Nat.le_refl _, by unfold maxLen; omega, rfl, rfl⟩⟩
  obtain ⟨oa, cap, h1, _, _, h4⟩ := own_il hown
  cases h1
  exact h4
theorem awake_any (w : World) : Calls Try.prog 7 #[] w fun e w' => e = .returned (.bool true) ∧ Below w.heap.size w w' := by
  have tok1 : True := trivial
  have tok2 : True := trivial
  have hcom := ex_common
  have HC := Lib.hid hcom
  have hlen : (lids exL 4).length = 3 := by rw [ex_line]; rfl
  have HLN := Lib.hid hlen
  clear hcom hlen
  go_enter Try.func7, Try.ntmps7
  go_wp2_with (first
    | (go_at_call 23; have _t := tok1; refine (example_any _).mono ?_; clear tok1; rintro e w1 ⟨o1, c1, rfl, h1, hb1⟩)
    | (go_at_call 23; have _t := tok2; refine (example_any _).mono ?_; clear tok2; rintro e w2 ⟨o2, c2, rfl, h2, hb2⟩)
    | (go_at_call 15; refine (common_any o1 o2 c1 c2 exL exL 3 4 _ (h1.on hb2) (by decide) h2 (by decide)).mono ?_; rintro e w3 ⟨rfl, hb3⟩; rw [HC.out])
    | (go_at_call 23; refine (example_any _).mono ?_; rintro e w4 ⟨o4, c4, rfl, h4, hb4⟩)
    | (go_at_call 16; refine (line_il o4 c4 exL 4 _ h4 (by decide)).mono ?_; rintro e w5 ⟨o5, c5, rfl, h5, hb5⟩)
    | (go_at_call 21; refine (same_any o5 _ c5 3 (lids exL 4) [4, 2, 1] _ (h5.on (below_al (Below.refl _ _))) (built_il _) (by rw [HLN.out]; decide) (by decide) true (by rw [ex_line]; rfl)).mono ?_; rintro e w6 ⟨rfl, hb6⟩))
  go_ret
  refine ⟨rfl, ?_⟩
  have z2 := hb1.trans (hb2.mono hb1.size)
  have z3 := z2.trans (hb3.mono z2.size)
  have z4 := z3.trans (hb4.mono z3.size)
  have z5 := z4.trans (hb5.mono z4.size)
  have z6 := below_al (o := .cells #[.int .i64 4, .int .i64 2, .int .i64 1] 3) z5
  exact z6.trans (hb6.mono z6.size)
end Go.Proofs.Ytlbdeabohjokeaa
