import Derived.Test.YtankjbppjabcoaaWkH
namespace Go.Proofs.Ytankjbppjabcoaa
open Go.RowKit Ky

theorem S_extract (l : Bs) (a b : Nat) : (S l).extract a b = S ((l.drop a).take (b - a)) := by
  apply ByteArray.ext
  rw [ByteArray.data_extract]
  simp [S]
theorem take_ok (g n a : Nat) (s : Bs) (w : World) (h : Rd w g s a 0) (hs : s.length ≤ 140737488351232) (hn : a + n ≤ s.length) :
    Calls Try.prog 26 #[.pointer (some ⟨g, 0, none⟩), .int .i64 (n : Int)] w fun e w' => e = .returned (.string (S ((s.drop a).take n))) ∧ Rd w' g s ((a + n : Nat) : Int) 0 ∧ But g w w' := by
  have g0 := h.cell 0
  have g1 := h.cell 1
  have g2 := h.cell 2
  have f1 := h.free 1
  have hsz := S_size
  have hb : ((0 : Int) != 0) = false := rfl
  have hw : IntKind.i64.wrap ((s.length : Int) - a) = (s.length : Int) - a := by
    simp only [IntKind.wrap, IntKind.bits, IntKind.signed]; simp; omega
  have hw2 : IntKind.i64.wrap ((a : Int) + n) = (a : Int) + n := by
    simp only [IntKind.wrap, IntKind.bits, IntKind.signed]; simp; omega
  have hw3 : IntKind.i64.wrap ((a : Int) + n - n) = (a : Int) := by
    simp only [IntKind.wrap, IntKind.bits, IntKind.signed]; simp; omega
  go_enter Try.func26, Try.ntmps26
  go_wp2_with (go_at_call 27; refine (fails_to _ g s a 0 _ h hb).mono ?_; rintro e w1 ⟨rfl, rfl⟩)
  go_region
  all_goals
    go_wp2
    go_region
  all_goals
    go_wp2
    go_ret
    refine ⟨by simp [S_extract], by rw [Int.natCast_add]; exact h.set 1 _, ?_⟩
    repeat (first | exact But.refl _ _ | apply But.drew | apply But.set)
end Go.Proofs.Ytankjbppjabcoaa
