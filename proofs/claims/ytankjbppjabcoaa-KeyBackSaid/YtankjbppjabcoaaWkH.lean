import Derived.Test.YtankjbppjabcoaaWkF
namespace Go.Proofs.Ytankjbppjabcoaa
open Go.RowKit Ky

/-- A reader in its block. -/
abbrev Rd (w : World) (g : Nat) (s : Bs) (a err : Int) : Prop := Blk w g 56 #[.string (S s), .int .i64 a, .int .i64 err]
/-- What a reader's call leaves alone. -/
def But (g : Nat) (w w' : World) : Prop := Below g w w' ∧ w'.heap.size = w.heap.size ∧ ∀ b, b ≠ g → w'.heap[b]? = w.heap[b]?
theorem But.refl (g : Nat) (w : World) : But g w w := ⟨Below.refl _ _, rfl, fun _ _ => rfl⟩
theorem But.trans {g : Nat} {w w1 w2 : World} (h : But g w w1) (k : But g w1 w2) : But g w w2 :=
  ⟨h.1.trans k.1, k.2.1.trans h.2.1, fun b hb => (k.2.2 b hb).trans (h.2.2 b hb)⟩
theorem But.set {g : Nat} {w w1 : World} (h : But g w w1) (j : Nat) (u : Value) : But g w (w1.setCell ⟨g, j, none⟩ u) :=
  ⟨h.1.setCell (Nat.le_refl _) u, by rw [← h.2.1]; simp, fun b hb => (heap_setCell_other w1 ⟨g, j, none⟩ b u hb).trans (h.2.2 b hb)⟩
theorem But.drew {g : Nat} {w w1 : World} (h : But g w w1) : But g w w1.drew := ⟨h.1.drew, h.2.1, h.2.2⟩
theorem But.on {g b : Nat} {w w' : World} {t : TypeId} {cs : Array Value} (h : Blk w b t cs) (k : But g w w') (hne : b ≠ g) : Blk w' b t cs := (k.2.2 b hne).trans h

theorem fails_any (g : Nat) (s : Bs) (a err : Int) (w : World) (h : Rd w g s a err) :
    Calls Try.prog 27 #[.pointer (some ⟨g, 0, none⟩)] w fun e w' => e = .returned (.bool (err != 0)) ∧ w = w' := by
  have g2 := h.cell 2
  go_enter Try.func27, Try.ntmps27
  go_wp2
  go_ret
  exact ⟨by simp, rfl⟩
theorem fails_to (b : Bool) (g : Nat) (s : Bs) (a err : Int) (w : World) (h : Rd w g s a err) (hb : (err != 0) = b) :
    Calls Try.prog 27 #[.pointer (some ⟨g, 0, none⟩)] w fun e w' => e = .returned (.bool b) ∧ w = w' := by
  subst hb; exact fails_any g s a err w h
theorem err_any (g : Nat) (s : Bs) (a err : Int) (w : World) (h : Rd w g s a err) :
    Calls Try.prog 24 #[.pointer (some ⟨g, 0, none⟩)] w fun e w' => e = .returned (.int .i64 err) ∧ w = w' := by
  have g2 := h.cell 2
  go_enter Try.func24, Try.ntmps24
  go_wp2
  go_ret
  exact ⟨by simp, rfl⟩
theorem left_any' (g : Nat) (s : Bs) (a err : Int) (w : World) (h : Rd w g s a err) (hs : s.length ≤ 140737488351232) (h0 : 0 ≤ a) (h1 : a ≤ s.length) :
    Calls Try.prog 23 #[.pointer (some ⟨g, 0, none⟩)] w fun e w' => e = .returned (.int .i64 (if err = 0 then (s.length : Int) - a else 0)) ∧ Rd w' g s a err ∧ But g w w' := by
  have g0 := h.cell 0
  have g1 := h.cell 1
  have hsz := S_size
  by_cases he : err = 0
  · have hb : (err != 0) = false := by rw [he]; rfl
    have hw : IntKind.i64.wrap ((s.length : Int) - a) = (s.length : Int) - a := by
      simp only [IntKind.wrap, IntKind.bits, IntKind.signed]; simp; omega
    rw [if_pos he]
    clear he
    go_enter Try.func23, Try.ntmps23
    go_wp2_with (go_at_call 27; refine (fails_to _ g s a err _ h hb).mono ?_; rintro e w1 ⟨rfl, rfl⟩)
    go_region
    all_goals
      go_wp2
      go_ret
      refine ⟨by simp, h, ?_⟩
      repeat (first | exact But.refl _ _ | apply But.drew)
  · have hb : (err != 0) = true := by rw [bne_iff_ne]; exact he
    rw [if_neg he]
    clear he
    go_enter Try.func23, Try.ntmps23
    go_wp2_with (go_at_call 27; refine (fails_to _ g s a err _ h hb).mono ?_; rintro e w1 ⟨rfl, rfl⟩)
    go_ret
    exact ⟨by simp, h, But.refl _ _⟩
theorem take_fail (g n : Nat) (s : Bs) (a err : Int) (w : World) (h : Rd w g s a err) (he : (err != 0) = true) :
    Calls Try.prog 26 #[.pointer (some ⟨g, 0, none⟩), .int .i64 (n : Int)] w fun e w' => e = .returned (.string (S [])) ∧ w = w' := by
  go_enter Try.func26, Try.ntmps26
  go_wp2_with (go_at_call 27; refine (fails_to _ g s a err _ h he).mono ?_; rintro e w1 ⟨rfl, rfl⟩)
  go_ret
  exact ⟨rfl, rfl⟩
theorem take_short (g n : Nat) (s : Bs) (a err : Int) (w : World) (h : Rd w g s a err) (he : (err != 0) = false) (hs : s.length ≤ 140737488351232) (h0 : 0 ≤ a) (h1 : a ≤ s.length) (hn : (s.length : Int) - a < n) :
    Calls Try.prog 26 #[.pointer (some ⟨g, 0, none⟩), .int .i64 (n : Int)] w fun e w' => e = .returned (.string (S [])) ∧ Rd w' g s a 20 ∧ But g w w' := by
  have g0 := h.cell 0
  have g1 := h.cell 1
  have g2 := h.cell 2
  have f2 := h.free 2
  have hsz := S_size
  have hw : IntKind.i64.wrap ((s.length : Int) - a) = (s.length : Int) - a := by
    simp only [IntKind.wrap, IntKind.bits, IntKind.signed]; simp; omega
  go_enter Try.func26, Try.ntmps26
  go_wp2_with (go_at_call 27; refine (fails_to _ g s a err _ h he).mono ?_; rintro e w1 ⟨rfl, rfl⟩)
  go_region
  all_goals
    go_wp2
    go_ret
    refine ⟨rfl, h.set 2 _, ?_⟩
    repeat (first | exact But.refl _ _ | apply But.drew | apply But.set)
end Go.Proofs.Ytankjbppjabcoaa
