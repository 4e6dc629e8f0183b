import Derived.Test.YtbbegbiiaabmgaaWkC
namespace Go.Proofs.Ytbbegbiiaabmgaa
open Go.RowKit Mp

theorem take_at (n g hm wm : Nat) (lo hi gen : Int) (H : Hs) (W : Ws) (w : World) (h : Al w g hm wm lo hi H W) (hb : 0 ≤ lo ∧ lo ≤ hi ∧ hi ≤ 4096) (hn : lo ≤ (n : Int) ∧ (n : Int) < hi) (hf : busyB n H W = false) (hall : ∀ m, lo ≤ m → m < (n : Int) → busyB m H W = true) :
    Calls Try.prog 10 #[.pointer (some ⟨g, 0, none⟩), .int .i64 gen] w fun e w' => e = .returned (.tuple #[.int .i64 (n : Int), .int .i64 0]) ∧ Al w' g hm wm lo hi (put (n : Int) (1, gen) H) W ∧ Fr hm wm w w' := by
  refine (take_any g hm wm lo hi gen H W w h hb).mono fun e w' k => ?_
  rcases k with ⟨m, m0, m1, m2, m3, k1, k2, k3⟩ | ⟨m3, _⟩
  · have : m = n := by
      rcases Int.lt_trichotomy m n with hl | hl | hl
      · have := hall m m0 hl; rw [m2] at this; cases this
      · exact hl
      · have := m3 n hn.1 hl; rw [hf] at this; cases this
    subst this
    exact ⟨k1, k2, k3⟩
  · have := m3 n hn.1 hn.2
    rw [hf] at this; cases this
theorem first2 (m : Int) (h1 : 2 ≤ m) (h2 : m < ((2 : Nat) : Int)) : busyB m [] [] = true := by omega
theorem first3 (m : Int) (h1 : 2 ≤ m) (h2 : m < ((3 : Nat) : Int)) : busyB m (put ((2 : Nat) : Int) (1, 7) []) [] = true := by
  have : m = 2 := by omega
  rw [this]; rfl
theorem awake_any (w : World) : Calls Try.prog 8 #[] w fun e w' => e = .returned (.bool true) ∧ Below w.heap.size w w' := by
  go_enter Try.func8, Try.ntmps8
  go_wp2_with (first
    | (go_at_call 9; refine (new_ok 2 5 _ (by omega) (by omega) (by omega)).mono ?_; rintro e w1 ⟨rfl, hA1, hb1⟩)
    | (go_at_call 10; have hq := hA2; refine (take_at 3 _ _ _ 2 5 7 _ _ _ hA2 (by omega) (by omega) rfl first3).mono ?_; rintro e w3 ⟨rfl, hA3, hb3⟩)
    | (go_at_call 10; refine (take_at 2 _ _ _ 2 5 7 _ _ _ hA1 (by omega) (by omega) rfl first2).mono ?_; rintro e w2 ⟨rfl, hA2, hb2⟩)
    | (go_at_call 11; refine (room_any _ _ _ 2 5 _ _ _ hA3 (by omega) (by decide) (by decide)).mono ?_; rintro e w4 ⟨rfl, hb4⟩))
  go_ret
  refine ⟨rfl, ?_⟩
  exact ((hb1.trans (hb2.below (Nat.le_refl _) (by omega) hb1.size)).trans (hb3.below (Nat.le_refl _) (by omega) (Nat.le_trans hb1.size hb2.size))).trans (hb4.mono (Nat.le_trans hb1.size (Nat.le_trans hb2.size hb3.size)))
theorem allocNil_hole (n gen : Int) (w : World) : Calls Try.prog 7 #[.int .i64 n, .int .i64 gen] w fun e w' => e = .returned (.bool true) ∧ Below w.heap.size w w' := by
  go_enter Try.func7, Try.ntmps7
  go_wp2_with (first
    | (go_at_call 10; refine (take_nil gen _).mono ?_; rintro e w1 ⟨rfl, rfl⟩)
    | (go_at_call 8; refine (awake_any _).mono ?_; rintro e w2 ⟨rfl, hb2⟩)
    | (go_at_call 19; refine (mark_nil n gen _).mono ?_; rintro e w3 ⟨rfl, rfl⟩)
    | (go_at_call 14; refine (hold_nil n _).mono ?_; rintro e w4 ⟨rfl, rfl⟩)
    | (go_at_call 12; refine (drop_nil n gen _).mono ?_; rintro e w5 ⟨rfl, rfl⟩)
    | (go_at_call 13; refine (free_nil gen _).mono ?_; rintro e w6 ⟨rfl, rfl⟩)
    | (go_at_call 15; refine (count_nil n _).mono ?_; rintro e w7 ⟨rfl, rfl⟩)
    | (go_at_call 11; refine (room_nil _).mono ?_; rintro e w8 ⟨rfl, rfl⟩)
    | (go_at_call 16; refine (wait_nil _).mono ?_; rintro e w9 ⟨rfl, rfl⟩))
  go_ret
  exact ⟨rfl, hb2⟩
end Go.Proofs.Ytbbegbiiaabmgaa
