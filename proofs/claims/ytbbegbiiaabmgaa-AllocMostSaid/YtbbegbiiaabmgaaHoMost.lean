import Derived.Test.YtbbegbiiaabmgaaWkD
import Derived.Test.YtbbegbiiaabmgaaWkF
namespace Go.Proofs.Ytbbegbiiaabmgaa
open Go.RowKit Mp

/-- The allocator with so many holders of sector 0. -/
def Hc (c : Nat) : Hs := if c = 0 then [] else [(0, ((c : Int), 1))]
def Wc (c : Nat) : Ws := if c = 0 then [(0, 2)] else []
theorem first0 (m : Int) (h1 : 0 ≤ m) (h2 : m < ((0 : Nat) : Int)) : busyB m [] [] = true := by omega
theorem hc_get {c : Nat} (h : c ≠ 0) : get 0 (Hc c) = some ((c : Int), 1) := by simp [Hc, h, Go.Proofs.Mp.get, at_]
theorem hc_put {c : Nat} (h : c ≠ 0) {d : Nat} (hd : d ≠ 0) (x : Int) (hx : x = d) : put 0 (x, 1) (Hc c) = Hc d := by subst hx; simp [Hc, h, hd, put, at_]
theorem hc_count (d : Nat) : ((get 0 (Hc d)).getD (0, 0)).1 = (d : Int) := by
  by_cases h : d = 0
  · subst h; rfl
  · rw [hc_get h]; rfl
theorem wc_len0 : ((Wc 0).length : Int) = 1 := rfl
theorem wc_len {d : Nat} (h : d ≠ 0) : ((Wc d).length : Int) = 0 := by simp [Wc, h]
theorem count_to (x : Int) (g hm wm : Nat) (lo hi n : Int) (H : Hs) (W : Ws) (w : World) (h : Al w g hm wm lo hi H W) (hx : ((get n H).getD (0, 0)).1 = x) :
    Calls Try.prog 15 #[.pointer (some ⟨g, 0, none⟩), .int .i64 n] w fun e w' => e = .returned (.int .i64 x) ∧ w = w' := hx ▸ count_any g hm wm lo hi n H W w h
theorem wait_to (x : Int) (g hm wm : Nat) (lo hi : Int) (H : Hs) (W : Ws) (w : World) (h : Al w g hm wm lo hi H W) (hx : (W.length : Int) = x) :
    Calls Try.prog 16 #[.pointer (some ⟨g, 0, none⟩)] w fun e w' => e = .returned (.int .i64 x) ∧ w = w' := hx ▸ wait_any g hm wm lo hi H W w h
theorem most_out (n more : Int) (w : World) (h : n < 0 ∨ ¬ n < 0 ∧ 5200 < n ∨ ¬ n < 0 ∧ ¬ 5200 < n ∧ more < 0 ∨ ¬ n < 0 ∧ ¬ 5200 < n ∧ ¬ more < 0 ∧ 5200 < more) :
    Calls Try.prog 4 #[.int .i64 n, .int .i64 more] w fun e w' => e = .returned (.bool true) ∧ Below w.heap.size w w' := by
  rcases h with h | ⟨h, h2⟩ | ⟨h, h2, h3⟩ | ⟨h, h2, h3, h4⟩
  all_goals
    go_enter Try.func4, Try.ntmps4
    go_wp2_with (first
      | (go_at_call 9; refine (new_ok 0 3 _ (by omega) (by omega) (by omega)).mono ?_; rintro e w1 ⟨rfl, hA1, hb1⟩)
      | (go_at_call 8; refine (awake_any _).mono ?_; rintro e w2 ⟨rfl, hb2⟩; have hA2 := hA1.on hb2)
      | (go_at_call 10; refine (take_at 0 _ _ _ 0 3 1 _ _ _ hA2 (by omega) (by omega) rfl first0).mono ?_; rintro e w3 ⟨rfl, hA3, hb3⟩))
    go_ret
    exact ⟨rfl, (hb1.trans (hb2.mono hb1.size)).trans (hb3.below (Nat.le_refl _) (by omega) (Nat.le_trans hb1.size hb2.size))⟩

set_option maxHeartbeats 1000000 in
theorem most_in (n more : Nat) (w : World) (h : n ≤ 5200) (h2 : more ≤ 5200) :
    Calls Try.prog 4 #[.int .i64 (n : Int), .int .i64 (more : Int)] w fun e w' => e = .returned (.bool true) ∧ Below w.heap.size w w' := by
  go_enter Try.func4, Try.ntmps4
  go_wp2_with (first
    | (go_at_call 9; refine (new_ok 0 3 _ (by omega) (by omega) (by omega)).mono ?_; rintro e w1 ⟨rfl, hA1, hb1⟩)
    | (go_at_call 8; refine (awake_any _).mono ?_; rintro e w2 ⟨rfl, hb2⟩; have hA2 := hA1.on hb2)
    | (go_at_call 10; refine (take_at 0 _ _ _ 0 3 1 _ _ _ hA2 (by omega) (by omega) rfl first0).mono ?_; rintro e w3 ⟨rfl, hA3, hb3⟩))
  have hB3 : Below w.heap.size w w3 := (hb1.trans (hb2.mono hb1.size)).trans (hb3.below (Nat.le_refl _) (by omega) (Nat.le_trans hb1.size hb2.size))
  clear hb1 hb2 hb3 hA1 hA2
  go_loopw [9, 10, 11] (fun cv i _ wr => ∃ c k : Nat, c ≠ 0 ∧ c ≤ 5000 ∧ k ≤ n ∧ cv = .int .i64 c ∧ i = .int .i64 k ∧ Al wr (w.heap.size + 2) w.heap.size (w.heap.size + 1) 0 3 (Hc c) [] ∧ Below w.heap.size w wr) (fun _ i _ _ => n - (intOf i).toNat)
  case atStart => exact ⟨1, 0, by omega, by omega, by omega, rfl, rfl, hA3, hB3⟩
  case round =>
    obtain ⟨c, k, hc0, hc, hk, rfl, rfl, hA, hB⟩ := hrel
    clear hA3 hB3
    by_cases hlt : k < n
    · have HC := Lib.hid (⟨hc0, hc⟩ : c ≠ 0 ∧ c ≤ 5000)
      obtain ⟨x, hx⟩ : ∃ x : Int, (c : Int) = x := ⟨_, rfl⟩
      have hg := Lib.hid (hc_get hc0)
      have hge : 1 ≤ x := by omega
      rw [hx] at hg
      rw [hx]
      by_cases hm : 5000 ≤ x
      · have HX := Lib.hid hx
        clear hx hc0 hc
        go_wp2_with (go_at_call 14; refine (hold_many _ _ _ 0 3 0 _ _ _ _ _ hA hg.out hm).mono ?_; rintro e w4 ⟨rfl, hA4, hb4⟩)
        go_roundw
        case rel => exact ⟨c, k + 1, HC.out.1, HC.out.2, by omega, by rw [HX.out], by go_num, hA4, hB.trans (hb4.below (Nat.le_refl _) (by omega) hB.size)⟩
        case measure => simp [intOf]; omega
      · have HX := Lib.hid hx
        have hx5 : x < 5000 := by omega
        clear hx hc0 hc
        go_wp2_with (go_at_call 14; refine (hold_ok _ _ _ 0 3 0 _ _ _ _ _ hA hg.out (by omega) (by omega)).mono ?_; rintro e w4 ⟨rfl, hA4, hb4⟩)
        go_roundw
        case rel =>
          have hx := HX.out
          have hc0 := HC.out.1
          exact ⟨c + 1, k + 1, by omega, by omega, by omega, by rw [← hx]; go_num, by go_num, by rw [hc_put hc0 (d := c + 1) (by omega) _ (by omega)] at hA4; exact hA4, hB.trans (hb4.below (Nat.le_refl _) (by omega) hB.size)⟩
        case measure => simp [intOf]; omega
    · have e : k = n := by omega
      subst e
      go_wp2
      go_loopw [9, 12, 13] (fun cv i _ wr => ∃ c k : Nat, c ≤ 5000 ∧ k ≤ more ∧ cv = .int .i64 c ∧ i = .int .i64 k ∧ Al wr (w.heap.size + 2) w.heap.size (w.heap.size + 1) 0 3 (Hc c) (Wc c) ∧ Below w.heap.size w wr) (fun _ i _ _ => more - (intOf i).toNat)
      case atStart => exact ⟨c, 0, hc, by omega, rfl, rfl, by unfold Wc; rw [if_neg hc0]; exact hA, hB⟩
      case round =>
        clear hA hB hc0 hc hlt
        obtain ⟨d, j, hd, hj, rfl, rfl, hA, hB⟩ := hrel
        by_cases hlt : j < more
        · rcases Nat.lt_trichotomy d 1 with h0 | h1 | h2
          · have e0 : d = 0 := by omega
            subst e0
            go_wp2_with (go_at_call 12; refine (drop_free _ _ _ 0 3 0 2 _ _ _ hA rfl).mono ?_; rintro e w4 ⟨rfl, hA4, hb4⟩)
            go_roundw
            case rel => exact ⟨0, j + 1, by omega, by omega, rfl, by go_num, hA4, hB.trans (hb4.below (Nat.le_refl _) (by omega) hB.size)⟩
            case measure => simp [intOf]; omega
          · subst h1
            go_wp2_with (go_at_call 12; refine (drop_last _ _ _ 0 3 0 2 1 1 _ _ _ hA rfl (by omega) (by omega)).mono ?_; rintro e w4 ⟨rfl, hA4, hb4⟩)
            go_roundw
            case rel => exact ⟨0, j + 1, by omega, by omega, rfl, by go_num, hA4, hB.trans (hb4.below (Nat.le_refl _) (by omega) hB.size)⟩
            case measure => simp [intOf]; omega
          · have hd0 : d ≠ 0 := by omega
            have hd1 : d - 1 ≠ 0 := by omega
            have hdp : 0 < d := by omega
            go_wp2_with (go_at_call 12; refine (drop_more _ _ _ 0 3 0 2 _ _ _ _ _ hA (hc_get hd0) (by omega) (by omega)).mono ?_; rintro e w4 ⟨rfl, hA4, hb4⟩)
            go_roundw
            case rel => exact ⟨d - 1, j + 1, by omega, by omega, by rw [show ((d - 1 : Nat) : Int) = (d : Int) - 1 by omega], by go_num, by rw [hc_put hd0 hd1 _ (by omega)] at hA4; unfold Wc at hA4 ⊢; rw [if_neg hd0] at hA4; rw [if_neg hd1]; exact hA4, hB.trans (hb4.below (Nat.le_refl _) (by omega) hB.size)⟩
            case measure => simp [intOf]; omega
        · have e : j = more := by omega
          subst e
          by_cases hd0 : d = 0
          · subst hd0
            go_wp2_with (first
              | (go_at_call 15; refine (count_to 0 _ _ _ 0 3 0 _ _ _ hA rfl).mono ?_; rintro e w4 ⟨rfl, rfl⟩)
              | (go_at_call 16; refine (wait_to 1 _ _ _ 0 3 _ _ _ hA rfl).mono ?_; rintro e w5 ⟨rfl, rfl⟩))
            go_ret
            exact ⟨by simp, hB⟩
          · have hdz : ((d : Int) == 0) = false := by rw [beq_eq_false_iff_ne]; omega
            go_wp2_with (first
              | (go_at_call 15; refine (count_to _ _ _ _ 0 3 0 _ _ _ hA (hc_count d)).mono ?_; rintro e w4 ⟨rfl, rfl⟩)
              | (go_at_call 16; refine (wait_to 0 _ _ _ 0 3 _ _ _ hA (wc_len hd0)).mono ?_; rintro e w5 ⟨rfl, rfl⟩))
            go_ret
            exact ⟨by simp, hB⟩
theorem allocMost_row (n more : Int) (w : World) (_ : -9223372036854775808 ≤ n ∧ n ≤ 9223372036854775807) (_ : -9223372036854775808 ≤ more ∧ more ≤ 9223372036854775807) :
    Calls Try.prog 4 #[.int .i64 n, .int .i64 more] w fun e w' => e = .returned (.bool true) ∧ Below w.heap.size w w' := by
  by_cases h : n < 0 ∨ 5200 < n ∨ more < 0 ∨ 5200 < more
  · exact most_out n more w (by omega)
  · obtain ⟨a, rfl⟩ : ∃ a : Nat, n = a := ⟨n.toNat, by omega⟩
    obtain ⟨b, rfl⟩ : ∃ b : Nat, more = b := ⟨more.toNat, by omega⟩
    exact most_in a b w (by omega) (by omega)
end Go.Proofs.Ytbbegbiiaabmgaa
