/- AllocBack: the walk. -/
import Derived.Test.YtbbegbiiaabmgaaWkJ
import Derived.Test.YtbbegbiiaabmgaaMp4
import Derived.Deep.LoopGhost
namespace Go.Proofs.Ytbbegbiiaabmgaa
open Go.RowKit Mp

/-- An allocator in order, of whose sectors the first n are held by nobody, and sector n by so many. -/
def Low (wr : World) (g hm wm : Nat) (sec n k : Nat) : Prop := ∃ H W, Al wr g hm wm 0 sec H W ∧ Inv 0 sec H W ∧ (∀ m : Int, 0 ≤ m → m < n → Mp.get m H = none) ∧ cnt n H = k
theorem back_out (sec : Int) (oa : Option Addr) (len cap : Nat) (w : World) (h : sec < 0 ∨ ¬ sec < 0 ∧ 40 < sec ∨ ¬ sec < 0 ∧ ¬ 40 < sec ∧ 200 < (len : Int)) (_hl : len ≤ 9223372036854775807) :
    Calls Try.prog 6 #[.int .i64 sec, .slice oa len cap] w fun e w' => e = .returned (.bool true) ∧ Below w.heap.size w w' := by
  rcases h with h | ⟨h, h2⟩ | ⟨h, h2, h3⟩
  all_goals
    go_enter Try.func6, Try.ntmps6
    go_wp2_with (go_at_call 8; refine (awake_any _).mono ?_; rintro e w1 ⟨rfl, hb1⟩)
    go_ret
    exact ⟨rfl, hb1⟩
theorem free_to (x : Int) (g hm wm : Nat) (sec : Nat) (H : Hs) (W : Ws) (w : World) (h : Al w g hm wm 0 sec H W) (hI : Inv 0 sec H W) (hs : sec ≤ 40) (hx : (W.length : Int) = x) :
    Calls Try.prog 13 #[.pointer (some ⟨g, 0, none⟩), .int .i64 9223372036854775807] w fun e w' => e = .returned (.int .i64 x) ∧ Al w' g hm wm 0 sec H [] ∧ Fr hm wm w w' := by
  refine (free_any g hm wm 0 sec 9223372036854775807 sec H W w h (by omega) (by omega)).mono fun e w' k => ?_
  rw [freeW_all hI] at k
  obtain ⟨k1, k2, k3⟩ := k
  refine ⟨?_, k2, k3⟩
  rw [k1]
  have := hI.few.2
  have : wrap64 ((W.length : Int) - (([] : Ws).length : Nat)) = (W.length : Int) := by
    have e : (W.length : Int) - (([] : Ws).length : Nat) = W.length := by simp
    rw [e]
    exact IntWalk.wrap64_in _ ⟨by omega, by omega⟩
  rw [this, hx]
theorem room_to (x : Int) (g hm wm : Nat) (sec : Nat) (H : Hs) (W : Ws) (w : World) (h : Al w g hm wm 0 sec H W) (hI : Inv 0 sec H W) (hs : sec ≤ 40) (hx : (sec : Int) - H.length - W.length = x) :
    Calls Try.prog 11 #[.pointer (some ⟨g, 0, none⟩)] w fun e w' => e = .returned (.int .i64 x) ∧ Below w.heap.size w w' := by
  have := hI.few
  refine (room_any g hm wm 0 sec H W w h (by omega) (by omega) (by omega)).mono fun e w' k => ?_
  rw [← hx, k.1]
  exact ⟨by simp, k.2⟩
theorem wait_to' (x : Int) (g hm wm : Nat) (lo hi : Int) (H : Hs) (W : Ws) (w : World) (h : Al w g hm wm lo hi H W) (hx : (W.length : Int) = x) :
    Calls Try.prog 16 #[.pointer (some ⟨g, 0, none⟩)] w fun e w' => e = .returned (.int .i64 x) ∧ w = w' := hx ▸ wait_any g hm wm lo hi H W w h
theorem count_to' (x : Int) (g hm wm : Nat) (lo hi n : Int) (H : Hs) (W : Ws) (w : World) (h : Al w g hm wm lo hi H W) (hx : cnt n H = x) :
    Calls Try.prog 15 #[.pointer (some ⟨g, 0, none⟩), .int .i64 n] w fun e w' => e = .returned (.int .i64 x) ∧ w = w' := hx ▸ count_any g hm wm lo hi n H W w h

set_option maxHeartbeats 2000000 in
theorem back_in (sec : Nat) (oa : Option Addr) (len cap : Nat) (w : World) (h : sec ≤ 40) (hl : len ≤ 200) (_hlc : len ≤ cap) (hc : Hid (Sc w oa len)) :
    Calls Try.prog 6 #[.int .i64 (sec : Int), .slice oa len cap] w fun e w' => e = .returned (.bool true) ∧ Below w.heap.size w w' := by
  go_enter Try.func6, Try.ntmps6
  go_wp2_with (first
    | (go_at_call 9; refine (new_ok 0 sec _ (by omega) (by omega) (by omega)).mono ?_; rintro e w2 ⟨rfl, hA2, hb2⟩)
    | (go_at_call 8; refine (awake_any _).mono ?_; rintro e w1 ⟨rfl, hb1⟩))
  have hB2 := hb1.trans (hb2.mono hb1.size)
  have hG2 : Good w2 (w1.heap.size + 2) w1.heap.size (w1.heap.size + 1) 0 sec := ⟨_, _, hA2, Inv.nil _ _⟩
  have HS : Hid (w.heap.size ≤ w1.heap.size) := hb1.size
  clear hA2 hb2 hb1
  obtain ⟨hm, hhm⟩ : ∃ hm, w1.heap.size = hm := ⟨_, rfl⟩
  rw [hhm] at HS hG2
  rw [hhm]
  clear hhm
  go_loopw [7, 8] (fun i _ wr => ∃ k : Nat, k ≤ len ∧ i = .int .i64 k ∧ Good wr (hm + 2) hm (hm + 1) 0 sec ∧ Below w.heap.size w wr) (fun i _ _ => len - (intOf i).toNat)
  case atStart => exact ⟨0, by omega, rfl, hG2, hB2⟩
  case round =>
    obtain ⟨i, hi, rfl, hG, hB⟩ := hrel
    clear hG2 hB2
    by_cases hlt : i < len
    · obtain ⟨a, rfl, k, s, g, hat⟩ := hc.out.at hB hlt
      have c0 := hat.c0
      have c1 := hat.c1
      have c2 := hat.c2
      have HG : Hid (g ≤ 9223372036854775807) := hat.wg.2
      have hW1 : ∀ o, Good (wr.alloc o) (hm + 2) hm (hm + 1) 0 sec := fun o => by
        obtain ⟨H, W, h1, h2⟩ := hG
        exact ⟨H, W, h1.on (below_al (Below.refl _ _)), h2⟩
      have HW := Lib.hid hW1
      have hW2 : ∀ o, Below w.heap.size w (wr.alloc o) := fun o => hB.alloc hB.size o
      have HB := Lib.hid hW2
      clear hW1 hW2 hat
      go_wp2_with (first
        | (go_at_call 10; refine (take_inv _ _ _ _ _ _ _ (HW.out _) (by omega)).mono ?_; rintro e w3 ⟨x, y, rfl, hG3, hF3⟩)
        | (go_at_call 19; refine (mark_inv _ _ _ _ _ _ _ _ (HW.out _)).mono ?_; rintro e w3 ⟨x, rfl, hG3, hF3⟩)
        | (go_at_call 14; refine (hold_inv _ _ _ _ _ _ _ (HW.out _)).mono ?_; rintro e w3 ⟨x, rfl, hG3, hF3⟩)
        | (go_at_call 12; refine (drop_inv _ _ _ _ _ _ _ _ (HW.out _) HG.out).mono ?_; rintro e w3 ⟨x, rfl, hG3, hF3⟩))
      all_goals
        go_roundw
        case rel => first
          | exact ⟨i + 1, by omega, by go_num, hG3, (HB.out _).trans (hF3.below HS.out (Nat.le_succ_of_le HS.out) (HB.out _).size)⟩
          | exact ⟨i + 1, by omega, by go_num, HW.out _, HB.out _⟩
        case measure => simp [intOf]; omega
    · go_wp2
      obtain ⟨H1, W1, hA1, hI1⟩ := hG
      go_loopg [9] sec (fun q v wq => ∃ n : Nat, n ≤ sec ∧ q = sec - n ∧ v = .int .i64 n ∧ (∃ H W, Al wq (hm + 2) hm (hm + 1) 0 sec H W ∧ Inv 0 sec H W ∧ (∀ m : Int, 0 ≤ m → m < n → Mp.get m H = none)) ∧ Below w.heap.size w wq)
      case atStart => exact ⟨0, by omega, by omega, rfl, ⟨H1, W1, hA1, hI1, fun m h0 h1 => by omega⟩, hB⟩
      case round =>
        obtain ⟨n, hn, hq, rfl, ⟨H2, W2, hA2, hI2, hz2⟩, hB2⟩ := hrel
        have HZ := Lib.hid hz2
        have HQ := Lib.hid hq
        clear hz2 hq hA1 hI1 hB hlt hi
        by_cases hlt : n < sec
        · go_wp2_with fail
          obtain ⟨kk, hkk, hk5⟩ : ∃ kk : Nat, cnt n H2 = kk ∧ kk ≤ 5000 := by
            rcases cnt_cases hI2 n with ⟨h0, _⟩ | ⟨a, b, _, h1, h2, h3, _⟩
            · exact ⟨0, by rw [h0]; rfl, by omega⟩
            · exact ⟨a.toNat, by rw [h1]; omega, by omega⟩
          have HK := Lib.hid hkk
          clear hkk
          go_loopg [4] kk (fun q _ wq => Low wq (hm + 2) hm (hm + 1) sec n q ∧ Below w.heap.size w wq)
          case atStart => exact ⟨⟨H2, W2, hA2, hI2, HZ.out, HK.out⟩, hB2⟩
          case round =>
            rename_i u4q
            obtain ⟨⟨H3, W3, hA3, hI3, hz3, hc3⟩, hB3⟩ := hrel
            clear hA2 hI2 HZ HK hB2 hk5
            have HZ := Lib.hid hz3
            clear hz3
            rcases cnt_cases hI3 n with ⟨h0, hg⟩ | ⟨a, b, hg, h1, h2, h3, h4, h5⟩
            · have HG := Lib.hid hg
              clear hg hc3
              go_wp2_with (first
                | (go_at_call 15; refine (count_to' 0 _ _ _ 0 _ _ _ _ _ hA3 h0).mono ?_; rintro e w6 ⟨rfl, rfl⟩)
                | (go_at_call 12; refine (drop_free _ _ _ 0 _ _ _ _ _ _ hA3 HG.out).mono ?_; rintro e w7 ⟨rfl, hA7, hF7⟩)
                | (go_at_call 14; refine (hold_free _ _ _ 0 _ _ _ _ _ hA7 HG.out).mono ?_; rintro e w8 ⟨rfl, hA8, hF8⟩))
              go_roundg (sec - (n + 1))
              case measure => have := HQ.out; omega
              case rel =>
                refine ⟨n + 1, by omega, rfl, by go_num, ⟨H3, W3, hA8, hI3, fun m m0 m1 => ?_⟩, (hB3.trans (hF7.below HS.out (Nat.le_succ_of_le HS.out) hB3.size)).trans (hF8.below HS.out (Nat.le_succ_of_le HS.out) (Nat.le_trans hB3.size hF7.size))⟩
                by_cases e : m = n
                · rw [e]; exact HG.out
                · exact HZ.out m m0 (by omega)
            · have HG := Lib.hid hg
              have HC : Hid (a = _) := h1.symm.trans hc3
              clear hg hc3
              by_cases ha : 2 ≤ a
              · go_wp2_with (first
                  | (go_at_call 15; refine (count_to' a _ _ _ 0 _ _ _ _ _ hA3 h1).mono ?_; rintro e w6 ⟨rfl, rfl⟩)
                  | (go_at_call 12; refine (drop_more _ _ _ 0 _ _ _ _ _ _ _ _ hA3 HG.out ha h3).mono ?_; rintro e w7 ⟨rfl, hA7, hF7⟩))
                go_roundg (gk - 1)
                case measure => have := HC.out; omega
                case rel =>
                  refine ⟨⟨_, _, hA7, hI3.put h4 h5 (by omega) (by omega), fun m m0 m1 => ?_, ?_⟩, hB3.trans (hF7.below HS.out (Nat.le_succ_of_le HS.out) hB3.size)⟩
                  · rw [get_put, if_neg (by omega)]; exact HZ.out m m0 m1
                  · unfold cnt; rw [get_put, if_pos rfl]; have := HC.out; show a - 1 = _; omega
              · have ha1 : a ≤ 1 := by omega
                go_wp2_with (first
                  | (go_at_call 15; refine (count_to' a _ _ _ 0 _ _ _ _ _ hA3 h1).mono ?_; rintro e w6 ⟨rfl, rfl⟩)
                  | (go_at_call 12; refine (drop_last _ _ _ 0 _ _ _ _ _ _ _ _ hA3 HG.out (by omega) ha1).mono ?_; rintro e w7 ⟨rfl, hA7, hF7⟩))
                go_roundg (gk - 1)
                case measure => have := HC.out; omega
                case rel =>
                  refine ⟨⟨_, _, hA7, ?_, fun m m0 m1 => ?_, ?_⟩, hB3.trans (hF7.below HS.out (Nat.le_succ_of_le HS.out) hB3.size)⟩
                  · by_cases e : b = 5
                    · rw [if_pos e]; exact hI3.del n
                    · rw [if_neg e]; exact (hI3.del n).wait 5 h4 h5 (by omega)
                  · rw [get_del hI3.hd, if_neg (by omega)]; exact HZ.out m m0 m1
                  · unfold cnt; rw [get_del hI3.hd, if_pos rfl]; have := HC.out; show (0 : Int) = _; omega
        · have e : n = sec := by omega
          subst e
          have eH : H2 = [] := none_all hI2 HZ.out
          subst eH
          obtain ⟨lw, hlw⟩ : ∃ lw : Nat, W2.length = lw := ⟨_, rfl⟩
          have hlw40 : lw ≤ 40 := by have := hI2.few.2; omega
          have HL := Lib.hid hlw
          clear hlw
          have hpos : 0 ≤ (n : Int) - lw := by have := hI2.few.2; have := HL.out; omega
          go_wp2_with (first
            | (go_at_call 16; refine (wait_to' 0 _ _ _ 0 _ _ _ _ hA7 rfl).mono ?_; rintro e w6 ⟨rfl, rfl⟩)
            | (go_at_call 16; refine (wait_to' lw _ _ _ 0 _ _ _ _ hA2 (by rw [HL.out])).mono ?_; rintro e w6 ⟨rfl, rfl⟩)
            | (go_at_call 11; refine (room_to n _ _ _ n _ _ _ hA5 hI5 (by omega) (by simp)).mono ?_; rintro e w7 ⟨rfl, hb7⟩; have hA7 := hA5.on hb7)
            | (go_at_call 11; refine (room_to (n - lw) _ _ _ n _ _ _ hA2 hI2 (by omega) (by rw [HL.out]; simp)).mono ?_; rintro e w4 ⟨rfl, hb4⟩; have hA4 := hA2.on hb4)
            | (go_at_call 13; refine (free_to lw _ _ _ n _ _ _ hA4 hI2 (by omega) (by rw [HL.out])).mono ?_; rintro e w5 ⟨rfl, hA5, hF5⟩; have hI5 := hI2.none))
          go_ret
          exact ⟨by simp, ((hB2.trans (hb4.mono hB2.size)).trans (hF5.below HS.out (Nat.le_succ_of_le HS.out) (Nat.le_trans hB2.size hb4.size))).trans (hb7.mono (Nat.le_trans hB2.size (Nat.le_trans hb4.size hF5.size)))⟩
theorem allocBack_row (sec : Int) (v : Value) (len : Nat) (w : World) (_ : -9223372036854775808 ≤ sec ∧ sec ≤ 9223372036854775807) (hs : Script w v len) :
    Calls Try.prog 6 #[.int .i64 sec, v] w fun e w' => e = .returned (.bool true) ∧ Below w.heap.size w w' := by
  obtain ⟨oa, cap, rfl, h1, h2, h3⟩ := Sc.of hs
  unfold maxLen at h2
  by_cases h : sec < 0 ∨ 40 < sec ∨ 200 < len
  · exact back_out sec oa len cap w (by omega) (by omega)
  · obtain ⟨a, rfl⟩ : ∃ a : Nat, sec = a := ⟨sec.toNat, by omega⟩
    exact back_in a oa len cap w (by omega) (by omega) h1 h3
end Go.Proofs.Ytbbegbiiaabmgaa
