import Derived.Test.YtbbegbiiaabmgaaWkF
namespace Go.Proofs.Ytbbegbiiaabmgaa
open Go.RowKit Mp
open Go.ChangeMaps (setBlock)

theorem mark_out (g hm wm : Nat) (lo hi n gen : Int) (H : Hs) (W : Ws) (w : World) (h : Al w g hm wm lo hi H W) (hn : n < lo ∨ ¬ n < lo ∧ hi ≤ n) :
    Calls Try.prog 19 #[.pointer (some ⟨g, 0, none⟩), .int .i64 n, .int .i64 gen] w fun e w' => e = .returned (.int .i64 31) ∧ w = w' := by
  have g0 := h.blk.cell 0
  have g1 := h.blk.cell 1
  rcases hn with hn | ⟨hn, hn2⟩
  all_goals
    go_enter Try.func19, Try.ntmps19
    go_wp2
    go_ret
    exact ⟨rfl, rfl⟩
theorem mark_there (g hm wm : Nat) (lo hi n gen : Int) (H : Hs) (W : Ws) (w : World) (h : Al w g hm wm lo hi H W) (hn : ¬ n < lo) (hn2 : ¬ hi ≤ n) (hb : busyB n H W = true) :
    Calls Try.prog 19 #[.pointer (some ⟨g, 0, none⟩), .int .i64 n, .int .i64 gen] w fun e w' => e = .returned (.int .i64 103) ∧ Below w.heap.size w w' := by
  have g0 := h.blk.cell 0
  have g1 := h.blk.cell 1
  have HB := Lib.hid hb
  clear hb
  go_enter Try.func19, Try.ntmps19
  go_wp2_with (go_at_call 27; refine (busy_to _ g hm wm lo hi n H W _ h HB.out).mono ?_; rintro e w2 ⟨rfl, hb2⟩)
  go_ret
  exact ⟨rfl, hb2⟩
theorem mark_ok (g hm wm : Nat) (lo hi n gen : Int) (H : Hs) (W : Ws) (w : World) (h : Al w g hm wm lo hi H W) (hn : ¬ n < lo) (hn2 : ¬ hi ≤ n) (hb : busyB n H W = false) :
    Calls Try.prog 19 #[.pointer (some ⟨g, 0, none⟩), .int .i64 n, .int .i64 gen] w fun e w' => e = .returned (.int .i64 0) ∧ Al w' g hm wm lo hi (put n (1, gen) H) W ∧ Fr hm wm w w' := by
  have g0 := h.blk.cell 0
  have g1 := h.blk.cell 1
  have HB := Lib.hid hb
  clear hb
  go_enter Try.func19, Try.ntmps19
  go_wp2_with (go_at_call 27; refine (busy_to _ g hm wm lo hi n H W _ h HB.out).mono ?_; rintro e w2 ⟨rfl, hb2⟩; have hA2 := h.on hb2; have c2 := hA2.blk.cell 2; obtain ⟨o, ho, hAo⟩ := up_held hA2 n 1 gen)
  go_ret
  exact ⟨rfl, hAo, (Fr.of hb2).trans (Fr.held _ _ _ _)⟩

/-- What waits on, behind one sector's turn. -/
def free1 (gen n : Int) (W : Ws) : Ws := match get n W with
  | some b => if b ≤ gen then del n W else W
  | none => W
/-- .. behind so many sectors from lo on. -/
def freeW (gen lo : Int) : Nat → Ws → Ws
  | 0, W => W
  | k + 1, W => free1 gen (lo + k) (freeW gen lo k W)
theorem del_waits {w : World} {g hm wm : Nat} {lo hi : Int} {H : Hs} {W : Ws} (h : Al w g hm wm lo hi H W) (n : Int) (ty : TypeId) :
    ∃ o, (Builtin.delete_ #[48, 3] ty #[.map (some wm), .int .i64 n]).run Try.prog w = .ok (.tuple #[]) (setBlock w wm o) ∧ Al (setBlock w wm o) g hm wm lo hi H (del n W) := by
  obtain ⟨o, h1, h2⟩ := delete (ty := ty) Try.underlying48 Try.underlying3 h.waits n
  exact ⟨o, h1, h.setWaits h2⟩
theorem wlook {w : World} {g hm wm : Nat} {lo hi : Int} {H : Hs} {W : Ws} (h : Al w g hm wm lo hi H W) (n : Int) (x : Int) (b : Bool) (hx : (get n W).getD 0 = x) (hb : (get n W).isSome = b) :
    (Instr.lookup 48 (.map (some wm)) (.int .i64 n) true).run Try.prog w = .ok (.tuple #[.int .i64 x, .bool b]) w := by
  subst hx; subst hb
  exact look_ok Try.underlying48 Try.underlying3 (zero3 w) h.waits n

set_option maxHeartbeats 1000000 in
theorem free_any (g hm wm : Nat) (lo hi gen : Int) (d : Nat) (H : Hs) (W : Ws) (w : World) (h : Al w g hm wm lo hi H W) (hb : 0 ≤ lo ∧ hi ≤ 4096) (hd : lo + d = hi) :
    Calls Try.prog 13 #[.pointer (some ⟨g, 0, none⟩), .int .i64 gen] w fun e w' => e = .returned (.int .i64 (wrap64 ((W.length : Int) - (freeW gen lo d W).length))) ∧ Al w' g hm wm lo hi H (freeW gen lo d W) ∧ Fr hm wm w w' := by
  have g0 := h.blk.cell 0
  have g3 := h.blk.cell 3
  have k1 := len_of Try.underlying48 h.waits
  go_enter Try.func13, Try.ntmps13
  go_wp2
  clear g0 g3 k1
  go_loopw [6, 7, 8] (fun i _ _ wr => ∃ k : Nat, k ≤ d ∧ i = .int .i64 (lo + k) ∧ Al wr g hm wm lo hi H (freeW gen lo k W) ∧ Fr hm wm w wr) (fun i _ _ _ => (hi - intOf i).toNat)
  case atStart => exact ⟨0, by omega, by simp, h, Fr.refl _ _ _⟩
  case round =>
    obtain ⟨k, hk, rfl, hA, hF⟩ := hrel
    have a1 := hA.blk.cell 1
    have a3 := hA.blk.cell 3
    by_cases hlt : k < d
    · have hlt' : lo + (k : Int) < hi := by omega
      have hstep : Hid (freeW gen lo (k + 1) W = free1 gen (lo + k) (freeW gen lo k W)) := rfl
      cases hg : get (lo + k) (freeW gen lo k W) with
      | none =>
        have k2 := wlook hA (lo + k) 0 false (by rw [hg]; rfl) (by rw [hg]; rfl)
        have HG := Lib.hid hg
        clear hg
        go_wp2
        go_roundw
        case rel => exact ⟨k + 1, by omega, by go_num, by rw [hstep.out]; unfold free1; rw [HG.out]; exact hA, hF⟩
        case measure => simp [intOf]; omega
      | some b =>
        have k2 := wlook hA (lo + k) b true (by rw [hg]; rfl) (by rw [hg]; rfl)
        have HG := Lib.hid hg
        clear hg
        by_cases hbg : b ≤ gen
        · obtain ⟨F, hFd⟩ := Classical.skolem.1 (fun ty : TypeId => del_waits hA (lo + k) ty)
          have hF1 := fun ty => (hFd ty).1
          have hF2 : Hid (∀ ty, Al (setBlock wr wm (F ty)) g hm wm lo hi H (del (lo + k) (freeW gen lo k W))) := fun ty => (hFd ty).2
          clear hFd
          go_wp2
          go_roundw
          case rel => exact ⟨k + 1, by omega, by go_num, by rw [hstep.out]; unfold free1; rw [HG.out]; simp only [if_pos hbg]; exact hF2.out _, hF.trans (Fr.waits _ _ _ _)⟩
          case measure => simp [intOf]; omega
        · go_wp2
          go_roundw
          case rel => exact ⟨k + 1, by omega, by go_num, by rw [hstep.out]; unfold free1; rw [HG.out]; simp only [if_neg hbg]; exact hA, hF⟩
          case measure => simp [intOf]; omega
    · have e : k = d := by omega
      subst e
      have hnl : ¬ lo + (k : Int) < hi := by omega
      have k2 := len_of Try.underlying48 hA.waits
      go_wp2
      go_ret
      exact ⟨rfl, hA, hF⟩
end Go.Proofs.Ytbbegbiiaabmgaa
