import Derived.Test.YtbbegbiiaabmgaaWkC
namespace Go.Proofs.Ytbbegbiiaabmgaa
open Go.RowKit Mp
open Go.ChangeMaps (setBlock)

theorem look_none {w : World} {g hm wm : Nat} {lo hi : Int} {H : Hs} {W : Ws} (h : Al w g hm wm lo hi H W) {n : Int} (hg : get n H = none) :
    (Instr.lookup 47 (.map (some hm)) (.int .i64 n) true).run Try.prog w = .ok (.tuple #[.agg #[.int .i64 0, .int .i64 0], .bool false]) w := by
  have := look_ok Try.underlying47 Try.underlying3 (zero53 w) h.held n
  rw [hg] at this
  exact this
theorem look_some {w : World} {g hm wm : Nat} {lo hi : Int} {H : Hs} {W : Ws} (h : Al w g hm wm lo hi H W) {n a b : Int} (hg : get n H = some (a, b)) :
    (Instr.lookup 47 (.map (some hm)) (.int .i64 n) true).run Try.prog w = .ok (.tuple #[.agg #[.int .i64 a, .int .i64 b], .bool true]) w := by
  have := look_ok Try.underlying47 Try.underlying3 (zero53 w) h.held n
  rw [hg] at this
  exact this
theorem below_dr {w W : World} (h : Below w.heap.size w W) : Below w.heap.size w W.drew := h.drew

theorem hold_free (g hm wm : Nat) (lo hi n : Int) (H : Hs) (W : Ws) (w : World) (h : Al w g hm wm lo hi H W) (hg : get n H = none) :
    Calls Try.prog 14 #[.pointer (some ⟨g, 0, none⟩), .int .i64 n] w fun e w' => e = .returned (.int .i64 51) ∧ Al w' g hm wm lo hi H W ∧ Fr hm wm w w' := by
  have g2 := h.blk.cell 2
  have k1 := look_none h hg
  have hz : Hid (∀ o, Below w.heap.size w (w.alloc o)) := fun o => below_al (Below.refl _ _)
  clear hg
  go_enter Try.func14, Try.ntmps14
  go_wp2
  go_ret
  exact ⟨rfl, h.on (hz.out _), Fr.of (hz.out _)⟩
theorem hold_many (g hm wm : Nat) (lo hi n a b : Int) (H : Hs) (W : Ws) (w : World) (h : Al w g hm wm lo hi H W) (hg : get n H = some (a, b)) (ha : 5000 ≤ a) :
    Calls Try.prog 14 #[.pointer (some ⟨g, 0, none⟩), .int .i64 n] w fun e w' => e = .returned (.int .i64 52) ∧ Al w' g hm wm lo hi H W ∧ Fr hm wm w w' := by
  have g2 := h.blk.cell 2
  have k1 := look_some h hg
  have hz : Hid (∀ o, Below w.heap.size w (w.alloc o)) := fun o => below_al (Below.refl _ _)
  clear hg
  go_enter Try.func14, Try.ntmps14
  go_wp2
  go_ret
  exact ⟨rfl, h.on (hz.out _), Fr.of (hz.out _)⟩
theorem hold_ok (g hm wm : Nat) (lo hi n a b : Int) (H : Hs) (W : Ws) (w : World) (h : Al w g hm wm lo hi H W) (hg : get n H = some (a, b)) (ha0 : 0 ≤ a) (ha : ¬ 5000 ≤ a) :
    Calls Try.prog 14 #[.pointer (some ⟨g, 0, none⟩), .int .i64 n] w fun e w' => e = .returned (.int .i64 0) ∧ Al w' g hm wm lo hi (put n (a + 1, b) H) W ∧ Fr hm wm w w' := by
  have g2 := h.blk.cell 2
  have hlt : g < w.heap.size := (Array.getElem?_eq_some_iff.1 h.blk).1
  have hne : ¬ w.heap.size = g := by omega
  have k1 := look_some h hg
  have hz : Hid (∀ o, Below w.heap.size w (w.alloc o)) := fun o => below_al (Below.refl _ _)
  obtain ⟨F, hF⟩ := Classical.skolem.1 (fun o => up_held (h.on (below_dr (hz.out o))) n (a + 1) b)
  have hF1 := fun o => (hF o).1
  have hF2 : Hid (∀ o, Al (setBlock (w.alloc o).drew hm (F o)) g hm wm lo hi (put n (a + 1, b) H) W) := fun o => (hF o).2
  clear hg hF
  go_enter Try.func14, Try.ntmps14
  go_wp2
  go_region
  all_goals
    go_wp2
    go_ret
    exact ⟨rfl, hF2.out _, (Fr.of (below_dr (hz.out _))).trans (Fr.held _ _ _ _)⟩
end Go.Proofs.Ytbbegbiiaabmgaa
