import Derived.Test.YtbbegbiiaabmgaaWkE
namespace Go.Proofs.Ytbbegbiiaabmgaa
open Go.RowKit Mp
open Go.ChangeMaps (setBlock)

theorem up_waits {w : World} {g hm wm : Nat} {lo hi : Int} {H : Hs} {W : Ws} (h : Al w g hm wm lo hi H W) (n a : Int) :
    ∃ o, (Instr.mapUpdate 48 (.map (some wm)) (.int .i64 n) (.int .i64 a)).run Try.prog w = .ok () (setBlock w wm o) ∧ Al (setBlock w wm o) g hm wm lo hi H (put n a W) := by
  obtain ⟨o, h1, h2⟩ := update Try.underlying48 Try.underlying3 h.waits n a
  exact ⟨o, h1, h.setWaits h2⟩
theorem del_held {w : World} {g hm wm : Nat} {lo hi : Int} {H : Hs} {W : Ws} (h : Al w g hm wm lo hi H W) (n : Int) (ty : TypeId) :
    ∃ o, (Builtin.delete_ #[47, 3] ty #[.map (some hm), .int .i64 n]).run Try.prog w = .ok (.tuple #[]) (setBlock w hm o) ∧ Al (setBlock w hm o) g hm wm lo hi (del n H) W := by
  obtain ⟨o, h1, h2⟩ := delete (ty := ty) Try.underlying47 Try.underlying3 h.held n
  exact ⟨o, h1, h.setHeld h2⟩
theorem cell_setBlock (W : World) (b c : Nat) (o : Obj) (j : Nat) (h : b ≠ c) : (setBlock W c o).cell? ⟨b, j, none⟩ = W.cell? ⟨b, j, none⟩ :=
  World.cell?_of_block (w := W) (by simp [setBlock, Ne.symm h])

theorem drop_free (g hm wm : Nat) (lo hi n gen : Int) (H : Hs) (W : Ws) (w : World) (h : Al w g hm wm lo hi H W) (hg : get n H = none) :
    Calls Try.prog 12 #[.pointer (some ⟨g, 0, none⟩), .int .i64 n, .int .i64 gen] w fun e w' => e = .returned (.int .i64 51) ∧ Al w' g hm wm lo hi H W ∧ Fr hm wm w w' := by
  have g2 := h.blk.cell 2
  have k1 := look_none h hg
  have hz : Hid (∀ o, Below w.heap.size w (w.alloc o)) := fun o => below_al (Below.refl _ _)
  clear hg
  go_enter Try.func12, Try.ntmps12
  go_wp2
  go_ret
  exact ⟨rfl, h.on (hz.out _), Fr.of (hz.out _)⟩
theorem drop_more (g hm wm : Nat) (lo hi n gen a b : Int) (H : Hs) (W : Ws) (w : World) (h : Al w g hm wm lo hi H W) (hg : get n H = some (a, b)) (ha0 : 2 ≤ a) (ha : a ≤ 5000) :
    Calls Try.prog 12 #[.pointer (some ⟨g, 0, none⟩), .int .i64 n, .int .i64 gen] w fun e w' => e = .returned (.int .i64 0) ∧ Al w' g hm wm lo hi (put n (a - 1, b) H) W ∧ Fr hm wm w w' := by
  have g2 := h.blk.cell 2
  have hlt : g < w.heap.size := (Array.getElem?_eq_some_iff.1 h.blk).1
  have hne : ¬ w.heap.size = g := by omega
  have k1 := look_some h hg
  have hp : 0 < a - 1 := by omega
  have hz : Hid (∀ o, Below w.heap.size w (w.alloc o)) := fun o => below_al (Below.refl _ _)
  obtain ⟨F, hF⟩ := Classical.skolem.1 (fun o => up_held (h.on (below_dr (hz.out o))) n (a - 1) b)
  have hF1 := fun o => (hF o).1
  have hF2 : Hid (∀ o, Al (setBlock (w.alloc o).drew hm (F o)) g hm wm lo hi (put n (a - 1, b) H) W) := fun o => (hF o).2
  clear hg hF
  go_enter Try.func12, Try.ntmps12
  go_wp2
  go_region
  all_goals
    go_wp2
    go_ret
    exact ⟨rfl, hF2.out _, (Fr.of (below_dr (hz.out _))).trans (Fr.held _ _ _ _)⟩
theorem drop_last (g hm wm : Nat) (lo hi n gen a b : Int) (H : Hs) (W : Ws) (w : World) (h : Al w g hm wm lo hi H W) (hg : get n H = some (a, b)) (ha0 : 0 ≤ a) (ha : a ≤ 1) :
    Calls Try.prog 12 #[.pointer (some ⟨g, 0, none⟩), .int .i64 n, .int .i64 gen] w fun e w' => e = .returned (.int .i64 0) ∧ Al w' g hm wm lo hi (del n H) (if b = gen then W else put n gen W) ∧ Fr hm wm w w' := by
  have g2 := h.blk.cell 2
  have g3 := h.blk.cell 3
  have hlt : g < w.heap.size := (Array.getElem?_eq_some_iff.1 h.blk).1
  have hne : ¬ w.heap.size = g := by omega
  have k1 := look_some h hg
  have hp : ¬ 0 < a - 1 := by omega
  have hz : Hid (∀ o, Below w.heap.size w (w.alloc o)) := fun o => below_al (Below.refl _ _)
  have hml : hm < w.heap.size := by
    obtain ⟨es, c, k, _⟩ := h.held
    exact (Array.getElem?_eq_some_iff.1 k).1
  have hc1 : ∀ V o j, (setBlock V hm o).cell? ⟨w.heap.size, j, none⟩ = V.cell? ⟨w.heap.size, j, none⟩ := fun V o j => cell_setBlock V _ _ o j (by omega)
  have hc2 : ∀ V o j, (setBlock V hm o).cell? ⟨g, j, none⟩ = V.cell? ⟨g, j, none⟩ := fun V o j => cell_setBlock V _ _ o j h.ne.2.1
  obtain ⟨F, hF⟩ := Classical.skolem.1 (fun p : Obj × TypeId => del_held (h.on (hz.out p.1)) n p.2)
  have hF1 : ∀ o ty, (Builtin.delete_ #[47, 3] ty #[.map (some hm), .int .i64 n]).run Try.prog (w.alloc o) = .ok (.tuple #[]) (setBlock (w.alloc o) hm (F (o, ty))) := fun o ty => (hF (o, ty)).1
  have hF2 : Hid (∀ p : Obj × TypeId, Al (setBlock (w.alloc p.1) hm (F p)) g hm wm lo hi (del n H) W) := fun o => (hF o).2
  by_cases hbg : b = gen
  · subst hbg
    rw [if_pos rfl]
    clear hg hF
    go_enter Try.func12, Try.ntmps12
    go_wp2
    go_ret
    exact ⟨rfl, hF2.out (_, _), (Fr.of (hz.out _)).trans (Fr.held _ _ _ _)⟩
  · obtain ⟨G, hG⟩ := Classical.skolem.1 (fun p : Obj × TypeId => up_waits (hF2.out p) n gen)
    have hG1 : ∀ o ty, (Instr.mapUpdate 48 (.map (some wm)) (.int .i64 n) (.int .i64 gen)).run Try.prog (setBlock (w.alloc o) hm (F (o, ty))) = .ok () (setBlock (setBlock (w.alloc o) hm (F (o, ty))) wm (G (o, ty))) := fun o ty => (hG (o, ty)).1
    have hG2 : Hid (∀ p : Obj × TypeId, Al (setBlock (setBlock (w.alloc p.1) hm (F p)) wm (G p)) g hm wm lo hi (del n H) (put n gen W)) := fun o => (hG o).2
    have hbe : (b != gen) = true := by rw [bne_iff_ne]; exact hbg
    rw [if_neg hbg]
    clear hg hF hG
    go_enter Try.func12, Try.ntmps12
    go_wp2
    go_ret
    exact ⟨rfl, hG2.out (_, _), ((Fr.of (hz.out _)).trans (Fr.held _ _ _ _)).trans (Fr.waits _ _ _ _)⟩
end Go.Proofs.Ytbbegbiiaabmgaa
