import Derived.Test.YtbbegbiiaabmgaaWkA
namespace Go.Proofs.Ytbbegbiiaabmgaa
open Go.RowKit Mp

theorem len_of {P : Program} {w : World} {t K E : TypeId} {b : Nat} {α : Type} {f : α → Value} {l : List (Int × α)} (ht : P.underlying t = some (.map K E)) (h : Mp w b f l) (ty : TypeId) :
    (Builtin.len_ #[t] ty #[.map (some b)]).run P w = .ok (.int .i64 (l.length : Int)) w := by
  obtain ⟨es, c, hb, hs⟩ := h.size
  simp [Builtin.len_, run_underlying ht, MapKept.run_getObj_map hb, Result.andThen, goInt, hs]

theorem new_bad (lo hi : Int) (w : World) (h : lo < 0 ∨ ¬ lo < 0 ∧ hi < lo ∨ ¬ lo < 0 ∧ ¬ hi < lo ∧ 4096 < hi) :
    Calls Try.prog 9 #[.int .i64 lo, .int .i64 hi] w fun e w' => e = .returned (.tuple #[.pointer none, .int .i64 1]) ∧ w = w' := by
  rcases h with h | ⟨h, h2⟩ | ⟨h, h2, h3⟩
  all_goals
    go_enter Try.func9, Try.ntmps9
    go_wp2
    go_ret2
    exact ⟨rfl, rfl⟩
theorem new_ok (lo hi : Int) (w : World) (h : ¬ lo < 0) (h2 : ¬ hi < lo) (h3 : ¬ 4096 < hi) :
    Calls Try.prog 9 #[.int .i64 lo, .int .i64 hi] w fun e w' => e = .returned (.tuple #[.pointer (some ⟨w.heap.size + 2, 0, none⟩), .int .i64 0]) ∧ Al w' (w.heap.size + 2) w.heap.size (w.heap.size + 1) lo hi [] [] ∧ Below w.heap.size w w' := by
  have hmm := @run_makeMap Try.prog
  go_enter Try.func9, Try.ntmps9
  go_wp2
  go_ret2
  refine ⟨rfl, ⟨Blk.new' _ _ (by simp), ?_, ?_, by omega, by omega, by omega⟩, below_al (below_al (below_al (Below.refl _ _)))⟩
  · exact (Mp.made w hv).same (Below.block (below_al (below_al (Below.refl _ _))) w.heap.size (by simp))
  · have := Mp.made (w.alloc (.map #[] 0)) wv
    rw [show (w.alloc (.map #[] 0)).heap.size = w.heap.size + 1 by simp] at this
    exact this.same (Below.block (below_al (Below.refl _ _)) (w.heap.size + 1) (by simp))
theorem field0 (a b : Int) (w : World) : (Instr.field 53 (.agg #[.int .i64 a, .int .i64 b]) 0).run Try.prog w = .ok (.int .i64 a) w := by kernel_rfl
theorem count_any (g hm wm : Nat) (lo hi n : Int) (H : Hs) (W : Ws) (w : World) (h : Al w g hm wm lo hi H W) :
    Calls Try.prog 15 #[.pointer (some ⟨g, 0, none⟩), .int .i64 n] w fun e w' => e = .returned (.int .i64 ((get n H).getD (0, 0)).1) ∧ w = w' := by
  have g2 := h.blk.cell 2
  have k1 := Go.Proofs.Mp.look Try.underlying47 Try.underlying3 (zero53 w) h.held n
  unfold hv at k1
  have hf := field0
  go_enter Try.func15, Try.ntmps15
  go_wp2
  go_ret
  exact ⟨by simp, rfl⟩
theorem wait_any (g hm wm : Nat) (lo hi : Int) (H : Hs) (W : Ws) (w : World) (h : Al w g hm wm lo hi H W) :
    Calls Try.prog 16 #[.pointer (some ⟨g, 0, none⟩)] w fun e w' => e = .returned (.int .i64 (W.length : Int)) ∧ w = w' := by
  have g3 := h.blk.cell 3
  have k1 := len_of Try.underlying48 h.waits
  go_enter Try.func16, Try.ntmps16
  go_wp2
  go_ret
  exact ⟨by simp, rfl⟩
theorem room_any (g hm wm : Nat) (lo hi : Int) (H : Hs) (W : Ws) (w : World) (h : Al w g hm wm lo hi H W) (hb : 0 ≤ lo ∧ lo ≤ hi ∧ hi ≤ 4096) (hH : H.length ≤ 4096) (hW : W.length ≤ 4096) :
    Calls Try.prog 11 #[.pointer (some ⟨g, 0, none⟩)] w fun e w' => e = .returned (.int .i64 (hi - lo - H.length - W.length)) ∧ Below w.heap.size w w' := by
  have g0 := h.blk.cell 0
  have g1 := h.blk.cell 1
  have g2 := h.blk.cell 2
  have g3 := h.blk.cell 3
  have k1 := len_of Try.underlying47 (h.held.same (w' := w.drew) rfl)
  have k2 := len_of Try.underlying48 (h.waits.same (w' := w.drew) rfl)
  go_enter Try.func11, Try.ntmps11
  go_wp2
  go_region
  all_goals
    go_wp2
    go_ret
    refine ⟨by simp, ?_⟩
    repeat (first | exact Below.refl _ _ | exact (Below.refl _ _).drew)
end Go.Proofs.Ytbbegbiiaabmgaa
