import Derived.Test.YtbbegbiiaabmgaaProg
import Derived.Test.YtbbegbiiaabmgaaMp
import Derived.WalkKit
import Derived.WalkSpells
import Derived.WalkLawsBesides
import Derived.Lib.Hide
import Derived.Deep.RegionWith
namespace Go.Proofs.Ytbbegbiiaabmgaa
open Go.RowKit Mp

theorem take_nil (gen : Int) (w : World) : Calls Try.prog 10 #[.pointer none, .int .i64 gen] w fun e w' => e = .returned (.tuple #[.int .i64 0, .int .i64 2]) ∧ w = w' := by
  go_enter Try.func10, Try.ntmps10
  go_wp2
  go_ret2
  exact ⟨rfl, rfl⟩
theorem mark_nil (n gen : Int) (w : World) : Calls Try.prog 19 #[.pointer none, .int .i64 n, .int .i64 gen] w fun e w' => e = .returned (.int .i64 2) ∧ w = w' := by
  go_enter Try.func19, Try.ntmps19
  go_wp2
  go_ret
  exact ⟨rfl, rfl⟩
theorem hold_nil (n : Int) (w : World) : Calls Try.prog 14 #[.pointer none, .int .i64 n] w fun e w' => e = .returned (.int .i64 2) ∧ w = w' := by
  go_enter Try.func14, Try.ntmps14
  go_wp2
  go_ret
  exact ⟨rfl, rfl⟩
theorem drop_nil (n gen : Int) (w : World) : Calls Try.prog 12 #[.pointer none, .int .i64 n, .int .i64 gen] w fun e w' => e = .returned (.int .i64 2) ∧ w = w' := by
  go_enter Try.func12, Try.ntmps12
  go_wp2
  go_ret
  exact ⟨rfl, rfl⟩
theorem free_nil (gen : Int) (w : World) : Calls Try.prog 13 #[.pointer none, .int .i64 gen] w fun e w' => e = .returned (.int .i64 0) ∧ w = w' := by
  go_enter Try.func13, Try.ntmps13
  go_wp2
  go_ret
  exact ⟨rfl, rfl⟩
theorem count_nil (n : Int) (w : World) : Calls Try.prog 15 #[.pointer none, .int .i64 n] w fun e w' => e = .returned (.int .i64 0) ∧ w = w' := by
  go_enter Try.func15, Try.ntmps15
  go_wp2
  go_ret
  exact ⟨rfl, rfl⟩
theorem room_nil (w : World) : Calls Try.prog 11 #[.pointer none] w fun e w' => e = .returned (.int .i64 0) ∧ w = w' := by
  go_enter Try.func11, Try.ntmps11
  go_wp2
  go_ret
  exact ⟨rfl, rfl⟩
theorem wait_nil (w : World) : Calls Try.prog 16 #[.pointer none] w fun e w' => e = .returned (.int .i64 0) ∧ w = w' := by
  go_enter Try.func16, Try.ntmps16
  go_wp2
  go_ret
  exact ⟨rfl, rfl⟩

/-- What is held, and what waits, as values. -/
def hv (p : Int × Int) : Value := .agg #[.int .i64 p.1, .int .i64 p.2]
def wv (n : Int) : Value := .int .i64 n
abbrev Hs := List (Int × (Int × Int))
abbrev Ws := List (Int × Int)
theorem zero53 (w : World) : (zeroValue 53).run Try.prog w = .ok (hv (0, 0)) w := by kernel_rfl
theorem zero3 (w : World) : (zeroValue 3).run Try.prog w = .ok (wv 0) w := by kernel_rfl
/-- A block, with its cells. -/
def Blk (w : World) (g : Nat) (t : TypeId) (cs : Array Value) : Prop := w.heap[g]? = some (.cells cs t (0, 0))
theorem Blk.cell {w : World} {g : Nat} {t : TypeId} {cs : Array Value} (h : Blk w g t cs) (j : Nat) : w.cell? ⟨g, j, none⟩ = cs[j]? := cell_of_row w g j cs t (0, 0) h
theorem Blk.free {w : World} {g : Nat} {t : TypeId} {cs : Array Value} (h : Blk w g t cs) (j : Nat) : w.frozen? ⟨g, j, none⟩ = false := frozen_of_row w g j cs t h
theorem Blk.new' {w : World} {g : Nat} (cs : Array Value) (t : TypeId) (h : w.heap.size = g) : Blk (w.alloc (.cells cs t (0, 0))) g t cs := by
  subst h; exact heap_alloc_new w _
/-- An allocator: its block, and its two maps. -/
structure Al (w : World) (g hm wm : Nat) (lo hi : Int) (H : Hs) (W : Ws) : Prop where
  blk : Blk w g 50 #[.int .i64 lo, .int .i64 hi, .map (some hm), .map (some wm)]
  held : Mp w hm hv H
  waits : Mp w wm wv W
  ne : hm ≠ wm ∧ g ≠ hm ∧ g ≠ wm
theorem Al.on {w w' : World} {g hm wm : Nat} {lo hi : Int} {H : Hs} {W : Ws} (h : Al w g hm wm lo hi H W) (hb : Below w.heap.size w w') : Al w' g hm wm lo hi H W := by
  have l1 : g < w.heap.size := (Array.getElem?_eq_some_iff.1 h.blk).1
  obtain ⟨es, c, k1, _⟩ := h.held
  obtain ⟨es', c', k2, _⟩ := h.waits
  have l2 : hm < w.heap.size := (Array.getElem?_eq_some_iff.1 k1).1
  have l3 : wm < w.heap.size := (Array.getElem?_eq_some_iff.1 k2).1
  exact ⟨(hb.block g l1).trans h.blk, h.held.same (hb.block hm l2), h.waits.same (hb.block wm l3), h.ne⟩
theorem below_al {w W : World} {o : Obj} (h : Below w.heap.size w W) : Below w.heap.size w (W.alloc o) := h.alloc h.size o

theorem busy_any (g hm wm : Nat) (lo hi n : Int) (H : Hs) (W : Ws) (w : World) (h : Al w g hm wm lo hi H W) :
    Calls Try.prog 27 #[.pointer (some ⟨g, 0, none⟩), .int .i64 n] w fun e w' => e = .returned (.bool ((get n H).isSome || (get n W).isSome)) ∧ Below w.heap.size w w' := by
  have g2 := h.blk.cell 2
  have g3 := h.blk.cell 3
  have hl : w.heap.size ≠ g := fun e => by
    have := (Array.getElem?_eq_some_iff.1 h.blk).1
    omega
  have hlt : g < w.heap.size := (Array.getElem?_eq_some_iff.1 h.blk).1
  have k1 := look_ok Try.underlying47 Try.underlying3 (zero53 w) h.held n
  have k2 : ∀ o, (Instr.lookup 48 (.map (some wm)) (.int .i64 n) true).run Try.prog (w.alloc o) = .ok (.tuple #[wv ((get n W).getD 0), .bool (get n W).isSome]) (w.alloc o) :=
    fun o => look_ok Try.underlying48 Try.underlying3 (zero3 _) (h.on (below_al (Below.refl _ _))).waits n
  obtain ⟨a, b, hab⟩ : ∃ a b, hv ((get n H).getD (0, 0)) = .agg #[.int .i64 a, .int .i64 b] := ⟨_, _, rfl⟩
  rw [hab] at k1
  clear hab
  go_enter Try.func27, Try.ntmps27
  go_wp2
  all_goals
    go_ret
    refine ⟨by simp_all, ?_⟩
    repeat (first | exact Below.refl _ _ | apply below_al)
end Go.Proofs.Ytbbegbiiaabmgaa
