/- AllocOnce: the walk. -/
import Derived.Test.YtbbegbiiaabmgaaWkK
import Derived.Deep.LoopGhost
import Derived.RegionTactic
import Derived.ChangeAlike
namespace Go.Proofs.Ytbbegbiiaabmgaa
open Go.RowKit Mp

theorem once_out (sec : Int) (oa : Option Addr) (len cap : Nat) (w : World) (h : sec < 0 ∨ ¬ sec < 0 ∧ 40 < sec ∨ ¬ sec < 0 ∧ ¬ 40 < sec ∧ 200 < (len : Int)) (_hl : len ≤ 9223372036854775807) :
    Calls Try.prog 3 #[.int .i64 sec, .slice oa len cap] w fun e w' => e = .returned (.bool true) ∧ Below w.heap.size w w' := by
  rcases h with h | ⟨h, h2⟩ | ⟨h, h2, h3⟩
  all_goals
    go_enter Try.func3, Try.ntmps3
    go_wp2_with (go_at_call 8; refine (awake_any _).mono ?_; rintro e w1 ⟨rfl, hb1⟩)
    go_ret
    exact ⟨rfl, hb1⟩
theorem take_full (g hm wm : Nat) (lo hi gen : Int) (H : Hs) (W : Ws) (w : World) (h : Al w g hm wm lo hi H W) (hb : 0 ≤ lo ∧ lo ≤ hi ∧ hi ≤ 4096) (hf : ∀ m, lo ≤ m → m < hi → busyB m H W = true) :
    Calls Try.prog 10 #[.pointer (some ⟨g, 0, none⟩), .int .i64 gen] w fun e w' => e = .returned (.tuple #[.int .i64 0, .int .i64 50]) ∧ Al w' g hm wm lo hi H W ∧ Fr hm wm w w' := by
  refine (take_any g hm wm lo hi gen H W w h hb).mono fun e w' k => ?_
  rcases k with ⟨n, n0, n1, n2, _⟩ | ⟨_, k⟩
  · rw [hf n n0 n1] at n2; cases n2
  · exact k
theorem take_some (g hm wm : Nat) (lo hi gen : Int) (H : Hs) (W : Ws) (w : World) (h : Al w g hm wm lo hi H W) (hb : 0 ≤ lo ∧ lo ≤ hi ∧ hi ≤ 4096) (hf : ¬ ∀ m, lo ≤ m → m < hi → busyB m H W = true) :
    Calls Try.prog 10 #[.pointer (some ⟨g, 0, none⟩), .int .i64 gen] w fun e w' => ∃ n : Nat, lo ≤ (n : Int) ∧ (n : Int) < hi ∧ Hid (busyB n H W = false) ∧ Hid (∀ m, lo ≤ m → m < (n : Int) → busyB m H W = true) ∧ e = .returned (.tuple #[.int .i64 (n : Int), .int .i64 0]) ∧ Al w' g hm wm lo hi (put (n : Int) (1, gen) H) W ∧ Fr hm wm w w' := by
  refine (take_any g hm wm lo hi gen H W w h hb).mono fun e w' k => ?_
  rcases k with ⟨n, n0, n1, n2, n3, k⟩ | ⟨k, _⟩
  · obtain ⟨a, rfl⟩ : ∃ a : Nat, n = a := ⟨n.toNat, by omega⟩
    exact ⟨a, n0, n1, n2, n3, k⟩
  · exact absurd k hf
theorem room_zero (g hm wm : Nat) (lo hi : Int) (H : Hs) (W : Ws) (w : World) (h : Al w g hm wm lo hi H W) (hb : 0 ≤ lo ∧ lo ≤ hi ∧ hi ≤ 4096) (hH : H.length ≤ 4096) (hW : W.length ≤ 4096) (h0 : hi - lo - H.length - W.length = 0) :
    Calls Try.prog 11 #[.pointer (some ⟨g, 0, none⟩)] w fun e w' => e = .returned (.int .i64 0) ∧ Below w.heap.size w w' := by
  have := room_any g hm wm lo hi H W w h hb hH hW
  rw [h0] at this
  exact this
/-- What stands at the head of each round. -/
structure Once (B hm : Nat) (sec : Nat) (w : World) (hd wt : Nat → Bool) (bn un : Nat → Int) (H : Hs) (W : Ws) : Prop where
  bk : Books B w hd wt bn un
  al : Al w (hm + 2) hm (hm + 1) 2 (2 + sec) H W
  inv : Inv 2 (2 + sec) H W
  disj : Disj H W
  ok : Right hd wt bn un H W
def OnceE (B hm sec : Nat) (w : World) : Prop := ∃ hd wt bn un H W, Once B hm sec w hd wt bn un H W
/-- A call's own copy, in a later world. -/
theorem copy_at {hm wm : Nat} {w w' : World} {cs : Array Value} {t : TypeId} (k : Fr hm wm (w.alloc (.cells cs t)) w') (h1 : hm < w.heap.size) (h2 : wm < w.heap.size) : Blk w' w.heap.size t cs := Blk.fr (Blk.new' _ _ rfl) k (by omega) (by omega)
theorem Books.set1 {B : Nat} {w : World} {hd wt : Nat → Bool} {bn un : Nat → Int} (h : Books B w hd wt bn un) (n : Nat) (v : Bool) : Books B (w.setCell ⟨B, n, none⟩ (.bool v)) (upd hd n v) wt bn un :=
  ⟨(h.a1.set n (.bool v)).same fun i _ => by unfold upd; split <;> rfl, Blk.oth h.a2 (by omega) _ _, Blk.oth h.a3 (by omega) _ _, Blk.oth h.a4 (by omega) _ _⟩
theorem Books.set2 {B : Nat} {w : World} {hd wt : Nat → Bool} {bn un : Nat → Int} (h : Books B w hd wt bn un) (n : Nat) (v : Bool) : Books B (w.setCell ⟨B + 1, n, none⟩ (.bool v)) hd (upd wt n v) bn un :=
  ⟨Blk.oth h.a1 (by omega) _ _, (h.a2.set n (.bool v)).same fun i _ => by unfold upd; split <;> rfl, Blk.oth h.a3 (by omega) _ _, Blk.oth h.a4 (by omega) _ _⟩
theorem Books.set3 {B : Nat} {w : World} {hd wt : Nat → Bool} {bn un : Nat → Int} (h : Books B w hd wt bn un) (n : Nat) (v : Int) : Books B (w.setCell ⟨B + 1 + 1, n, none⟩ (.int .i64 v)) hd wt (upd bn n v) un :=
  ⟨Blk.oth h.a1 (by omega) _ _, Blk.oth h.a2 (by omega) _ _, (h.a3.set n (.int .i64 v)).same fun i _ => by unfold upd; split <;> rfl, Blk.oth h.a4 (by omega) _ _⟩
theorem Books.set4 {B : Nat} {w : World} {hd wt : Nat → Bool} {bn un : Nat → Int} (h : Books B w hd wt bn un) (n : Nat) (v : Int) : Books B (w.setCell ⟨B + 1 + 1 + 1, n, none⟩ (.int .i64 v)) hd wt bn (upd un n v) :=
  ⟨Blk.oth h.a1 (by omega) _ _, Blk.oth h.a2 (by omega) _ _, Blk.oth h.a3 (by omega) _ _, (h.a4.set n (.int .i64 v)).same fun i _ => by unfold upd; split <;> rfl⟩
theorem Books.drew {B : Nat} {w : World} {hd wt : Nat → Bool} {bn un : Nat → Int} (h : Books B w hd wt bn un) : Books B w.drew hd wt bn un := ⟨h.a1, h.a2, h.a3, h.a4⟩
/-- A world in the midst of a round: the books, the allocator, the call's own copy. -/
structure Mid (B hm q : Nat) (sec : Int) (w w' : World) (x y z : Int) (hd wt : Nat → Bool) (bn un : Nat → Int) (H : Hs) (W : Ws) : Prop where
  bk : Books B w' hd wt bn un
  al : Al w' (hm + 2) hm (hm + 1) 2 (2 + sec) H W
  lc : Blk w' q 31 #[.int .i64 x, .int .i64 y, .int .i64 z]
  bl : Below w.heap.size w w'
  far : w.heap.size ≤ hm ∧ hm + 2 < B ∧ B + 4 ≤ q
theorem Mid.q {B hm q : Nat} {sec : Int} {w w' : World} {x y z : Int} {hd wt : Nat → Bool} {bn un : Nat → Int} {H : Hs} {W : Ws} (h : Mid B hm q sec w w' x y z hd wt bn un H W) : q < w'.heap.size := (Array.getElem?_eq_some_iff.1 h.lc).1
theorem Mid.drew {B hm q : Nat} {sec : Int} {w w' : World} {x y z : Int} {hd wt : Nat → Bool} {bn un : Nat → Int} {H : Hs} {W : Ws} (h : Mid B hm q sec w w' x y z hd wt bn un H W) : Mid B hm q sec w w'.drew x y z hd wt bn un H W :=
  ⟨h.bk.drew, h.al.drew, h.lc, h.bl.drew, h.far⟩
theorem Mid.set1 {B hm q : Nat} {sec : Int} {w w' : World} {x y z : Int} {hd wt : Nat → Bool} {bn un : Nat → Int} {H : Hs} {W : Ws} (h : Mid B hm q sec w w' x y z hd wt bn un H W) (n : Nat) (v : Bool) : Mid B hm q sec w (w'.setCell ⟨B, n, none⟩ (.bool v)) x y z (upd hd n v) wt bn un H W :=
  have := h.far; ⟨h.bk.set1 n v, h.al.oth (by omega) (by omega) (by omega) _ _, h.lc.oth (by omega) _ _, h.bl.setCell (by show _ ≤ B; omega) _, h.far⟩
theorem Mid.set2 {B hm q : Nat} {sec : Int} {w w' : World} {x y z : Int} {hd wt : Nat → Bool} {bn un : Nat → Int} {H : Hs} {W : Ws} (h : Mid B hm q sec w w' x y z hd wt bn un H W) (n : Nat) (v : Bool) : Mid B hm q sec w (w'.setCell ⟨B + 1, n, none⟩ (.bool v)) x y z hd (upd wt n v) bn un H W :=
  have := h.far; ⟨h.bk.set2 n v, h.al.oth (by omega) (by omega) (by omega) _ _, h.lc.oth (by omega) _ _, h.bl.setCell (by show _ ≤ B + 1; omega) _, h.far⟩
theorem Mid.set3 {B hm q : Nat} {sec : Int} {w w' : World} {x y z : Int} {hd wt : Nat → Bool} {bn un : Nat → Int} {H : Hs} {W : Ws} (h : Mid B hm q sec w w' x y z hd wt bn un H W) (n : Nat) (v : Int) : Mid B hm q sec w (w'.setCell ⟨B + 1 + 1, n, none⟩ (.int .i64 v)) x y z hd wt (upd bn n v) un H W :=
  have := h.far; ⟨h.bk.set3 n v, h.al.oth (by omega) (by omega) (by omega) _ _, h.lc.oth (by omega) _ _, h.bl.setCell (by show _ ≤ B + 1 + 1; omega) _, h.far⟩
theorem Mid.set4 {B hm q : Nat} {sec : Int} {w w' : World} {x y z : Int} {hd wt : Nat → Bool} {bn un : Nat → Int} {H : Hs} {W : Ws} (h : Mid B hm q sec w w' x y z hd wt bn un H W) (n : Nat) (v : Int) : Mid B hm q sec w (w'.setCell ⟨B + 1 + 1 + 1, n, none⟩ (.int .i64 v)) x y z hd wt bn (upd un n v) H W :=
  have := h.far; ⟨h.bk.set4 n v, h.al.oth (by omega) (by omega) (by omega) _ _, h.lc.oth (by omega) _ _, h.bl.setCell (by show _ ≤ B + 1 + 1 + 1; omega) _, h.far⟩
/-- What the walk may read of a sector in such a world. -/
structure Reads (B q n : Nat) (w : World) (x y z : Int) (a b : Bool) (c d : Int) : Prop where
  e1 : w.cell? ⟨B, n, none⟩ = some (.bool a)
  e2 : w.cell? ⟨B + 1, n, none⟩ = some (.bool b)
  e3 : w.cell? ⟨B + 1 + 1, n, none⟩ = some (.int .i64 c)
  e4 : w.cell? ⟨B + 1 + 1 + 1, n, none⟩ = some (.int .i64 d)
  f1 : w.frozen? ⟨B, n, none⟩ = false
  f2 : w.frozen? ⟨B + 1, n, none⟩ = false
  f3 : w.frozen? ⟨B + 1 + 1, n, none⟩ = false
  f4 : w.frozen? ⟨B + 1 + 1 + 1, n, none⟩ = false
  l1 : w.cell? ⟨q, 1, none⟩ = some (.int .i64 y)
  l2 : w.cell? ⟨q, 2, none⟩ = some (.int .i64 z)
theorem Mid.reads {B hm q : Nat} {sec : Int} {w w' : World} {x y z : Int} {hd wt : Nat → Bool} {bn un : Nat → Int} {H : Hs} {W : Ws} (h : Mid B hm q sec w w' x y z hd wt bn un H W) {n : Nat} (hn : n < 50) : Reads B q n w' x y z (hd n) (wt n) (bn n) (un n) :=
  ⟨h.bk.a1.cell hn rfl, h.bk.a2.cell hn rfl, h.bk.a3.cell hn rfl, h.bk.a4.cell hn rfl, h.bk.a1.free n, h.bk.a2.free n, h.bk.a3.free n, h.bk.a4.free n, h.lc.cell 1, h.lc.cell 2⟩
theorem Once.mid {B hm sec : Nat} {w wr w3 : World} {x y z : Int} {hd wt : Nat → Bool} {bn un : Nat → Int} {H H' : Hs} {W W' : Ws} (h : Once B hm sec wr hd wt bn un H W) (hB : Below w.heap.size w wr) (hs : w.heap.size ≤ hm ∧ hm + 2 < B) (hz : B + 4 ≤ wr.heap.size)
    (hA : Al w3 (hm + 2) hm (hm + 1) 2 (2 + sec) H' W') (hF : Fr hm (hm + 1) (wr.alloc (.cells #[.int .i64 x, .int .i64 y, .int .i64 z] 31)) w3) : Mid B hm wr.heap.size sec w w3 x y z hd wt bn un H' W' :=
  ⟨(h.bk.on (below_al (Below.refl _ _))).fr hF (by omega) (by omega), hA, copy_at hF (by omega) (by omega), (hB.alloc hB.size _).trans (hF.below hs.1 (by omega) (hB.alloc hB.size _).size), hs.1, hs.2, hz⟩
theorem Mid.done {B hm q sec : Nat} {w w' : World} {x y z : Int} {hd wt : Nat → Bool} {bn un : Nat → Int} {H : Hs} {W : Ws} (h : Mid B hm q sec w w' x y z hd wt bn un H W) (h1 : Inv 2 (2 + sec) H W) (h2 : Disj H W) (h3 : Right hd wt bn un H W) :
    OnceE B hm sec w' ∧ B + 4 ≤ w'.heap.size ∧ Below w.heap.size w w' := ⟨⟨hd, wt, bn, un, H, W, h.bk, h.al, h1, h2, h3⟩, by have := h.q; have := h.far; omega, h.bl⟩
theorem Mid.al_to {B hm q sec : Nat} {w w' w'' : World} {x y z : Int} {hd wt : Nat → Bool} {bn un : Nat → Int} {H H' : Hs} {W W' : Ws} (h : Mid B hm q sec w w' x y z hd wt bn un H W) (hA : Al w'' (hm + 2) hm (hm + 1) 2 (2 + sec) H' W') (hF : Fr hm (hm + 1) w' w'') : Mid B hm q sec w w'' x y z hd wt bn un H' W' :=
  have := h.far
  ⟨h.bk.fr hF (by omega) (by omega), hA, h.lc.fr hF (by omega) (by omega), h.bl.trans (hF.below (by omega) (by omega) h.bl.size), h.far⟩
theorem Mid.on {B hm q sec : Nat} {w w' w'' : World} {x y z : Int} {hd wt : Nat → Bool} {bn un : Nat → Int} {H : Hs} {W : Ws} (h : Mid B hm q sec w w' x y z hd wt bn un H W) (hb : Below w'.heap.size w' w'') : Mid B hm q sec w w'' x y z hd wt bn un H W := h.al_to (h.al.on hb) (Fr.of hb)
theorem Once.alloc {B hm sec : Nat} {w wr : World} {x y z : Int} {hd wt : Nat → Bool} {bn un : Nat → Int} {H : Hs} {W : Ws} (h : Once B hm sec wr hd wt bn un H W) (hB : Below w.heap.size w wr) (hs : w.heap.size ≤ hm ∧ hm + 2 < B) (hz : B + 4 ≤ wr.heap.size) :
    Mid B hm wr.heap.size sec w (wr.alloc (.cells #[.int .i64 x, .int .i64 y, .int .i64 z] 31)) x y z hd wt bn un H W := h.mid hB hs hz (h.al.on (below_al (Below.refl _ _))) (Fr.refl _ _ _)
theorem not_busy {n : Int} {H : Hs} {W : Ws} (h : busyB n H W = false) : Mp.get n H = none ∧ Mp.get n W = none := by
  unfold busyB at h
  cases hg : Mp.get n H <;> cases hw : Mp.get n W <;> simp_all
theorem Right.free {hd wt : Nat → Bool} {bn un : Nat → Int} {H : Hs} {W : Ws} (h : Right hd wt bn un H W) {n : Nat} (hn : n < 50) (hb : busyB n H W = false) : hd n = false ∧ wt n = false := by
  obtain ⟨h1, h2⟩ := not_busy hb
  have h3 := h.held n hn
  have h4 := h.waits n hn
  rw [h1] at h3
  rw [h2] at h4
  constructor
  · cases hx : hd n with | false => rfl | true => rw [hx] at h3; simp at h3
  · cases hx : wt n with | false => rfl | true => rw [hx] at h4; simp at h4
/-- What waits, when the first so many have been looked at. -/
def half (wt : Nat → Bool) (un : Nat → Int) (g : Int) (j : Nat) : Nat → Bool := fun i => if i < j then wt i && decide (g < un i) else wt i
theorem half_at (wt : Nat → Bool) (un : Nat → Int) (g : Int) (j : Nat) : half wt un g j j = wt j := by simp [half]
theorem half_zero (wt : Nat → Bool) (un : Nat → Int) (g : Int) : half wt un g 0 = wt := by funext i; simp [half]
theorem half_succ (wt : Nat → Bool) (un : Nat → Int) (g : Int) (j : Nat) (v : Bool) (hv : v = (wt j && decide (g < un j))) : upd (half wt un g j) j v = half wt un g (j + 1) := by
  funext i
  subst hv
  unfold upd half
  by_cases e : i = j
  · subst e; simp
  · by_cases h : i < j
    · have : i < j + 1 := by omega
      simp [e, h, this]
    · have : ¬ i < j + 1 := by omega
      simp [e, h, this]
theorem Right.half {hd wt : Nat → Bool} {bn un : Nat → Int} {H : Hs} {W : Ws} {g : Int} (h : Right hd (fun i => wt i && decide (g < un i)) bn un H W) : Right hd (half wt un g 50) bn un H W :=
  ⟨h.held, fun n hn => by rw [h.waits n hn]; unfold Ytbbegbiiaabmgaa.half; rw [if_pos hn]⟩
theorem Books.new (w : World) (B : Nat) (h : w.heap.size = B) (c1 c2 c3 c4 : Array Value) (h1 : c1 = Array.ofFn (n := 50) fun _ => .bool false) (h2 : c2 = Array.ofFn (n := 50) fun _ => .bool false) (h3 : c3 = Array.ofFn (n := 50) fun _ => .int .i64 0) (h4 : c4 = Array.ofFn (n := 50) fun _ => .int .i64 0) :
    Books B ((((w.alloc (.cells c1 28)).alloc (.cells c2 28)).alloc (.cells c3 29)).alloc (.cells c4 29)) (fun _ => false) (fun _ => false) (fun _ => 0) (fun _ => 0) := by
  subst h h1 h2 h3 h4
  exact ⟨((Blk.on (Blk.new' _ _ rfl) (below_al (Below.refl _ _))).on (below_al (Below.refl _ _))).on (below_al (Below.refl _ _)),
    ((Blk.new' _ _ (by simp)).on (below_al (Below.refl _ _))).on (below_al (Below.refl _ _)),
    (Blk.new' _ _ (by simp)).on (below_al (Below.refl _ _)), Blk.new' _ _ (by simp)⟩
theorem Right.new : Right (fun _ => false) (fun _ => false) (fun _ => 0) (fun _ => 0) [] [] := ⟨fun _ _ => rfl, fun _ _ => rfl⟩
theorem Once.got {B hm sec : Nat} {w : World} {hd wt : Nat → Bool} {bn un : Nat → Int} {H : Hs} {W : Ws} (h : Once B hm sec w hd wt bn un H W) (hs : sec ≤ 40) {s : Int} {p : Int × Int} (hg : Mp.get s H = some p) :
    ∃ n : Nat, s = n ∧ n < 50 ∧ 2 ≤ n ∧ n < 2 + sec ∧ hd n = true ∧ p = (1, bn n) ∧ wt n = false ∧ Mp.get s W = none := by
  have h1 := h.inv.hin _ (get_mem hg)
  have r1 : (2 : Int) ≤ s := h1.1
  have r2 : s < 2 + sec := h1.2.1
  obtain ⟨n, rfl⟩ : ∃ n : Nat, s = n := ⟨s.toNat, by omega⟩
  have h2 := h.ok.held n (by omega)
  have h3 := h.ok.waits n (by omega)
  have h4 := h.disj n
  rw [hg] at h2 h4
  have h5 : Mp.get (n : Int) W = none := by cases hx : Mp.get (n : Int) W with | none => rfl | some v => rw [hx] at h4; cases h4
  rw [h5] at h3
  refine ⟨n, rfl, by omega, by omega, by omega, ?_, ?_, ?_, h5⟩
  · cases hx : hd n with | true => rfl | false => rw [hx] at h2; simp at h2
  · cases hx : hd n with
    | true => rw [hx, if_pos rfl] at h2; exact Option.some.inj h2
    | false => rw [hx] at h2; simp at h2
  · cases hx : wt n with | false => rfl | true => rw [hx] at h3; simp at h3

set_option maxHeartbeats 2000000 in
set_option maxRecDepth 100000 in
theorem once_in (sec : Nat) (oa : Option Addr) (len cap : Nat) (w : World) (h : sec ≤ 40) (hl : len ≤ 200) (_hlc : len ≤ cap) (hc : Hid (Sc w oa len)) :
    Calls Try.prog 3 #[.int .i64 (sec : Int), .slice oa len cap] w fun e w' => e = .returned (.bool true) ∧ Below w.heap.size w w' := by
  go_enter Try.func3, Try.ntmps3
  go_wp2_with (first
    | (go_at_call 9; refine (new_ok 2 (2 + sec) _ (by omega) (by omega) (by omega)).mono ?_; rintro e w2 ⟨rfl, hA2, hb2⟩)
    | (go_at_call 8; refine (awake_any _).mono ?_; rintro e w1 ⟨rfl, hb1⟩))
  have hB2 := hb1.trans (hb2.mono hb1.size)
  have HS : Hid (w.heap.size ≤ w1.heap.size ∧ w1.heap.size + 2 < w2.heap.size) := ⟨hb1.size, (Array.getElem?_eq_some_iff.1 hA2.blk).1⟩
  clear hb2 hb1
  obtain ⟨hm, hhm⟩ : ∃ hm, w1.heap.size = hm := ⟨_, rfl⟩
  rw [hhm] at HS hA2
  rw [hhm]
  clear hhm
  obtain ⟨B, hBe⟩ : ∃ B, w2.heap.size = B := ⟨_, rfl⟩
  have HS : Hid (w.heap.size ≤ hm ∧ hm + 2 < B) := by rw [hBe] at HS; exact HS
  rw [hBe]
  have HBE := Lib.hid hBe
  clear hBe
  go_loopg [11] len (fun q i wr => ∃ k : Nat, k ≤ len ∧ q = len - k ∧ i = .int .i64 k ∧ OnceE B hm sec wr ∧ B + 4 ≤ wr.heap.size ∧ Below w.heap.size w wr)
  case atStart =>
    have hb4 := fun o1 o2 o3 o4 => below_al (o := o4) (below_al (o := o3) (below_al (o := o2) (below_al (o := o1) (Below.refl w2.heap.size w2))))
    exact ⟨0, by omega, by omega, rfl, ⟨_, _, _, _, _, _, Books.new w2 B HBE.out _ _ _ _ (by kernel_rfl) (by kernel_rfl) (by kernel_rfl) (by kernel_rfl), hA2.on (hb4 _ _ _ _), Inv.nil _ _, Disj.nil, Right.new⟩, by have := HBE.out; simp; omega, hB2.trans ((hb4 _ _ _ _).mono hB2.size)⟩
  case round =>
    obtain ⟨i, hi, rfl, rfl, ⟨hd, wt, bn, un, H, W, hO⟩, hsz, hB⟩ := hrel
    obtain ⟨wo, rfl⟩ : ∃ wo : World, wo = wr := ⟨_, rfl⟩
    have HZ := Lib.hid hsz
    have HQ : Hid (hm < wo.heap.size ∧ hm + 1 < wo.heap.size) := by have := HS.out; exact ⟨by omega, by omega⟩
    have hne0 : ¬ wo.heap.size = B := by omega
    have hne1 : ¬ wo.heap.size = B + 1 := by omega
    have hne2 : ¬ wo.heap.size = B + 1 + 1 := by omega
    have hne3 : ¬ wo.heap.size = B + 1 + 1 + 1 := by omega
    have hen0 : ¬ B = wo.heap.size := by omega
    have hen1 : ¬ B + 1 = wo.heap.size := by omega
    have hen2 : ¬ B + 1 + 1 = wo.heap.size := by omega
    have hen3 : ¬ B + 1 + 1 + 1 = wo.heap.size := by omega
    clear hsz
    by_cases hlt : i < len
    · obtain ⟨a, rfl, k, s, g, hat⟩ := hc.out.at hB hlt
      have c0 := hat.c0
      have c1 := hat.c1
      have c2 := hat.c2
      have HG0 : Hid (g ≤ 9223372036854775807) := hat.wg.2
      clear hat
      by_cases hk : k = 3
      · subst hk
        cases hg : Mp.get s H with
        | none =>
          have HG := Lib.hid hg
          clear hg
          go_wp2_with (go_at_call 12; refine (drop_free _ _ _ _ _ _ _ _ _ _ (hO.al.on (below_al (Below.refl _ _))) HG.out).mono ?_; rintro e w3 ⟨rfl, hA3, hF3⟩)
          have M := hO.mid hB HS.out HZ.out hA3 hF3
          go_roundg (len - (i + 1))
          case measure => omega
          case rel => exact ⟨i + 1, by omega, rfl, by go_num, M.done hO.inv hO.disj hO.ok⟩
        | some p =>
          obtain ⟨n, rfl, hn50, hn2, hns, hdn, hp, hwn, hgw⟩ := hO.got h hg
          subst hp
          have HG := Lib.hid hg
          have HW := Lib.hid hgw
          have HD := Lib.hid hdn
          clear hg hgw hdn hwn
          go_wp2_with (go_at_call 12; refine (drop_last _ _ _ _ _ _ _ _ _ _ _ _ (hO.al.on (below_al (Below.refl _ _))) HG.out (by omega) (by omega)).mono ?_; rintro e w3 ⟨rfl, hA3, hF3⟩; have M := hO.mid hB HS.out HZ.out hA3 hF3; have R := M.reads hn50; have e1 := R.e1.trans (congrArg (fun x => some (Value.bool x)) HD.out); have e2 := R.e2; have e3 := R.e3; have e4 := R.e4; have f1 := R.f1; have l1 := R.l1; have l2 := R.l2; clear R)
          obtain ⟨w4, hw4⟩ : ∃ w4, w3.setCell ⟨B, n, none⟩ (.bool false) = w4 := ⟨_, rfl⟩
          have M4 := M.set1 n false
          rw [hw4] at M4 ⊢
          clear hw4 hA3 hF3 M e1 e2 e3 e4 f1 l1 l2
          have R := M4.reads hn50
          obtain ⟨_, e2, e3, e4, _, f2, f3, f4, l1, l2⟩ := R
          go_region
          all_goals
            go_wp2
            go_roundg (len - (i + 1))
            case measure => omega
            case rel =>
              have M6 := ((M4.set2 n (bn n != g)).set4 n g).drew
              refine ⟨i + 1, by omega, rfl, by go_num, M6.done ?_ ?_ (hO.ok.drop hO.inv.hd n g (bn n) HW.out hn50)⟩
              · by_cases e : bn n = g
                · rw [if_pos e]; exact hO.inv.del _
                · rw [if_neg e]; exact (hO.inv.del _).wait g (by omega) (by omega) HG0.out
              · by_cases e : bn n = g
                · rw [if_pos e]; exact hO.disj.del hO.inv.hd _
                · rw [if_neg e]; exact hO.disj.wait hO.inv.hd _ _
      · by_cases hk0 : k = 0
        · subst hk0
          by_cases hf : ∀ m : Int, 2 ≤ m → m < 2 + sec → busyB m H W = true
          · have HF := Lib.hid hf
            have h0 : Hid ((2 : Int) + sec - 2 - (H.length : Int) - (W.length : Int) = 0) := full_room hO.inv hO.disj hf
            have hfew := few hO.inv
            have h1 : Hid (H.length ≤ 4096 ∧ W.length ≤ 4096) := by have := hfew; exact ⟨by omega, by omega⟩
            clear hf hfew
            go_wp2_with (first
              | (go_at_call 10; refine (take_full _ _ _ _ _ _ _ _ _ (hO.al.on (below_al (Below.refl _ _))) (by omega) HF.out).mono ?_; rintro e w3 ⟨rfl, hA3, hF3⟩; have M := hO.mid hB HS.out HZ.out hA3 hF3)
              | (go_at_call 11; refine (room_zero _ _ _ _ _ _ _ _ M.al (by omega) h1.out.1 h1.out.2 h0.out).mono ?_; rintro e w4 ⟨rfl, hb4⟩))
            have M4 := M.on hb4
            go_roundg (len - (i + 1))
            case measure => omega
            case rel => exact ⟨i + 1, by omega, rfl, by go_num, M4.done hO.inv hO.disj hO.ok⟩
          · have HF := Lib.hid hf
            clear hf
            go_wp2_with (go_at_call 10; refine (take_some _ _ _ _ _ _ _ _ _ (hO.al.on (below_al (Below.refl _ _))) (by omega) HF.out).mono ?_; rintro e w3 ⟨n, hn2, hns, hbz, _, rfl, hA3, hF3⟩; have M := hO.mid hB HS.out HZ.out hA3 hF3; have hn50 : n < 50 := (by omega); have R := M.reads hn50; have hfr := hO.ok.free hn50 hbz.out; have e1 := R.e1.trans (congrArg (fun x => some (Value.bool x)) hfr.1); have e2 := R.e2.trans (congrArg (fun x => some (Value.bool x)) hfr.2); have e3 := R.e3; have e4 := R.e4; have f1 := R.f1; have f3 := R.f3; have l1 := R.l1; have l2 := R.l2; clear R hfr)
            have M6 := (M.set1 n true).set3 n g
            go_roundg (len - (i + 1))
            case measure => omega
            case rel => exact ⟨i + 1, by omega, rfl, by go_num, M6.done (hO.inv.put (by omega) (by omega) (by omega) (by omega)) (hO.disj.take (by rw [(not_busy hbz.out).2]; rfl)) (hO.ok.take n g)⟩
        · by_cases hk4 : k = 4
          · subst hk4
            go_wp2
            have M := hO.alloc (x := 4) (y := s) (z := g) hB HS.out HZ.out
            go_loopg [15] 50 (fun q jv wi => ∃ j : Nat, j ≤ 50 ∧ q = 50 - j ∧ jv = .int .i64 j ∧ Mid B hm wo.heap.size sec w wi 4 s g hd (half wt un g j) bn un H W)
            case atStart => exact ⟨0, by omega, by omega, rfl, by rw [half_zero]; exact M⟩
            case round =>
              obtain ⟨j, hj, rfl, rfl, M2⟩ := hrel
              clear M
              by_cases hj50 : j < 50
              · obtain ⟨_, e2, e3, e4, _, f2, f3, f4, l1, l2⟩ := M2.reads hj50
                rw [half_at] at e2
                cases hwj : wt j with
                | false =>
                  rw [hwj] at e2
                  have HJ := Lib.hid hwj
                  clear hwj
                  go_wp2
                  go_region
                  all_goals
                    go_wp2
                    go_roundg (50 - (j + 1))
                    case measure => omega
                    case rel =>
                      have M6 := (M2.set2 j false).drew
                      rw [half_succ _ _ _ _ _ (by rw [HJ.out]; rfl)] at M6
                      exact ⟨j + 1, by omega, rfl, by go_num, M6⟩
                | true =>
                  rw [hwj] at e2
                  have HJ := Lib.hid hwj
                  clear hwj
                  go_wp2
                  go_region
                  all_goals
                    go_wp2
                    go_roundg (50 - (j + 1))
                    case measure => omega
                    case rel =>
                      have M6 := (M2.set2 j (decide (g < un j))).drew
                      rw [half_succ _ _ _ _ _ (by rw [HJ.out]; rfl)] at M6
                      exact ⟨j + 1, by omega, rfl, by go_num, M6⟩
              · have e : j = 50 := by omega
                subst e
                have l2 := M2.lc.cell 2
                go_wp2_with (go_at_call 13; refine (free_any _ _ _ _ _ _ sec _ _ _ M2.al (by omega) rfl).mono ?_; rintro e w5 ⟨rfl, hA5, hF5⟩)
                have M6 := M2.al_to hA5 hF5
                go_roundg (len - (i + 1))
                case measure => omega
                case rel => exact ⟨i + 1, by omega, rfl, by go_num, M6.done (hO.inv.freed g 2 sec) (hO.disj.freed g 2 sec hO.inv.wd) (hO.ok.freed hO.inv g).half⟩
          · go_wp2
            have M := hO.alloc (x := k) (y := s) (z := g) hB HS.out HZ.out
            go_roundg (len - (i + 1))
            case measure => omega
            case rel => exact ⟨i + 1, by omega, rfl, by go_num, M.done hO.inv hO.disj hO.ok⟩
    · go_wp2
      go_ret
      exact ⟨rfl, hB⟩
theorem allocOnce_row (sec : Int) (v : Value) (len : Nat) (w : World) (_ : -9223372036854775808 ≤ sec ∧ sec ≤ 9223372036854775807) (hs : Script w v len) :
    Calls Try.prog 3 #[.int .i64 sec, v] w fun e w' => e = .returned (.bool true) ∧ Below w.heap.size w w' := by
  obtain ⟨oa, cap, rfl, h1, h2, h3⟩ := Sc.of hs
  unfold maxLen at h2
  by_cases h : sec < 0 ∨ 40 < sec ∨ 200 < len
  · exact once_out sec oa len cap w (by omega) (by omega)
  · obtain ⟨a, rfl⟩ : ∃ a : Nat, sec = a := ⟨sec.toNat, by omega⟩
    exact once_in a oa len cap w (by omega) (by omega) h1 h3
end Go.Proofs.Ytbbegbiiaabmgaa
