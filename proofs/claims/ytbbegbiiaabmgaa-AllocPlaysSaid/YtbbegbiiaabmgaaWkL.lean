/- The document's answer: its memory, and New. -/
import Derived.Test.YtbbegbiiaabmgaaMp6
import Derived.Test.YtbbegbiiaabmgaaWkK
import Derived.Laws.MakeOwn
import Derived.Deep.QuietTactic
import Derived.BigQuiet
namespace Go.Proofs.Ytbbegbiiaabmgaa
open Go.RowKit Mp

/-- A row of so many sectors. -/
def Row (w : World) (lb d : Nat) (S : Ss) : Prop := ∃ cs : Array Value, Blk w lb 60 cs ∧ cs.size = d * 4 ∧
  ∀ i, i < d → cs[i * 4]? = some (.int .i64 (S i).c) ∧ cs[i * 4 + 1]? = some (.int .i64 (S i).b) ∧ cs[i * 4 + 2]? = some (.int .i64 (S i).f) ∧ cs[i * 4 + 3]? = some (.bool (S i).wt)
/-- The document's allocator. -/
structure Rf (w : World) (r lb : Nat) (lo : Int) (d : Nat) (S : Ss) : Prop where
  blk : Blk w r 58 #[.int .i64 lo, .slice (some ⟨lb, 0, none⟩) d d]
  row : Row w lb d S
  ne : r ≠ lb
theorem Row.same {w w' : World} {lb d : Nat} {S : Ss} (h : Row w lb d S) (k : w'.heap[lb]? = w.heap[lb]?) : Row w' lb d S := by
  obtain ⟨cs, h1, h2⟩ := h
  exact ⟨cs, k.trans h1, h2⟩
theorem Row.lt {w : World} {lb d : Nat} {S : Ss} (h : Row w lb d S) : lb < w.heap.size := by
  obtain ⟨cs, h1, _⟩ := h
  exact (Array.getElem?_eq_some_iff.1 h1).1
theorem Rf.on {w w' : World} {r lb d : Nat} {lo : Int} {S : Ss} (h : Rf w r lb lo d S) (k : Below w.heap.size w w') : Rf w' r lb lo d S := ⟨Blk.on h.blk k, h.row.same (k.block lb h.row.lt), h.ne⟩
theorem Rf.fr {w w' : World} {r lb d hm wm : Nat} {lo : Int} {S : Ss} (h : Rf w r lb lo d S) (k : Fr hm wm w w') (h1 : r ≠ hm) (h2 : r ≠ wm) (h3 : lb ≠ hm) (h4 : lb ≠ wm) : Rf w' r lb lo d S := ⟨Blk.fr h.blk k h1 h2, h.row.same (k.block lb h.row.lt h3 h4), h.ne⟩
theorem zero60 : (Try.prog.info? 60).map (fun i => (i.zero, i.size, i.bytes)) = some (some (.agg #[.int .i64 0, .int .i64 0, .int .i64 0, .bool false]), 4, 32) := by kernel_rfl
theorem made_at (z : Array Value) (n k : Nat) (h : k < n) : (madeCells z n)[k]? = some z[k % z.size]! := by
  unfold madeCells
  rw [Array.getElem?_map, Array.getElem?_range, if_pos h]
  rfl
theorem row_made (w : World) (d : Nat) : Row (w.alloc (.cells (madeCells (Value.agg #[.int .i64 0, .int .i64 0, .int .i64 0, .bool false]).cells (d * 4)) 60)) w.heap.size d (fun _ => ⟨0, 0, 0, false⟩) := by
  refine ⟨_, Blk.new' _ _ rfl, size_madeCells _ _, fun i hi => ?_⟩
  have hz : (Value.agg #[.int .i64 0, .int .i64 0, .int .i64 0, .bool false]).cells = #[.int .i64 0, .int .i64 0, .int .i64 0, .bool false] := rfl
  rw [hz]
  refine ⟨?_, ?_, ?_, ?_⟩
  · rw [made_at _ _ _ (by omega)]; have : i * 4 % 4 = 0 := by omega
    simp [this]
  · rw [made_at _ _ _ (by omega)]; have : (i * 4 + 1) % 4 = 1 := by omega
    simp [this]
  · rw [made_at _ _ _ (by omega)]; have : (i * 4 + 2) % 4 = 2 := by omega
    simp [this]
  · rw [made_at _ _ _ (by omega)]; have : (i * 4 + 3) % 4 = 3 := by omega
    simp [this]
theorem info60 (d : Nat) (hd : d ≤ 4096) (x : Int) (hx : x = d) (w : World) : (Instr.makeSlice 56 (.int .i64 x) (.int .i64 x)).run Try.prog w = .ok (.slice (some ⟨w.heap.size, 0, none⟩) d d) (w.alloc (.cells (madeCells (Value.agg #[.int .i64 0, .int .i64 0, .int .i64 0, .bool false]).cells (d * 4)) 60)) := by
  subst hx
  obtain ⟨i0, hi, hz0, hz1, hz2⟩ := info_parts zero60
  have := run_make (P := Try.prog) w 56 60 i0 _ Try.underlying56 hi hz0 .i64 .i64 (d : Int) (d : Int) (by omega) (by omega) (by rw [hz2]; show (32 : Int) * d ≤ _; omega) (by omega)
  rw [hz1] at this
  exact this
theorem rnew_bad (lo hi : Int) (w : World) (h : lo < 0 ∨ ¬ lo < 0 ∧ hi < lo ∨ ¬ lo < 0 ∧ ¬ hi < lo ∧ 4096 < hi) :
    Calls Try.prog 17 #[.int .i64 lo, .int .i64 hi] w fun e w' => e = .returned (.tuple #[.pointer none, .int .i64 1]) ∧ w = w' := by
  rcases h with h | ⟨h, h2⟩ | ⟨h, h2, h3⟩
  all_goals
    go_enter Try.func17, Try.ntmps17
    go_wp2
    go_ret2
    exact ⟨rfl, rfl⟩
theorem rnew_ok (lo hi : Int) (d : Nat) (w : World) (h : ¬ lo < 0) (h2 : ¬ hi < lo) (h3 : ¬ 4096 < hi) (hd : lo + d = hi) :
    Calls Try.prog 17 #[.int .i64 lo, .int .i64 hi] w fun e w' => e = .returned (.tuple #[.pointer (some ⟨w.heap.size + 1, 0, none⟩), .int .i64 0]) ∧ Rf w' (w.heap.size + 1) w.heap.size lo d (fun _ => ⟨0, 0, 0, false⟩) ∧ Below w.heap.size w w' := by
  have hmk := info60 d (by omega) (hi - lo) (by omega)
  have HD := Lib.hid hd
  clear hd
  go_enter Try.func17, Try.ntmps17
  go_wp2
  go_ret2
  refine ⟨rfl, ⟨Blk.new' _ _ (by simp), (row_made w d).same (Below.block (below_al (Below.refl _ _)) w.heap.size (by simp)), by omega⟩, below_al (below_al (Below.refl _ _))⟩
theorem rat_in (r lb : Nat) (lo n : Int) (d : Nat) (S : Ss) (w : World) (h : Rf w r lb lo d S) (hb : 0 ≤ lo ∧ lo + d ≤ 4096) (h1 : lo ≤ n) (h2 : n < lo + d) :
    Calls Try.prog 28 #[.pointer (some ⟨r, 0, none⟩), .int .i64 n] w fun e w' => e = .returned (.int .i64 (n - lo)) ∧ ∃ k, w' = w.drewN k := by
  have g0 := h.blk.cell 0
  have g1 := h.blk.cell 1
  have hd1 : decide (n < lo) = false := by simpa using h1
  go_enter Try.func28, Try.ntmps28
  go_wp2
  go_quiet (fail)
  go_wp2
  go_ret
  exact ⟨rfl, _, rfl⟩
theorem rat_lo (r lb : Nat) (lo n : Int) (d : Nat) (S : Ss) (w : World) (h : Rf w r lb lo d S) (h1 : n < lo) :
    Calls Try.prog 28 #[.pointer (some ⟨r, 0, none⟩), .int .i64 n] w fun e w' => e = .returned (.int .i64 (-1)) ∧ ∃ k, w' = w.drewN k := by
  have g0 := h.blk.cell 0
  have g1 := h.blk.cell 1
  have hd1 : decide (n < lo) = true := by simpa using h1
  go_enter Try.func28, Try.ntmps28
  go_wp2
  go_quiet (fail)
  go_wp2
  go_ret
  exact ⟨rfl, _, rfl⟩
theorem rat_hi (r lb : Nat) (lo n : Int) (d : Nat) (S : Ss) (w : World) (h : Rf w r lb lo d S) (hb : 0 ≤ lo ∧ lo + d ≤ 4096) (h1 : lo ≤ n) (h2 : lo + d ≤ n) (hn : n ≤ 9223372036854775807) :
    Calls Try.prog 28 #[.pointer (some ⟨r, 0, none⟩), .int .i64 n] w fun e w' => e = .returned (.int .i64 (-1)) ∧ ∃ k, w' = w.drewN k := by
  have g0 := h.blk.cell 0
  have g1 := h.blk.cell 1
  have hd1 : decide (n < lo) = false := by simpa using h1
  go_enter Try.func28, Try.ntmps28
  go_wp2
  go_quiet (fail)
  go_wp2
  go_ret
  exact ⟨rfl, _, rfl⟩
/-- Nothing but block b has turned. -/
structure Only (b : Nat) (w w' : World) : Prop where
  os : w'.os = w.os
  tape : w'.tape = w.tape
  output : w'.output = w.output
  size : w'.heap.size = w.heap.size
  block : ∀ k, k ≠ b → w'.heap[k]? = w.heap[k]?
theorem Only.refl (b : Nat) (w : World) : Only b w w := ⟨rfl, rfl, rfl, rfl, fun _ _ => rfl⟩
theorem Only.trans {b : Nat} {w w1 w2 : World} (h : Only b w w1) (k : Only b w1 w2) : Only b w w2 :=
  ⟨k.os.trans h.os, k.tape.trans h.tape, k.output.trans h.output, k.size.trans h.size, fun i hi => (k.block i hi).trans (h.block i hi)⟩
theorem Only.drew {b : Nat} {w w1 : World} (h : Only b w w1) : Only b w w1.drew := ⟨h.os, h.tape, h.output, h.size, h.block⟩
theorem Only.drewN (b : Nat) (w : World) : ∀ n, Only b w (w.drewN n)
  | 0 => Only.refl b w
  | n + 1 => (Only.drewN b w n).drew
theorem Only.set {b : Nat} {w w1 : World} (h : Only b w w1) (j : Nat) (v : Value) : Only b w (w1.setCell ⟨b, j, none⟩ v) :=
  ⟨h.os, h.tape, h.output, by simp [h.size], fun i hi => (heap_setCell_other _ _ _ _ hi).trans (h.block i hi)⟩
theorem Only.below {b B : Nat} {w w' : World} (h : Only b w w') (hb : B ≤ b) : Below B w w' :=
  ⟨h.os, h.tape, h.output, Nat.le_of_eq h.size.symm, fun k hk => h.block k (by omega)⟩
theorem Rf.drewN {w : World} {r lb d : Nat} {lo : Int} {S : Ss} (h : Rf w r lb lo d S) (n : Nat) : Rf (w.drewN n) r lb lo d S := by
  have e : (w.drewN n).heap = w.heap := by
    induction n with
    | zero => rfl
    | succ n ih => exact ih
  exact ⟨by unfold Blk; rw [e]; exact h.blk, h.row.same (by rw [e]), h.ne⟩
theorem at_in (r lb : Nat) (lo : Int) (i : Nat) (d : Nat) (S : Ss) (w : World) (h : Rf w r lb lo d S) (hb : 0 ≤ lo ∧ lo + d ≤ 4096) (hi : i < d) :
    Calls Try.prog 28 #[.pointer (some ⟨r, 0, none⟩), .int .i64 (lo + i)] w fun e w' => e = .returned (.int .i64 (i : Int)) ∧ Rf w' r lb lo d S ∧ Only lb w w' := by
  refine (rat_in r lb lo (lo + i) d S w h hb (by omega) (by omega)).mono fun e w' ⟨h1, k, h2⟩ => ?_
  subst h2
  refine ⟨?_, h.drewN k, Only.drewN _ _ _⟩
  rw [h1]
  congr 2
  omega
theorem at_out (r lb : Nat) (lo n : Int) (d : Nat) (S : Ss) (w : World) (h : Rf w r lb lo d S) (hb : 0 ≤ lo ∧ lo + d ≤ 4096) (hn : n < lo ∨ lo + d ≤ n) (hm : n ≤ 9223372036854775807) :
    Calls Try.prog 28 #[.pointer (some ⟨r, 0, none⟩), .int .i64 n] w fun e w' => e = .returned (.int .i64 (-1)) ∧ Rf w' r lb lo d S ∧ Only lb w w' := by
  have : Calls Try.prog 28 #[.pointer (some ⟨r, 0, none⟩), .int .i64 n] w fun e w' => e = .returned (.int .i64 (-1)) ∧ ∃ k, w' = w.drewN k := by
    rcases Int.lt_or_le n lo with h1 | h1
    · exact rat_lo r lb lo n d S w h h1
    · exact rat_hi r lb lo n d S w h hb h1 (by omega) hm
  refine this.mono fun e w' ⟨h1, k, h2⟩ => ?_
  subst h2
  exact ⟨h1, h.drewN k, Only.drewN _ _ _⟩
end Go.Proofs.Ytbbegbiiaabmgaa
