/- The document's answer: reading and writing a sector; Count, Mark, Hold, Drop. -/
import Derived.Test.YtbbegbiiaabmgaaWkL
import Derived.RegionTactic
namespace Go.Proofs.Ytbbegbiiaabmgaa
open Go.RowKit Mp

structure RR (w : World) (lb i : Nat) (s : Sec) : Prop where
  e0 : w.cell? ⟨lb, i * 4, none⟩ = some (.int .i64 s.c)
  e1 : w.cell? ⟨lb, i * 4 + 1, none⟩ = some (.int .i64 s.b)
  e2 : w.cell? ⟨lb, i * 4 + 2, none⟩ = some (.int .i64 s.f)
  e3 : w.cell? ⟨lb, i * 4 + 3, none⟩ = some (.bool s.wt)
  f0 : w.frozen? ⟨lb, i * 4, none⟩ = false
  f1 : w.frozen? ⟨lb, i * 4 + 1, none⟩ = false
  f2 : w.frozen? ⟨lb, i * 4 + 2, none⟩ = false
  f3 : w.frozen? ⟨lb, i * 4 + 3, none⟩ = false
theorem Row.at {w : World} {lb d : Nat} {S : Ss} (h : Row w lb d S) {i : Nat} (hi : i < d) : RR w lb i (S i) := by
  obtain ⟨cs, h1, h2, h3⟩ := h
  obtain ⟨a, b, c, e⟩ := h3 i hi
  exact ⟨(h1.cell _).trans a, (h1.cell _).trans b, (h1.cell _).trans c, (h1.cell _).trans e, h1.free _, h1.free _, h1.free _, h1.free _⟩
theorem set_set (S : Ss) (i : Nat) (a b : Sec) : set (set S i a) i b = set S i b := by
  funext j; unfold set; split <;> rfl
theorem set_at (S : Ss) (i : Nat) (a : Sec) : set S i a i = a := by simp [set]
theorem Row.put {w : World} {lb d : Nat} {S : Ss} (h : Row w lb d S) {i : Nat} (hi : i < d) (s : Sec) (j : Nat) (v : Value) (hj : j < 4)
    (h0 : if j = 0 then v = .int .i64 s.c else s.c = (S i).c) (h1 : if j = 1 then v = .int .i64 s.b else s.b = (S i).b) (h2 : if j = 2 then v = .int .i64 s.f else s.f = (S i).f) (h3 : if j = 3 then v = .bool s.wt else s.wt = (S i).wt) :
    Row (w.setCell ⟨lb, i * 4 + j, none⟩ v) lb d (set S i s) := by
  obtain ⟨cs, k1, k2, k3⟩ := h
  refine ⟨cs.setIfInBounds (i * 4 + j) v, heap_setCell_same w lb _ cs 60 v k1, by simp [k2], fun q hq => ?_⟩
  obtain ⟨a, b, c, e⟩ := k3 q hq
  have hin : i * 4 + j < cs.size := by omega
  simp only [Array.getElem?_setIfInBounds]
  unfold set
  by_cases e1 : q = i
  · subst e1
    simp only [if_true]
    refine ⟨?_, ?_, ?_, ?_⟩
    · by_cases g : j = 0
      · subst g; rw [if_pos rfl] at h0; simp [h0]; omega
      · rw [if_neg g] at h0; rw [if_neg (by omega), a, h0]
    · by_cases g : j = 1
      · subst g; rw [if_pos rfl] at h1; simp [hin, h1]
      · rw [if_neg g] at h1; rw [if_neg (by omega), b, h1]
    · by_cases g : j = 2
      · subst g; rw [if_pos rfl] at h2; simp [hin, h2]
      · rw [if_neg g] at h2; rw [if_neg (by omega), c, h2]
    · by_cases g : j = 3
      · subst g; rw [if_pos rfl] at h3; simp [hin, h3]
      · rw [if_neg g] at h3; rw [if_neg (by omega), e, h3]
  · have n0 : ¬ i * 4 + j = q * 4 := by omega
    have n1 : ¬ i * 4 + j = q * 4 + 1 := by omega
    have n2 : ¬ i * 4 + j = q * 4 + 2 := by omega
    have n3 : ¬ i * 4 + j = q * 4 + 3 := by omega
    rw [if_neg n0, if_neg n1, if_neg n2, if_neg n3, if_neg e1]
    exact ⟨a, b, c, e⟩
theorem Rf.at {w : World} {r lb d : Nat} {lo : Int} {S : Ss} (h : Rf w r lb lo d S) {i : Nat} (hi : i < d) : RR w lb i (S i) := h.row.at hi
theorem Rf.setc {w : World} {r lb d : Nat} {lo : Int} {S : Ss} (h : Rf w r lb lo d S) {i : Nat} (hi : i < d) (c : Int) : Rf (w.setCell ⟨lb, i * 4, none⟩ (.int .i64 c)) r lb lo d (set S i { S i with c := c }) :=
  ⟨Blk.oth h.blk h.ne _ _, h.row.put hi { S i with c := c } 0 (.int .i64 c) (by omega) (by simp) (by simp) (by simp) (by simp), h.ne⟩
theorem Rf.setb {w : World} {r lb d : Nat} {lo : Int} {S : Ss} (h : Rf w r lb lo d S) {i : Nat} (hi : i < d) (c : Int) : Rf (w.setCell ⟨lb, i * 4 + 1, none⟩ (.int .i64 c)) r lb lo d (set S i { S i with b := c }) :=
  ⟨Blk.oth h.blk h.ne _ _, h.row.put hi { S i with b := c } 1 (.int .i64 c) (by omega) (by simp) (by simp) (by simp) (by simp), h.ne⟩
theorem Rf.setf {w : World} {r lb d : Nat} {lo : Int} {S : Ss} (h : Rf w r lb lo d S) {i : Nat} (hi : i < d) (c : Int) : Rf (w.setCell ⟨lb, i * 4 + 2, none⟩ (.int .i64 c)) r lb lo d (set S i { S i with f := c }) :=
  ⟨Blk.oth h.blk h.ne _ _, h.row.put hi { S i with f := c } 2 (.int .i64 c) (by omega) (by simp) (by simp) (by simp) (by simp), h.ne⟩
theorem Rf.setw {w : World} {r lb d : Nat} {lo : Int} {S : Ss} (h : Rf w r lb lo d S) {i : Nat} (hi : i < d) (c : Bool) : Rf (w.setCell ⟨lb, i * 4 + 3, none⟩ (.bool c)) r lb lo d (set S i { S i with wt := c }) :=
  ⟨Blk.oth h.blk h.ne _ _, h.row.put hi { S i with wt := c } 3 (.bool c) (by omega) (by simp) (by simp) (by simp) (by simp), h.ne⟩
theorem Rf.set4 {w : World} {r lb d : Nat} {lo : Int} {S : Ss} (h : Rf w r lb lo d S) {i : Nat} (hi : i < d) (s : Sec) :
    Rf ((((w.setCell ⟨lb, i * 4, none⟩ (.int .i64 s.c)).setCell ⟨lb, i * 4 + 1, none⟩ (.int .i64 s.b)).setCell ⟨lb, i * 4 + 2, none⟩ (.int .i64 s.f)).setCell ⟨lb, i * 4 + 3, none⟩ (.bool s.wt)) r lb lo d (set S i s) := by
  have := (((h.setc hi s.c).setb hi s.b).setf hi s.f).setw hi s.wt
  simp only [set_set, set_at] at this
  exact this
theorem Rf.drew {w : World} {r lb d : Nat} {lo : Int} {S : Ss} (h : Rf w r lb lo d S) : Rf w.drew r lb lo d S := h.drewN 1

theorem rcnt_in (r lb : Nat) (lo : Int) (i : Nat) (d : Nat) (S : Ss) (w : World) (h : Rf w r lb lo d S) (hb : 0 ≤ lo ∧ lo + d ≤ 4096) (hi : i < d) :
    Calls Try.prog 24 #[.pointer (some ⟨r, 0, none⟩), .int .i64 (lo + i)] w fun e w' => e = .returned (.int .i64 (S i).c) ∧ Rf w' r lb lo d S ∧ Only lb w w' := by
  go_enter Try.func24, Try.ntmps24
  go_wp2_with (go_at_call 28; refine (at_in r lb lo i d S _ h hb hi).mono ?_; rintro e w1 ⟨rfl, h1, o1⟩; have g1 := h1.blk.cell 1; have e0 := (h1.at hi).e0)
  go_ret
  exact ⟨rfl, h1, o1⟩
theorem rcnt_out (r lb : Nat) (lo n : Int) (d : Nat) (S : Ss) (w : World) (h : Rf w r lb lo d S) (hb : 0 ≤ lo ∧ lo + d ≤ 4096) (hn : n < lo ∨ lo + d ≤ n) (hm : n ≤ 9223372036854775807) :
    Calls Try.prog 24 #[.pointer (some ⟨r, 0, none⟩), .int .i64 n] w fun e w' => e = .returned (.int .i64 0) ∧ Rf w' r lb lo d S ∧ Only lb w w' := by
  go_enter Try.func24, Try.ntmps24
  go_wp2_with (go_at_call 28; refine (at_out r lb lo n d S _ h hb hn hm).mono ?_; rintro e w1 ⟨rfl, h1, o1⟩)
  go_ret
  exact ⟨rfl, h1, o1⟩
theorem rcnt_any (r lb : Nat) (lo n : Int) (d : Nat) (S : Ss) (w : World) (h : Rf w r lb lo d S) (hb : 0 ≤ lo ∧ lo + d ≤ 4096) (hm : n ≤ 9223372036854775807) (x : Int) (hx : rCnt lo d n S = x) :
    Calls Try.prog 24 #[.pointer (some ⟨r, 0, none⟩), .int .i64 n] w fun e w' => e = .returned (.int .i64 x) ∧ Rf w' r lb lo d S ∧ Only lb w w' := by
  subst hx
  unfold rCnt
  cases hr : rAt lo d n with
  | none => exact rcnt_out r lb lo n d S w h hb (rAt_none hr) hm
  | some i => obtain ⟨rfl, hi⟩ := rAt_some hr; exact rcnt_in r lb lo i d S w h hb hi

theorem rmark_out (r lb : Nat) (lo n gen : Int) (d : Nat) (S : Ss) (w : World) (h : Rf w r lb lo d S) (hb : 0 ≤ lo ∧ lo + d ≤ 4096) (hn : n < lo ∨ lo + d ≤ n) (hm : n ≤ 9223372036854775807) :
    Calls Try.prog 20 #[.pointer (some ⟨r, 0, none⟩), .int .i64 n, .int .i64 gen] w fun e w' => e = .returned (.int .i64 31) ∧ Rf w' r lb lo d S ∧ Only lb w w' := by
  go_enter Try.func20, Try.ntmps20
  go_wp2_with (go_at_call 28; refine (at_out r lb lo n d S _ h hb hn hm).mono ?_; rintro e w1 ⟨rfl, h1, o1⟩)
  go_ret
  exact ⟨rfl, h1, o1⟩
theorem rmark_there (r lb : Nat) (lo gen : Int) (i d : Nat) (S : Ss) (w : World) (h : Rf w r lb lo d S) (hb : 0 ≤ lo ∧ lo + d ≤ 4096) (hi : i < d) (hc : 0 < (S i).c ∨ ¬ 0 < (S i).c ∧ (S i).wt = true) :
    Calls Try.prog 20 #[.pointer (some ⟨r, 0, none⟩), .int .i64 (lo + i), .int .i64 gen] w fun e w' => e = .returned (.int .i64 103) ∧ Rf w' r lb lo d S ∧ Only lb w w' := by
  rcases hc with hc | ⟨hc, hw⟩
  · go_enter Try.func20, Try.ntmps20
    go_wp2_with (go_at_call 28; refine (at_in r lb lo i d S _ h hb hi).mono ?_; rintro e w1 ⟨rfl, h1, o1⟩; have g1 := h1.blk.cell 1; have R := h1.at hi; have e0 := R.e0; have e3 := R.e3)
    go_ret
    exact ⟨rfl, h1, o1⟩
  · have HW := Lib.hid hw
    clear hw
    go_enter Try.func20, Try.ntmps20
    go_wp2_with (go_at_call 28; refine (at_in r lb lo i d S _ h hb hi).mono ?_; rintro e w1 ⟨rfl, h1, o1⟩; have g1 := h1.blk.cell 1; have R := h1.at hi; have e0 := R.e0; have e3 := R.e3.trans (congrArg (fun x => some (Value.bool x)) HW.out))
    go_ret
    exact ⟨rfl, h1, o1⟩
theorem rmark_ok (r lb : Nat) (lo gen : Int) (i d : Nat) (S : Ss) (w : World) (h : Rf w r lb lo d S) (hb : 0 ≤ lo ∧ lo + d ≤ 4096) (hi : i < d) (hc : (S i).c = 0) (hw : (S i).wt = false) :
    Calls Try.prog 20 #[.pointer (some ⟨r, 0, none⟩), .int .i64 (lo + i), .int .i64 gen] w fun e w' => e = .returned (.int .i64 0) ∧ Rf w' r lb lo d (set S i ⟨1, gen, 0, false⟩) ∧ Only lb w w' := by
  have HW := Lib.hid hw
  have HC := Lib.hid hc
  clear hw hc
  go_enter Try.func20, Try.ntmps20
  go_wp2_with (go_at_call 28; refine (at_in r lb lo i d S _ h hb hi).mono ?_; rintro e w1 ⟨rfl, h1, o1⟩; have g1 := h1.blk.cell 1; have R := h1.at hi; have e0 := R.e0.trans (congrArg (fun x => some (Value.int .i64 x)) HC.out); have e3 := R.e3.trans (congrArg (fun x => some (Value.bool x)) HW.out); have e1 := R.e1; have e2 := R.e2; have f0 := R.f0; have f1 := R.f1; have f2 := R.f2; have f3 := R.f3)
  go_ret
  exact ⟨rfl, h1.set4 hi ⟨1, gen, 0, false⟩, (((o1.set _ _).set _ _).set _ _).set _ _⟩
end Go.Proofs.Ytbbegbiiaabmgaa
