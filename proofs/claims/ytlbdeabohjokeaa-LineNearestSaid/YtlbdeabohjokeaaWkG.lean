/- The iterator of a line. -/
import Derived.Test.YtlbdeabohjokeaaWkD
import Derived.Test.YtlbdeabohjokeaaRg
import Derived.Sort.LoopGhostIn
namespace Go.Proofs.Ytlbdeabohjokeaa
open Go.RowKit Mp Ln Go.Shelf
attribute [local go_sem] Oper.semAt_some

theorem noDepth {n m : Nat} (h : Fence.wide.depth.isSome = true) : n ≤ m := by cases h
theorem noDepthR {n m l : Nat} (h : (Fence.wide.inRound l).depth.isSome = true) : n ≤ m := by cases h
theorem up_any (oa : Option Addr) (len cap : Nat) (x : Int) (w : World) :
    Calls Try.prog 27 #[.slice oa len cap, .int .i64 x] w fun e w' => e = .returned (.func (.func 30) #[] #[.pointer (some ⟨w.heap.size, 0, none⟩), .pointer (some ⟨w.heap.size + 1, 0, none⟩)]) ∧
      (w.alloc (.cells #[.slice oa len cap] 22)).alloc (.cells #[.int .i64 x] 3) = w' := by
  go_enter Try.func27, Try.ntmps27
  go_wp2
  go_ret
  exact ⟨rfl, rfl⟩
/-- Keeping a list. -/
theorem Round.base {w0 A B : World} (h : Below w0.heap.size w0 A) (k : Round w0.heap.size A B) : Below w0.heap.size w0 B :=
  ⟨k.os.trans h.os, k.tape.trans h.tape, k.output.trans h.output, Nat.le_trans h.size k.size, fun i hi => by
    rw [← h.block i hi]
    cases ho : A.heap[i]? with
    | some o => exact k.same i o ho (.inl hi)
    | none =>
      have := Nat.lt_of_lt_of_le hi h.size
      rw [Array.getElem?_eq_getElem this] at ho
      cases ho⟩
theorem Round.snap {n₀ : Nat} {A B : World} {g : Nat} {cs : Array Value} (k : Round n₀ A B) (h : Blk A g 25 cs) : Blk B g 25 cs := k.same g _ h (.inr rfl)
theorem Round.list {n₀ : Nat} {A B : World} {g : Nat} {cs : Array Value} (k : Round n₀ A B) (h : Blk A g 22 cs) : Blk B g 22 cs := k.same g _ h (.inr rfl)
theorem step_below {B : Nat} {A C : World} (h : Below A.heap.size A C) : StepIt B A C := (Keeps.refl _ A).below h
theorem step_set4 {B g : Nat} {V W : World} {t : Array Value} (h : StepIt B V W) (hg : Blk V g 25 t) (hB : B ≤ g) (x y z u : Value) :
    StepIt B V ((((W.setCell ⟨g, 0, none⟩ x).setCell ⟨g, 1, none⟩ y).setCell ⟨g, 2, none⟩ z).setCell ⟨g, 3, none⟩ u) :=
  ⟨h.os, h.tape, h.output, by simp; exact h.size, fun k o hk hp => by
    have hne : k ≠ g := fun e => by
      subst e
      rw [show V.heap[k]? = _ from hg] at hk
      cases hk
      rcases hp with hp | hp
      · omega
      · cases hp
    rw [heap_setCell_other _ _ _ _ hne, heap_setCell_other _ _ _ _ hne, heap_setCell_other _ _ _ _ hne, heap_setCell_other _ _ _ _ hne]
    exact h.same k o hk hp⟩
def cell4 (s : Sn) : Array Value := #[.string s.nm, .int .i64 s.id, .int .i64 s.p, .int .i64 s.src]

set_option maxRecDepth 100000 in
set_option maxHeartbeats 2000000 in
theorem up1_in (n : Nat) (oa : Option Addr) (cap : Nat) (L : List Sn) (x : Int) (w0 w : World) (b1 b2 : Nat) (hL : Sl w0 oa L) (hl : L.length ≤ 60) (hw : Below w0.heap.size w0 w)
    (h1 : Blk w b1 22 #[.slice oa L.length cap]) (h2 : Blk w b2 3 #[.int .i64 x]) : SeqR n 30 #[.pointer (some ⟨b1, 0, none⟩), .pointer (some ⟨b2, 0, none⟩)] w0.heap.size (line L x) w := by
  intro l J Jx W hW hJ hY h0
  have hwW : Below w0.heap.size w0 W := hw.trans (hW.mono hw.size)
  have q1 := Blk.on h1 hW
  have q2 := (Blk.on h2 hW).cell 0
  have q10 := q1.cell 0
  refine callsIn_of_wp Try.func30 rfl trivial ?_ rfl
  simp only [Try.ntmps30, List.size_toArray, List.length_cons, List.length_nil, Nat.reduceAdd, Nat.reduceSub, Array.replicate_succ, Array.replicate_zero, List.push_toArray, List.append_toArray, List.nil_append, List.cons_append]
  have HJ := Lib.hid hJ
  have HY := Lib.hid hY
  have H0 := Lib.hid h0
  clear hJ hY h0
  obtain ⟨s0, hs0⟩ : ∃ s, optV (find L x) = s := ⟨_, rfl⟩
  obtain ⟨y0, hy0⟩ : ∃ y, (find L x).isSome = y := ⟨_, rfl⟩
  have HS : Hid (optV (find L x) = s0 ∧ (find L x).isSome = y0) := ⟨hs0, hy0⟩
  clear hs0 hy0
  gi_wp2_with (refine ⟨trivial, noDepth, ?_⟩; gi_at_call 8; refine (callsIn_wide.2 (find_any x oa cap L _ (hL.on hwW) hl)).mono ?_; rintro e w2 ⟨rfl, hb2⟩; rw [HS.out.1, HS.out.2]; unfold sv)
  gi_loopg [4, 5] ((line L x).length) (fun q v4 v5 wr => ∃ (pre : List Sn) (y : Int) (g : Nat), q = (line L y).length ∧ line L x = pre ++ line L y ∧ v5 = .bool (find L y).isSome ∧ v4 = .pointer (some ⟨g, 0, none⟩) ∧
    Blk wr g 25 (cell4 (optV (find L y))) ∧ W.heap.size ≤ g ∧ J pre wr ∧ Below w0.heap.size w0 wr ∧ Blk wr b1 22 #[.slice oa L.length cap])
  case atStart =>
    refine ⟨[], x, w2.heap.size, rfl, rfl, by rw [HS.out.2], rfl, by rw [HS.out.1]; exact Blk.new' _ _ rfl, hb2.size, ?_, hwW.trans ((below_al hb2).mono hwW.size), Blk.on (Blk.on q1 hb2) (below_al (Below.refl _ _))⟩
    exact HJ.out [] W _ H0.out ((Keeps.refl _ W).below (below_al hb2))
  case round =>
    obtain ⟨pre, y, g, rfl, hX, rfl, rfl, hG, hgW, hJw, hB, hQ⟩ := hrel
    clear HS q1 q2 q10 H0
    have HX := Lib.hid hX
    clear hX
    unfold cell4 at hG
    cases hf : find L y with
    | none =>
      rw [hf] at hG
      have HF := Lib.hid hf
      clear hf
      gi_wp2
      refine ⟨fun _ h => (by cases h), ?_⟩
      gi_wp2
      go_end0
      refine ⟨⟨_, rfl⟩, .inl ?_⟩
      rw [HX.out, line_none HF.out, List.append_nil]
      exact hJw
    | some s =>
      rw [hf] at hG
      have HF := Lib.hid hf
      clear hf
      have hpre : pre ++ [s] <+: line L x := by rw [HX.out, line_some HF.out]; exact ⟨line L s.p, by simp⟩
      obtain ⟨fn, tmps, assign, body, hy, hR⟩ := HY.out pre s wr hJw hpre
      unfold sv at hy
      have R := hG.box4
      obtain ⟨e0, e1, e2, e3, f0, f1, f2, f3⟩ := R
      simp only [optV, Option.getD_some] at e0 e1 e2 e3
      gi_wp2
      refine ⟨noDepth, ?_⟩
      refine hR.mono ?_
      rintro e W3 (⟨rfl, hJ3, hk3⟩ | ⟨rfl, hJx3⟩)
      · clear e0 e1 e2 e3 f0 f1 f2 f3
        have hG3 := hk3.snap hG
        have hQ3 := hk3.list hQ
        have hB3 := hk3.base hB
        have R := hG3.box4
        obtain ⟨e0, e1, e2, e3, f0, f1, f2, f3⟩ := R
        simp only [optV, Option.getD_some] at e0 e1 e2 e3
        have q30 := hQ3.cell 0
        obtain ⟨s1, hs1⟩ : ∃ s1, optV (find L s.p) = s1 := ⟨_, rfl⟩
        obtain ⟨y1, hy1⟩ : ∃ y1, (find L s.p).isSome = y1 := ⟨_, rfl⟩
        have HS : Hid (optV (find L s.p) = s1 ∧ (find L s.p).isSome = y1) := ⟨hs1, hy1⟩
        clear hs1 hy1 hy
        gi_wp2_with (refine ⟨trivial, noDepth, ?_⟩; gi_at_call 8; refine (callsIn_wide.2 (find_any s.p oa cap L _ (hL.on hB3) hl)).mono ?_; rintro e w4 ⟨rfl, hb4⟩; rw [HS.out.1, HS.out.2]; unfold sv; clear e0 e1 e2 e3 f0 f1 f2 f3; have hG4 := Lib.hid (Blk.on hG3 hb4); have R := hG4.out.box4; have e0 := R.e0; have e1 := R.e1; have e2 := R.e2; have e3 := R.e3; have f0 := R.f0; have f1 := R.f1; have f2 := R.f2; have f3 := R.f3; clear R)
        gi_roundg ((line L s.p).length)
        case measure => rw [line_some HF.out]; simp
        case rel =>
          have hst : StepIt W.heap.size W3 w4 := (Keeps.refl _ W3).below hb4
          have hG5 := hG4.out.set4 (.string s1.nm) (.int .i64 s1.id) (.int .i64 s1.p) (.int .i64 s1.src)
          have hst5 := step_set4 hst hG3 hgW (.string s1.nm) (.int .i64 s1.id) (.int .i64 s1.p) (.int .i64 s1.src)
          have hB5 : Below w0.heap.size w0 ((((w4.setCell ⟨g, 0, none⟩ (.string s1.nm)).setCell ⟨g, 1, none⟩ (.int .i64 s1.id)).setCell ⟨g, 2, none⟩ (.int .i64 s1.p)).setCell ⟨g, 3, none⟩ (.int .i64 s1.src)) :=
            below_4 (hB3.trans (hb4.mono hB3.size)) (Nat.le_trans hwW.size hgW) _ _ _ _
          have hQ5 := hst5.same b1 _ hQ3 (.inr rfl)
          have hz5 : W.heap.size ≤ ((((w4.setCell ⟨g, 0, none⟩ (.string s1.nm)).setCell ⟨g, 1, none⟩ (.int .i64 s1.id)).setCell ⟨g, 2, none⟩ (.int .i64 s1.p)).setCell ⟨g, 3, none⟩ (.int .i64 s1.src)).heap.size :=
            Nat.le_trans hgW (Nat.le_of_lt (Array.getElem?_eq_some_iff.1 hG5).1)
          obtain ⟨w5, hw5⟩ : ∃ w5, ((((w4.setCell ⟨g, 0, none⟩ (.string s1.nm)).setCell ⟨g, 1, none⟩ (.int .i64 s1.id)).setCell ⟨g, 2, none⟩ (.int .i64 s1.p)).setCell ⟨g, 3, none⟩ (.int .i64 s1.src)) = w5 := ⟨_, rfl⟩
          have hz : w5.heap.size = w4.heap.size := by rw [← hw5]; simp
          rw [hw5] at hst5 hB5 hQ5 hz5 ⊢
          refine ⟨pre ++ [s], s.p, w5.heap.size, rfl, ?_, by rw [HS.out.2], by rw [hz], ?_, hz5, ?_, below_al hB5, Blk.on hQ5 (below_al (Below.refl _ _))⟩
          · rw [HX.out, line_some HF.out, List.append_assoc]; rfl
          · rw [HS.out.1]; exact Blk.new' _ _ rfl
          · exact HJ.out _ _ _ hJ3 (hst5.below (below_al (Below.refl _ _)))
      · gi_wp2
        go_end0
        exact ⟨⟨_, rfl⟩, .inr ⟨pre ++ [s], hpre, hJx3⟩⟩
end Go.Proofs.Ytlbdeabohjokeaa
