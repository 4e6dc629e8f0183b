/- Line. -/
import Derived.Test.YtlbdeabohjokeaaWkG
import Derived.Maps.AppendAt
namespace Go.Proofs.Ytlbdeabohjokeaa
open Go.RowKit Mp Ln Go.Shelf
attribute [local go_sem] Oper.semAt_some

def idv (s : Sn) : Value := .int .i64 s.id
theorem info3 : (Try.prog.info? 3).map (fun i => (i.zero, i.size, i.bytes)) = some (some (.int .i64 0), 1, 8) := by kernel_rfl
theorem Keeps.grown {p : Nat → Obj → Prop} {A B C : World} {row : Option Nat} (h : Keeps p A B) (hg : B.grownBy C row) (hr : ∀ k o, row = some k → B.heap[k]? = some o → ¬ p k o) : Keeps p A C :=
  ⟨hg.os.trans h.os, hg.tape.trans h.tape, hg.output.trans h.output, Nat.le_trans h.size hg.size, fun k o hk hp => by
    have h1 := h.same k o hk hp
    rw [hg.block k (Array.getElem?_eq_some_iff.1 h1).1 (fun e => hr k o e.symm h1 hp)]
    exact h1⟩
theorem Keeps.setCell {p : Nat → Obj → Prop} {A B : World} (h : Keeps p A B) {g : Nat} {t : TypeId} {cs : Array Value} (hg : Blk B g t cs) (hp : ¬ p g (.cells cs t (0, 0))) (j : Nat) (v : Value) : Keeps p A (B.setCell ⟨g, j, none⟩ v) :=
  ⟨h.os, h.tape, h.output, by simp; exact h.size, fun k o hk hq => by
    have h1 := h.same k o hk hq
    have hne : k ≠ g := fun e => by
      subst e
      rw [show B.heap[k]? = _ from hg] at h1
      cases h1
      exact hp hq
    rw [heap_setCell_other _ _ _ _ hne]; exact h1⟩
/-- A row of one's own is nothing that is tied. -/
theorem own_free {n₀ base size n : Nat} {W : World} {e : TypeId} {v : Value} {xs : List Value} (h : W.ownsRow base e size v n xs) (hb : n₀ ≤ base) (he : tied (.cells #[] e (0, 0)) = false) :
    ∀ k o, v.ownBlock = some k → W.heap[k]? = some o → ¬ (k < n₀ ∨ tied o = true) := by
  intro k o hk ho
  rcases h.2 with ⟨rfl, _⟩ | ⟨g, cap, cur, rfl, hg, hh, _⟩
  · cases hk
  · have e1 : g = k := by simpa [Value.ownBlock] using hk
    subst e1
    rw [show W.heap[g]? = _ from hh] at ho
    cases ho
    rintro (h | h)
    · omega
    · rw [show tied (.cells cur e (0, 0)) = tied (.cells #[] e (0, 0)) from rfl, he] at h; cases h
/-- What a step of the law leaves of a row of one's own, and of a box. -/
theorem law_own {B base size n : Nat} {V V' : World} {e : TypeId} {v : Value} {xs : List Value} (h : StepLaw B V V') (hown : V.ownsRow base e size v n xs) (he : (e == 25) = false) : V'.ownsRow base e size v n xs := by
  refine ⟨hown.1, ?_⟩
  rcases hown.2 with h0 | ⟨g, cap, cur, h1, h2, h3, h4⟩
  · exact .inl h0
  · exact .inr ⟨g, cap, cur, h1, h2, h.same g _ h3 (.inr ⟨he, rfl⟩), h4⟩
theorem law_blk {B g : Nat} {V V' : World} {t : TypeId} {cs : Array Value} (h : StepLaw B V V') (hb : Blk V g t cs) (ht : (t == 25) = false) : Blk V' g t cs := h.same g _ hb (.inr ⟨ht, rfl⟩)
theorem law_below {B : Nat} {w V V' : World} (h : StepLaw B V V') (hb : Below w.heap.size w V) (hB : w.heap.size ≤ B) : Below w.heap.size w V' :=
  ⟨h.os.trans hb.os, h.tape.trans hb.tape, h.output.trans hb.output, Nat.le_trans hb.size h.size, fun i hi => by
    rw [← hb.block i hi]
    cases ho : V.heap[i]? with
    | some o => exact h.same i o ho (.inl (by omega))
    | none =>
      have := Nat.lt_of_lt_of_le hi hb.size
      rw [Array.getElem?_eq_getElem this] at ho
      cases ho⟩
set_option maxRecDepth 100000 in
set_option maxHeartbeats 2000000 in
theorem line_any (oa : Option Addr) (cap : Nat) (L : List Sn) (x : Int) (w : World) (h : Sl w oa L) (hl : L.length ≤ 60) :
    Calls Try.prog 16 #[.slice oa L.length cap, .int .i64 x] w fun e w' => ∃ v, e = .returned v ∧ w'.ownsRow w.heap.size 3 1 v (line L x).length ((line L x).map idv) ∧ Below w.heap.size w w' := by
  obtain ⟨i0, hi, hz0, hz1, hz2⟩ := info_parts info3
  refine (callsIn_wide (n := 9)).1 ?_
  refine callsIn_of_wp_marks Try.func16 rfl trivial ?_ rfl
  simp only [Try.ntmps16, List.size_toArray, List.length_cons, List.length_nil, Nat.reduceAdd, Nat.reduceSub, Array.replicate_succ, Array.replicate_zero, List.push_toArray, List.append_toArray, List.nil_append, List.cons_append]
  gi_wp2_with (refine ⟨trivial, ?_⟩; gi_at_call 27; refine (callsIn_wide.2 (up_any oa L.length cap x _)).mono ?_; rintro e w2 ⟨rfl, rfl⟩)
  have hB0 : Below w.heap.size w (((w.alloc (.cells #[.slice none 0 0] 35)).alloc (.cells #[.slice oa L.length cap] 22)).alloc (.cells #[.int .i64 x] 3)) := below_al (below_al (below_al (Below.refl _ _)))
  have bO : Blk (((w.alloc (.cells #[.slice none 0 0] 35)).alloc (.cells #[.slice oa L.length cap] 22)).alloc (.cells #[.int .i64 x] 3)) w.heap.size 35 #[.slice none 0 0] := Blk.on (Blk.on (Blk.new' _ _ rfl) (below_al (Below.refl _ _))) (below_al (Below.refl _ _))
  have bL : Blk (((w.alloc (.cells #[.slice none 0 0] 35)).alloc (.cells #[.slice oa L.length cap] 22)).alloc (.cells #[.int .i64 x] 3)) (w.heap.size + 1) 22 #[.slice oa L.length cap] := Blk.on (Blk.new' _ _ (by simp)) (below_al (Below.refl _ _))
  have bX : Blk (((w.alloc (.cells #[.slice none 0 0] 35)).alloc (.cells #[.slice oa L.length cap] 22)).alloc (.cells #[.int .i64 x] 3)) (w.heap.size + 1 + 1) 3 #[.int .i64 x] := Blk.new' _ _ (by simp)
  obtain ⟨W0, hW0⟩ : ∃ W0, (((w.alloc (.cells #[.slice none 0 0] 35)).alloc (.cells #[.slice oa L.length cap] 22)).alloc (.cells #[.int .i64 x] 3)) = W0 := ⟨_, rfl⟩
  rw [hW0] at hB0 bO bL bX ⊢
  clear hW0
  refine range_law (gf := 30) (lb := #[.pointer (some ⟨w.heap.size + 1, 0, none⟩), .pointer (some ⟨w.heap.size + 1 + 1, 0, none⟩)]) rfl (enters_of Try.func30 (by kernel_rfl) rfl)
    (up1_in 8 oa cap L x w W0 _ _ h hl hB0 bL bX) (Below.refl _ _)
    (fun pre W => (∃ v, Blk W w.heap.size 35 #[v] ∧ W.ownsRow w.heap.size 3 1 v pre.length (pre.map idv)) ∧ Below w.heap.size w W)
    (fun _ _ _ => False)
    (fun s V V' hs hst => ⟨by obtain ⟨⟨v, h1, h2⟩, _⟩ := hs; exact ⟨v, law_blk hst h1 rfl, law_own hst h2 rfl⟩, law_below hst hs.2 hB0.size⟩)
    (fun _ _ _ _ hs _ => hs)
    ⟨⟨_, bO, World.ownsRow_nil _ _ _ _⟩, hB0⟩
    (fun s a' W => ∃ g, Blk W g 25 (cell4 s) ∧ a' = { tmps := #[.slice oa L.length cap, .int .i64 x, undef, undef, .slice none 0 0, .pointer (some ⟨w.heap.size, 0, none⟩), .pointer (some ⟨g, 0, none⟩), .slice oa L.length cap, .int .i64 x, .func (.func 30) #[] #[.pointer (some ⟨w.heap.size + 1, 0, none⟩), .pointer (some ⟨w.heap.size + 1 + 1, 0, none⟩)], sv s, undef, undef, undef, undef, undef, undef], defers := [] })
    ?hAx ?assign ?body ?done ?stop
  case hAx =>
    rintro s a' V l r r' ⟨g, h1, h2⟩ hl' hlr
    refine ⟨g, ?_, h2⟩
    have hne : g ≠ l := fun e => by subst e; rw [show V.heap[g]? = _ from h1] at hlr; cases hlr
    exact (World.putObj_heap_other hne).trans h1
  case assign =>
    rintro l pre s W K ⟨⟨v, hv, hrow⟩, hB⟩ hK
    unfold sv
    gi_wp2
    exact hK _ _ ((Keeps.refl _ W).below (below_al (Below.refl _ _))) ⟨⟨v, Blk.on hv (below_al (Below.refl _ _)), hrow.alloc _⟩, below_al hB⟩ ⟨W.heap.size, Blk.new' _ _ rfl, rfl⟩
  case body =>
    rintro l pre s a' W hl' ⟨r, hr⟩ ⟨⟨v, hv, hrow⟩, hB⟩ ⟨g, hg, rfl⟩ hpre
    have hlen : pre.length < 60 := by
      have h1 := hpre.length_le
      have h2 := line_len L x
      simp at h1
      omega
    unfold sv
    have hc : W.cell? ⟨w.heap.size, 0, none⟩ = some v := hv.cell 0
    have hid : W.cell? ⟨g, 1, none⟩ = some (.int .i64 s.id) := hg.cell 1
    gi_wp2_with (gi_at_builtin; refine wpListIn_append_own _ rfl _ _ 35 rfl w.heap.size 3 i0 (.int .i64 0) 1 8 Try.underlying35 hi hz0 hz1 hz2 rfl (by decide) _ _ _ rfl (hrow.alloc _) ⟨W.heap.size, 0, none⟩ 1 1 [.int .i64 s.id] rfl rfl (cell_one_new _ _ _) (by simp [Value.oneCell']) (by unfold maxLen; omega) (by omega) (by have := hB.size; simp; omega) ?_; intro v' w1 hown' hgrow _; obtain ⟨g', cap', rfl⟩ := ownsRow_succ hown'; obtain ⟨hv1, hv2, hr2, hk2, hb2⟩ := Boxed.appended hv (by decide) hrow hB.size (Nat.le_refl _) hown' hgrow; have hc1 := hv1.cell; have hf1 := hv1.frozen)
    refine ⟨?_, ⟨_, hv2, ?_⟩, hB.trans hb2⟩
    · refine (((Keeps.refl _ W).below (below_al (Below.refl _ _))).grown hgrow ?_).setCell (t := 35) hv1 ?_ 0 _
      · intro k o hk ho
        exact own_free (hrow.alloc _) (Nat.le_refl _) rfl k o hk ho
      · rintro (hx | hx)
        · omega
        · cases hx
    · simpa [idv] using hr2
  case done =>
    rintro D W hD ⟨⟨v, hv, hrow⟩, hB⟩ hK
    have hc := hv.cell 0
    gi_wp2
    refine ⟨by simp, .inl ⟨_, _, rfl, run_takeDeferred hK, ?_⟩⟩
    refine ⟨_, results_tmp rfl _ _ _, v, rfl, ownsRow_putObj hrow _ hK rfl, ?_⟩
    exact hB.grown (grownBy_putObj' W D _) hB.size (fun k e => by cases e; exact Nat.le_trans hB0.size hD)
  case stop =>
    rintro D c pre W _ _ h _
    exact h.elim
end Go.Proofs.Ytlbdeabohjokeaa
