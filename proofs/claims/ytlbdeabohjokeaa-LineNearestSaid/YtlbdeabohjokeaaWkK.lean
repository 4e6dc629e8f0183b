/- Between. -/
import Derived.Test.YtlbdeabohjokeaaWkI
import Derived.Test.YtlbdeabohjokeaaWkJ
namespace Go.Proofs.Ytlbdeabohjokeaa
open Go.RowKit Mp Ln Go.Shelf
attribute [local go_sem] Oper.semAt_some

/-- What stands on a line up to one's own number, the last first. -/
def btw (y : Int) : List Sn → Option (List Int)
  | [] => none
  | s :: A => if s.id = y then some [] else (btw y A).map (· ++ [s.id])
theorem btw_none {y : Int} : ∀ {A : List Sn}, (∀ t ∈ A, t.id ≠ y) → btw y A = none
  | [], _ => rfl
  | s :: A, h => by
    unfold btw
    rw [if_neg (h s (List.mem_cons_self ..)), btw_none fun t ht => h t (List.mem_cons_of_mem _ ht)]
    rfl
theorem btw_some {y : Int} : ∀ {pre : List Sn} {s : Sn} {rest : List Sn}, (∀ t ∈ pre, t.id ≠ y) → s.id = y → btw y (pre ++ s :: rest) = some (pre.map (·.id)).reverse
  | [], s, rest, _, hs => by
    show btw y (s :: rest) = _
    unfold btw
    rw [if_pos hs]; rfl
  | u :: pre, s, rest, h, hs => by
    show btw y (u :: (pre ++ s :: rest)) = _
    unfold btw
    rw [if_neg (h u (List.mem_cons_self ..)), btw_some (fun t ht => h t (List.mem_cons_of_mem _ ht)) hs]
    simp
theorem idv_map (pre : List Sn) : pre.map idv = (pre.map (·.id)).map (Value.int .i64) := by rw [List.map_map]; rfl
theorem Blk.oth {w : World} {b : Nat} {t : TypeId} {cs : Array Value} (h : Blk w b t cs) {c : Nat} (hne : b ≠ c) (j : Nat) (v : Value) : Blk (w.setCell ⟨c, j, none⟩ v) b t cs := by
  unfold Blk at h ⊢
  rw [heap_setCell_other _ _ _ _ hne]; exact h
theorem own_block {W : World} {base size n k : Nat} {e : TypeId} {v : Value} {xs : List Value} (h : W.ownsRow base e size v n xs) (hk : v.ownBlock = some k) : base ≤ k ∧ ∃ cur, W.heap[k]? = some (.cells cur e (0, 0)) := by
  rcases h.2 with ⟨rfl, _⟩ | ⟨g, cap, cur, rfl, hg, hh, _⟩
  · cases hk
  · have e1 : g = k := by simpa [Value.ownBlock] using hk
    subst e1
    exact ⟨hg, cur, hh⟩
/-- A block that is no such row lies on when the row grows. -/
theorem blk_grown {W w1 : World} {base size n k : Nat} {e t : TypeId} {v : Value} {xs : List Value} {cs : Array Value} (hb : Blk W k t cs) (h : W.ownsRow base e size v n xs) (hg : W.grownBy w1 v.ownBlock) (hne : t ≠ e ∨ k < base) : Blk w1 k t cs := by
  refine (hg.block k (Array.getElem?_eq_some_iff.1 hb).1 fun e1 => ?_).trans hb
  obtain ⟨h1, cur, h2⟩ := own_block h e1.symm
  rw [show W.heap[k]? = _ from hb] at h2
  rcases hne with hne | hne
  · cases h2; exact hne rfl
  · omega
theorem own_base {W : World} {b b' size n : Nat} {e : TypeId} {v : Value} {xs : List Value} (h : W.ownsRow b e size v n xs) (hb : b' ≤ b) : W.ownsRow b' e size v n xs := by
  refine ⟨h.1, ?_⟩
  rcases h.2 with h0 | ⟨g, cap, cur, h1, h2, h3⟩
  · exact .inl h0
  · exact .inr ⟨g, cap, cur, h1, Nat.le_trans hb h2, h3⟩
/-- The way out of Between. -/
theorem out1 {w V : World} {D r0 r1 : Nat} {a : Value} {b : Bool} {tmps : Array Value} {R : Ending → World → Prop} (h0 : Blk V r0 35 #[a]) (h1 : Blk V r1 4 #[.bool b]) (hB : Below w.heap.size w V)
    (hK : V.heap[D]? = some (.deferred (some []))) (hD : w.heap.size ≤ D) (ht0 : tmps[6]?.getD undef = .pointer (some ⟨r0, 0, none⟩)) (ht1 : tmps[7]?.getD undef = .pointer (some ⟨r1, 0, none⟩))
    (hR : Below w.heap.size w (V.putObj D (.deferred none)) → R (.returned (.tuple #[a, .bool b])) (V.putObj D (.deferred none))) :
    LeavesInM Fence.wide 9 Try.prog Try.f19 tmps R [{ target := .collected D, args := #[] }] .returning V := by
  refine ⟨by simp, .inl ⟨_, _, rfl, run_takeDeferred hK, ?_⟩⟩
  have q0 : (V.putObj D (.deferred none)).cell? ⟨r0, 0, none⟩ = some a := (blk_put h0 hK (.deferred none)).cell 0
  have q1 : (V.putObj D (.deferred none)).cell? ⟨r1, 0, none⟩ = some (.bool b) := (blk_put h1 hK (.deferred none)).cell 0
  refine ⟨.tuple #[a, .bool b], ?_, hR (below_put hB hD _)⟩
  simp [results, Try.f19, go_sem, q0, q1, ht0, ht1]
theorem own_slice {W : World} {base size n : Nat} {e : TypeId} {v : Value} {xs : List Value} (h : W.ownsRow base e size v n xs) : ∃ ov nv cv, v = .slice ov nv cv := by
  rcases h.2 with ⟨rfl, _⟩ | ⟨g, cap, cur, rfl, _⟩
  · exact ⟨_, _, _, rfl⟩
  · exact ⟨_, _, _, rfl⟩
theorem own_set {W : World} {base size n k : Nat} {e t : TypeId} {v : Value} {xs : List Value} {cs : Array Value} (h : W.ownsRow base e size v n xs) (hb : Blk W k t cs) (ht : t ≠ e) (j : Nat) (u : Value) : (W.setCell ⟨k, j, none⟩ u).ownsRow base e size v n xs := by
  refine ⟨h.1, ?_⟩
  rcases h.2 with h0 | ⟨g, cap, cur, h1, h2, h3, h4⟩
  · exact .inl h0
  · refine .inr ⟨g, cap, cur, h1, h2, ?_, h4⟩
    rw [heap_setCell_other _ _ _ _ (fun e1 : g = k => by subst e1; rw [show W.heap[g]? = _ from hb] at h3; cases h3; exact ht rfl)]
    exact h3
theorem below_less {n : Nat} {A B : World} (h : Below (n + 1) A B) : Below n A B := ⟨h.os, h.tape, h.output, h.size, fun k hk => h.block k (by omega)⟩
set_option maxRecDepth 100000 in
set_option maxHeartbeats 4000000 in
theorem between_any (oa : Option Addr) (cap : Nat) (L : List Sn) (y x : Int) (w : World) (h : Sl w oa L) (hl : L.length ≤ 60) :
    Calls Try.prog 19 #[.slice oa L.length cap, .int .i64 y, .int .i64 x] w fun e w' => ∃ v, e = .returned (.tuple #[v, .bool (btw y (line L x)).isSome]) ∧
      w'.ownsRow w.heap.size 3 1 v ((btw y (line L x)).getD []).length (((btw y (line L x)).getD []).map (.int .i64)) ∧ Below w.heap.size w w' := by
  obtain ⟨i0, hi, hz0, hz1, hz2⟩ := info_parts info3
  obtain ⟨rx, hrx⟩ : ∃ rx, btw y (line L x) = rx := ⟨_, rfl⟩
  rw [hrx]
  have HRX := Lib.hid hrx
  clear hrx
  refine (callsIn_wide (n := 9)).1 ?_
  refine callsIn_of_wp_marks Try.func19 rfl trivial ?_ rfl
  simp only [Try.ntmps19, List.size_toArray, List.length_cons, List.length_nil, Nat.reduceAdd, Nat.reduceSub, Array.replicate_succ, Array.replicate_zero, List.push_toArray, List.append_toArray, List.nil_append, List.cons_append]
  gi_wp2_with (refine ⟨trivial, ?_⟩; gi_at_call 27; refine (callsIn_wide.2 (up_any oa L.length cap x _)).mono ?_; rintro e w2 ⟨rfl, rfl⟩)
  have hB0 : Below w.heap.size w ((((((w.alloc (.cells #[.int .i64 y] 3)).alloc (.cells #[.slice none 0 0] 35)).alloc (.cells #[.bool false] 4)).alloc (.cells #[.slice none 0 0] 35)).alloc (.cells #[.slice oa L.length cap] 22)).alloc (.cells #[.int .i64 x] 3)) := below_al (below_al (below_al (below_al (below_al (below_al (Below.refl _ _))))))
  have bF : Blk ((((((w.alloc (.cells #[.int .i64 y] 3)).alloc (.cells #[.slice none 0 0] 35)).alloc (.cells #[.bool false] 4)).alloc (.cells #[.slice none 0 0] 35)).alloc (.cells #[.slice oa L.length cap] 22)).alloc (.cells #[.int .i64 x] 3)) w.heap.size 3 #[.int .i64 y] := Blk.on (Blk.new' _ _ rfl) (below_al (below_al (below_al (below_al (below_al (Below.refl _ _))))))
  have b0 : Blk ((((((w.alloc (.cells #[.int .i64 y] 3)).alloc (.cells #[.slice none 0 0] 35)).alloc (.cells #[.bool false] 4)).alloc (.cells #[.slice none 0 0] 35)).alloc (.cells #[.slice oa L.length cap] 22)).alloc (.cells #[.int .i64 x] 3)) (w.heap.size + 1) 35 #[.slice none 0 0] := Blk.on (Blk.new' _ _ (by simp)) (below_al (below_al (below_al (below_al (Below.refl _ _)))))
  have b1 : Blk ((((((w.alloc (.cells #[.int .i64 y] 3)).alloc (.cells #[.slice none 0 0] 35)).alloc (.cells #[.bool false] 4)).alloc (.cells #[.slice none 0 0] 35)).alloc (.cells #[.slice oa L.length cap] 22)).alloc (.cells #[.int .i64 x] 3)) (w.heap.size + 1 + 1) 4 #[.bool false] := Blk.on (Blk.new' _ _ (by simp)) (below_al (below_al (below_al (Below.refl _ _))))
  have bO : Blk ((((((w.alloc (.cells #[.int .i64 y] 3)).alloc (.cells #[.slice none 0 0] 35)).alloc (.cells #[.bool false] 4)).alloc (.cells #[.slice none 0 0] 35)).alloc (.cells #[.slice oa L.length cap] 22)).alloc (.cells #[.int .i64 x] 3)) (w.heap.size + 1 + 1 + 1) 35 #[.slice none 0 0] := Blk.on (Blk.new' _ _ (by simp)) (below_al (below_al (Below.refl _ _)))
  have bL : Blk ((((((w.alloc (.cells #[.int .i64 y] 3)).alloc (.cells #[.slice none 0 0] 35)).alloc (.cells #[.bool false] 4)).alloc (.cells #[.slice none 0 0] 35)).alloc (.cells #[.slice oa L.length cap] 22)).alloc (.cells #[.int .i64 x] 3)) (w.heap.size + 1 + 1 + 1 + 1) 22 #[.slice oa L.length cap] := Blk.on (Blk.new' _ _ (by simp)) (below_al (Below.refl _ _))
  have bX : Blk ((((((w.alloc (.cells #[.int .i64 y] 3)).alloc (.cells #[.slice none 0 0] 35)).alloc (.cells #[.bool false] 4)).alloc (.cells #[.slice none 0 0] 35)).alloc (.cells #[.slice oa L.length cap] 22)).alloc (.cells #[.int .i64 x] 3)) (w.heap.size + 1 + 1 + 1 + 1 + 1) 3 #[.int .i64 x] := Blk.new' _ _ (by simp)
  obtain ⟨W0, hW0⟩ : ∃ W0, ((((((w.alloc (.cells #[.int .i64 y] 3)).alloc (.cells #[.slice none 0 0] 35)).alloc (.cells #[.bool false] 4)).alloc (.cells #[.slice none 0 0] 35)).alloc (.cells #[.slice oa L.length cap] 22)).alloc (.cells #[.int .i64 x] 3)) = W0 := ⟨_, rfl⟩
  rw [hW0] at hB0 bF b0 b1 bO bL bX ⊢
  clear hW0
  refine range_law (gf := 30) (lb := #[.pointer (some ⟨w.heap.size + 1 + 1 + 1 + 1, 0, none⟩), .pointer (some ⟨w.heap.size + 1 + 1 + 1 + 1 + 1, 0, none⟩)]) rfl (enters_of Try.func30 (by kernel_rfl) rfl)
    (up1_in 8 oa cap L x w W0 _ _ h hl hB0 bL bX) (Below.refl _ _)
    (fun pre W => (∀ t ∈ pre, t.id ≠ y) ∧ (∃ v, Blk W (w.heap.size + 1 + 1 + 1) 35 #[v] ∧ W.ownsRow (w.heap.size + 1) 3 1 v pre.length (pre.map idv)) ∧ Blk W w.heap.size 3 #[.int .i64 y] ∧ Blk W (w.heap.size + 1) 35 #[.slice none 0 0] ∧ Blk W (w.heap.size + 1 + 1) 4 #[.bool false] ∧ Below w.heap.size w W)
    (fun c pre W => c = .ret ∧ (∃ pre0 s v, pre = pre0 ++ [s] ∧ (∀ t ∈ pre0, t.id ≠ y) ∧ s.id = y ∧ Blk W (w.heap.size + 1) 35 #[v] ∧ W.ownsRow (w.heap.size + 1) 3 1 v pre0.length ((pre0.map (·.id)).reverse.map (.int .i64)) ∧ Blk W (w.heap.size + 1 + 1) 4 #[.bool true]) ∧ Below w.heap.size w W)
    (fun s V V' hs hst => ⟨hs.1, by obtain ⟨_, ⟨v, h1, h2⟩, _⟩ := hs; exact ⟨v, law_blk hst h1 rfl, law_own hst h2 rfl⟩, law_blk hst hs.2.2.1 rfl, law_blk hst hs.2.2.2.1 rfl, law_blk hst hs.2.2.2.2.1 rfl, law_below hst hs.2.2.2.2.2 hB0.size⟩)
    (fun c s V V' hs hst => ⟨hs.1, by obtain ⟨_, ⟨pre0, u, v, k1, k2, k3, k4, k5, k6⟩, _⟩ := hs; exact ⟨pre0, u, v, k1, k2, k3, law_blk hst k4 rfl, law_own hst k5 rfl, law_blk hst k6 rfl⟩, law_below hst hs.2.2 hB0.size⟩)
    ⟨fun t ht => (by cases ht), ⟨_, bO, World.ownsRow_nil _ _ _ _⟩, bF, b0, b1, hB0⟩
    (fun s a' W => ∃ g, Blk W g 25 (cell4 s) ∧ a' = { tmps := #[.slice oa L.length cap, .int .i64 y, .int .i64 x, undef, .pointer (some ⟨w.heap.size, 0, none⟩), undef, .pointer (some ⟨w.heap.size + 1, 0, none⟩), .pointer (some ⟨w.heap.size + 1 + 1, 0, none⟩), .pointer (some ⟨w.heap.size + 1 + 1 + 1, 0, none⟩), .pointer (some ⟨g, 0, none⟩), .slice oa L.length cap, .int .i64 x, .func (.func 30) #[] #[.pointer (some ⟨w.heap.size + 1 + 1 + 1 + 1, 0, none⟩), .pointer (some ⟨w.heap.size + 1 + 1 + 1 + 1 + 1, 0, none⟩)], sv s, undef, undef, undef, undef, undef, undef, undef, undef, undef, undef, undef, undef], defers := [] })
    ?hAx ?assign ?body ?done ?stop
  case hAx =>
    rintro s a' V l r r' ⟨g, h1, h2⟩ hl' hlr
    refine ⟨g, ?_, h2⟩
    have hne : g ≠ l := fun e => by subst e; rw [show V.heap[g]? = _ from h1] at hlr; cases hlr
    exact (World.putObj_heap_other hne).trans h1
  case assign =>
    rintro l pre s W K ⟨hne, ⟨v, hv, hrow⟩, i1, i2, i3, hB⟩ hK
    unfold sv
    gi_wp2
    exact hK _ _ ((Keeps.refl _ W).below (below_al (Below.refl _ _))) ⟨hne, ⟨v, Blk.on hv (below_al (Below.refl _ _)), hrow.alloc _⟩, Blk.on i1 (below_al (Below.refl _ _)), Blk.on i2 (below_al (Below.refl _ _)), Blk.on i3 (below_al (Below.refl _ _)), below_al hB⟩ ⟨W.heap.size, Blk.new' _ _ rfl, rfl⟩
  case body =>
    rintro l pre s a' W hl' ⟨r, hr⟩ ⟨hne, ⟨v, hv, hrow⟩, i1, i2, i3, hB⟩ ⟨g, hg, rfl⟩ hpre
    have HNE := Lib.hid hne
    clear hne
    have hlen : pre.length < 60 := by
      have h1 := hpre.length_le
      have h2 := line_len L x
      simp at h1
      omega
    unfold sv
    obtain ⟨ov, nv, cv, rfl⟩ := own_slice hrow
    have hc : W.cell? ⟨w.heap.size + 1 + 1 + 1, 0, none⟩ = some (.slice ov nv cv) := hv.cell 0
    have hfr : W.cell? ⟨w.heap.size, 0, none⟩ = some (.int .i64 y) := i1.cell 0
    have hid : W.cell? ⟨g, 1, none⟩ = some (.int .i64 s.id) := hg.cell 1
    by_cases e : s.id = y
    · have he : (s.id == y) = true := by simpa using e
      have HE := Lib.hid e
      clear e
      have hrow2 : W.ownsRow (w.heap.size + 1) 3 1 (.slice ov nv cv) pre.length ((pre.map (·.id)).map (.int .i64)) := by rw [← idv_map]; exact hrow
      gi_wp2_with (refine ⟨trivial, ?_⟩; gi_at_call 28; refine (CallsIn.inRound l (callsIn_wide.2 (rev_own (w.heap.size + 1) pre.length (.slice ov nv cv) (pre.map (·.id)) _ hrow2 (by omega)))).mono ?_; rintro e w3 ⟨rfl, hr3, hg3⟩; have b0 := blk_grown hv hrow hg3 (.inl (by decide)); have b1 := blk_grown i2 hrow hg3 (.inl (by decide)); have b2 := blk_grown i3 hrow hg3 (.inl (by decide)); have q0 : w3.cell? ⟨w.heap.size + 1 + 1 + 1, 0, none⟩ = some (.slice ov nv cv) := b0.cell 0; have q1 : w3.cell? ⟨w.heap.size + 1, 0, none⟩ = some (.slice none 0 0) := b1.cell 0; have q2 : w3.cell? ⟨w.heap.size + 1 + 1, 0, none⟩ = some (.bool false) := b2.cell 0; have f1 := b1.free 0; have f2 := b2.free 0)
      have c1 := Blk.set b1 0 (.slice ov nv cv)
      have c2 := Blk.oth b2 (c := w.heap.size + 1) (by omega) 0 (.slice ov nv cv)
      refine ⟨(((Keeps.refl _ W).grown hg3 (own_free hrow (by omega) rfl)).setCell b1 ?_ 0 _).setCell c2 ?_ 0 _, rfl, ⟨pre, s, .slice ov nv cv, rfl, HNE.out, HE.out, Blk.oth c1 (by omega) 0 _, own_set (own_set hr3 b1 (by decide) 0 _) c2 (by decide) 0 _, Blk.set c2 0 _⟩, ?_⟩
      · rintro (hx | hx)
        · omega
        · cases hx
      · rintro (hx | hx)
        · omega
        · cases hx
      · refine ((hB.grown hg3 hB.size fun k e => ?_).setCell (p := ⟨w.heap.size + 1, 0, none⟩) (Nat.le_succ _) _).setCell (p := ⟨w.heap.size + 1 + 1, 0, none⟩) (by show _ ≤ w.heap.size + 1 + 1; omega) _
        have := (own_block hrow e).1
        omega
    · have he : (s.id == y) = false := by simpa using e
      have HE := Lib.hid e
      clear e
      have hsz : w.heap.size + 1 ≤ W.heap.size := by have := (Array.getElem?_eq_some_iff.1 i2).1; omega
      gi_wp2_with (gi_at_builtin; refine wpListIn_append_own _ rfl _ _ 35 rfl (w.heap.size + 1) 3 i0 (.int .i64 0) 1 8 Try.underlying35 hi hz0 hz1 hz2 rfl (by decide) _ _ _ rfl (hrow.alloc _) ⟨W.heap.size, 0, none⟩ 1 1 [.int .i64 s.id] rfl rfl (cell_one_new _ _ _) (by simp [Value.oneCell']) (by unfold maxLen; omega) (by omega) (by simp; omega) ?_; intro v' w1 hown' hgrow _; obtain ⟨g', cap', rfl⟩ := ownsRow_succ hown'; obtain ⟨hv1, hv2, hr2, hk2, hb2⟩ := Boxed.appended hv (by decide) hrow hsz (by omega) hown' hgrow; have hc1 := hv1.cell; have hf1 := hv1.frozen)
      have d1 := blk_grown (Blk.on i2 (below_al (o := .cells #[.int .i64 s.id] 3) (Below.refl _ _))) (hrow.alloc _) hgrow (.inl (by decide))
      have d2 := blk_grown (Blk.on i3 (below_al (o := .cells #[.int .i64 s.id] 3) (Below.refl _ _))) (hrow.alloc _) hgrow (.inl (by decide))
      refine ⟨?_, ?_, ⟨_, hv2, by simpa [idv] using hr2⟩, (hb2.block _ (by omega)).trans i1, Blk.oth d1 (by omega) 0 _, Blk.oth d2 (by omega) 0 _, hB.trans (below_less hb2)⟩
      · refine (((Keeps.refl _ W).below (below_al (Below.refl _ _))).grown hgrow (own_free (hrow.alloc _) (by omega) rfl)).setCell (t := 35) hv1 ?_ 0 _
        rintro (hx | hx)
        · omega
        · cases hx
      · intro t ht
        rcases List.mem_append.1 ht with ht | ht
        · exact HNE.out t ht
        · rw [List.mem_singleton.1 ht]; exact HE.out
  case done =>
    rintro D W hD ⟨hne, ⟨v, hv, hrow⟩, i1, i2, i3, hB⟩ hK
    have q0 : W.cell? ⟨w.heap.size + 1, 0, none⟩ = some (.slice none 0 0) := i2.cell 0
    have q1 : W.cell? ⟨w.heap.size + 1 + 1, 0, none⟩ = some (.bool false) := i3.cell 0
    have f0 := i2.free 0
    have f1 := i3.free 0
    gi_wp2
    have c1 := Blk.set i2 0 (.slice none 0 0)
    have c2 := Blk.oth i3 (c := w.heap.size + 1) (by omega) 0 (.slice none 0 0)
    have hfar : ((W.setCell ⟨w.heap.size + 1, 0, none⟩ (.slice none 0 0)).setCell ⟨w.heap.size + 1 + 1, 0, none⟩ (.bool false)).heap[D]? = some (Obj.deferred (some [])) := by
      have hD0 : D ≠ w.heap.size + 1 := fun e => by rw [e] at hK; rw [show W.heap[w.heap.size + 1]? = _ from i2] at hK; cases hK
      have hD1 : D ≠ w.heap.size + 1 + 1 := fun e => by rw [e] at hK; rw [show W.heap[w.heap.size + 1 + 1]? = _ from i3] at hK; cases hK
      rw [heap_setCell_other _ _ _ _ hD1, heap_setCell_other _ _ _ _ hD0]; exact hK
    have hr := HRX.out
    rw [btw_none hne] at hr
    subst hr
    exact out1 (Blk.oth c1 (by omega) 0 _) (Blk.set c2 0 (.bool false)) ((hB.setCell (p := ⟨w.heap.size + 1, 0, none⟩) (Nat.le_succ _) _).setCell (p := ⟨w.heap.size + 1 + 1, 0, none⟩) (by show _ ≤ w.heap.size + 1 + 1; omega) _) hfar (Nat.le_trans hB0.size hD) rfl rfl (fun hb => ⟨_, rfl, World.ownsRow_nil _ _ _ _, hb⟩)
  case stop =>
    rintro D c pre W hD hpre ⟨rfl, ⟨pre0, s, v, rfl, k2, k3, k4, k5, k6⟩, hB⟩ hK
    gi_wp2
    have hr := HRX.out
    obtain ⟨rest, hrest⟩ := hpre
    rw [← hrest, List.append_assoc, List.singleton_append, btw_some k2 k3] at hr
    subst hr
    exact out1 k4 k6 hB hK (Nat.le_trans hB0.size hD) rfl rfl (fun hb => ⟨_, rfl, by simpa using own_base (ownsRow_putObj k5 _ hK rfl) (Nat.le_succ _), hb⟩)
end Go.Proofs.Ytlbdeabohjokeaa
