/- Common. -/
import Derived.Test.YtlbdeabohjokeaaWkH
namespace Go.Proofs.Ytlbdeabohjokeaa
open Go.RowKit Mp Ln Go.Shelf
open Go.ChangeMaps (setBlock)
attribute [local go_sem] Oper.semAt_some

def has (B : List Sn) (k : Int) : Bool := B.any fun t => t.src == k
/-- What Common answers. -/
def comV (A B : List Sn) : Int × Bool := match common A B with
  | some s => (s.src, true)
  | none => (0, false)
/-- The map of the Sources that have come. -/
def MapOf (W : World) (m : Nat) (pre : List Sn) : Prop := ∃ l, Mp W m wv l ∧ ∀ k, (Mp.get k l).isSome = has pre k
theorem law_map {B m : Nat} {V V' : World} {pre : List Sn} (h : StepLaw B V V') (hM : MapOf V m pre) : MapOf V' m pre := by
  obtain ⟨l, ⟨es, c, h1, h2⟩, h3⟩ := hM
  exact ⟨l, ⟨es, c, h.same m _ h1 (.inr ⟨rfl, rfl⟩), h2⟩, h3⟩
theorem MapOf.on {m : Nat} {V V' : World} {pre : List Sn} (hM : MapOf V m pre) (h : Below V.heap.size V V') : MapOf V' m pre := by
  obtain ⟨l, h1, h2⟩ := hM
  exact ⟨l, h1.on h, h2⟩
theorem Keeps.setBlock {p : Nat → Obj → Prop} {A B : World} (h : Keeps p A B) {m : Nat} {es : Array MapEntry} {c : Nat} (hm : B.heap[m]? = some (.map es c)) (hp : ¬ p m (.map es c)) (o : Obj) : Keeps p A (ChangeMaps.setBlock B m o) :=
  ⟨h.os, h.tape, h.output, by simp [ChangeMaps.setBlock]; exact h.size, fun k o' hk hq => by
    have h1 := h.same k o' hk hq
    have hne : k ≠ m := fun e => by
      subst e
      rw [hm] at h1
      cases h1
      exact hp hq
    rw [← h1]
    simp [ChangeMaps.setBlock, Ne.symm hne]⟩
theorem Blk.setBlock {W : World} {g m : Nat} {t : TypeId} {cs : Array Value} (h : Blk W g t cs) (hne : g ≠ m) (o : Obj) : Blk (ChangeMaps.setBlock W m o) g t cs := by
  unfold Blk at h ⊢
  rw [← h]
  simp [ChangeMaps.setBlock, Ne.symm hne]
theorem has_snoc (pre : List Sn) (s : Sn) (k : Int) : has (pre ++ [s]) k = if k = s.src then true else has pre k := by
  unfold has
  rw [List.any_append]
  by_cases e : k = s.src
  · rw [if_pos e, e]; simp
  · rw [if_neg e]
    have : (s.src == k) = false := by simpa using Ne.symm e
    simp [this]
theorem MapOf.put {W : World} {m : Nat} {pre : List Sn} {s : Sn} {l : List (Int × Int)} {v : Int} (h1 : Mp W m wv (put s.src v l)) (h2 : ∀ k, (Mp.get k l).isSome = has pre k) : MapOf W m (pre ++ [s]) :=
  ⟨_, h1, fun k => by
    rw [get_put, has_snoc]
    by_cases e : k = s.src
    · rw [if_pos e, if_pos e]; rfl
    · rw [if_neg e, if_neg e]; exact h2 k⟩
theorem com_none {A B : List Sn} (h : ∀ t ∈ A, has B t.src = false) : comV A B = (0, false) := by
  unfold comV common
  have : A.find? (fun s => B.any fun t => t.src == s.src) = none := by
    rw [List.find?_eq_none]
    intro s hs
    have := h s hs
    unfold has at this
    rw [this]; simp
  rw [this]
theorem com_some {A B pre0 : List Sn} {s : Sn} (hp : pre0 ++ [s] <+: A) (h : ∀ t ∈ pre0, has B t.src = false) (hs : has B s.src = true) : comV A B = (s.src, true) := by
  obtain ⟨rest, rfl⟩ := hp
  unfold comV common
  have h1 : pre0.find? (fun s => B.any fun t => t.src == s.src) = none := by
    rw [List.find?_eq_none]
    intro u hu
    have := h u hu
    unfold has at this
    rw [this]; simp
  unfold has at hs
  have : (pre0 ++ [s] ++ rest).find? (fun s => B.any fun t => t.src == s.src) = some s := by
    rw [List.append_assoc, List.find?_append, h1]
    simp [hs]
  rw [this]
theorem blk_put {V : World} {g D : Nat} {t : TypeId} {cs : Array Value} {x : Option (List Deferred)} (h : Blk V g t cs) (hD : V.heap[D]? = some (.deferred x)) (o : Obj) : Blk (V.putObj D o) g t cs :=
  (World.putObj_heap_other (fun e => by subst e; rw [show V.heap[g]? = _ from h] at hD; cases hD)).trans h
theorem below_put {w V : World} {D : Nat} (hB : Below w.heap.size w V) (hD : w.heap.size ≤ D) (o : Obj) : Below w.heap.size w (V.putObj D o) :=
  hB.grown (grownBy_putObj' V D _) hB.size (fun k e => by cases e; exact hD)
/-- The way out of Common: two marks, two results in cells. -/
theorem out2 {w V : World} {D D2 r0 r1 : Nat} {a : Int} {b : Bool} {tmps : Array Value} {R : Ending → World → Prop} (h0 : Blk V r0 3 #[.int .i64 a]) (h1 : Blk V r1 4 #[.bool b]) (hB : Below w.heap.size w V)
    (hK : V.heap[D]? = some (.deferred (some []))) (hK2 : V.heap[D2]? = some (.deferred (some []))) (hne : D ≠ D2) (hD : w.heap.size ≤ D) (hD2 : w.heap.size ≤ D2) (ht0 : tmps[8]?.getD undef = .pointer (some ⟨r0, 0, none⟩)) (ht1 : tmps[9]?.getD undef = .pointer (some ⟨r1, 0, none⟩))
    (hR : ∀ w', Below w.heap.size w w' → R (.returned (.tuple #[.int .i64 a, .bool b])) w') :
    LeavesInM Fence.wide 9 Try.prog Try.f15 tmps R [{ target := .collected D2, args := #[] }, { target := .collected D, args := #[] }] .returning V := by
  have hK' : (V.putObj D2 (.deferred none)).heap[D]? = some (.deferred (some [])) := (World.putObj_heap_other hne).trans hK
  refine ⟨by simp, .inl ⟨_, _, rfl, run_takeDeferred hK2, ?_⟩⟩
  refine ⟨by simp, .inl ⟨_, _, rfl, run_takeDeferred hK', ?_⟩⟩
  have q0 : ((V.putObj D2 (.deferred none)).putObj D (.deferred none)).cell? ⟨r0, 0, none⟩ = some (.int .i64 a) := (blk_put (blk_put h0 hK2 (.deferred none)) hK' (.deferred none)).cell 0
  have q1 : ((V.putObj D2 (.deferred none)).putObj D (.deferred none)).cell? ⟨r1, 0, none⟩ = some (.bool b) := (blk_put (blk_put h1 hK2 (.deferred none)) hK' (.deferred none)).cell 0
  refine ⟨.tuple #[.int .i64 a, .bool b], ?_, hR _ (below_put (below_put hB hD2 _) hD _)⟩
  simp [results, Try.f15, go_sem, q0, q1, ht0, ht1]
set_option maxRecDepth 100000 in
set_option maxHeartbeats 4000000 in
theorem common_any (oa ob : Option Addr) (ca cb : Nat) (A B : List Sn) (x y : Int) (w : World) (h : Sl w oa A) (hl : A.length ≤ 60) (h' : Sl w ob B) (hl' : B.length ≤ 60) :
    Calls Try.prog 15 #[.slice oa A.length ca, .int .i64 x, .slice ob B.length cb, .int .i64 y] w fun e w' => e = .returned (.tuple #[.int .i64 (comV (line A x) (line B y)).1, .bool (comV (line A x) (line B y)).2]) ∧ Below w.heap.size w w' := by
  have hmm := @run_makeMap Try.prog
  obtain ⟨rx, hrx⟩ : ∃ rx, comV (line A x) (line B y) = rx := ⟨_, rfl⟩
  rw [hrx]
  have HRX := Lib.hid hrx
  clear hrx
  refine (callsIn_wide (n := 9)).1 ?_
  refine callsIn_of_wp_marks Try.func15 rfl trivial ?_ rfl
  simp only [Try.ntmps15, List.size_toArray, List.length_cons, List.length_nil, Nat.reduceAdd, Nat.reduceSub, Array.replicate_succ, Array.replicate_zero, List.push_toArray, List.append_toArray, List.nil_append, List.cons_append]
  gi_wp2_with (refine ⟨trivial, ?_⟩; gi_at_call 27; refine (callsIn_wide.2 (up_any ob B.length cb y _)).mono ?_; rintro e w2 ⟨rfl, rfl⟩)
  clear hmm
  have hB0 : Below w.heap.size w ((((((w.alloc (.cells #[.int .i64 0] 3)).alloc (.cells #[.bool false] 4)).alloc (.map #[] 0)).alloc (.cells #[.map (some (w.heap.size + 1 + 1))] 46)).alloc (.cells #[.slice ob B.length cb] 22)).alloc (.cells #[.int .i64 y] 3)) := below_al (below_al (below_al (below_al (below_al (below_al (Below.refl _ _))))))
  have b0 : Blk ((((((w.alloc (.cells #[.int .i64 0] 3)).alloc (.cells #[.bool false] 4)).alloc (.map #[] 0)).alloc (.cells #[.map (some (w.heap.size + 1 + 1))] 46)).alloc (.cells #[.slice ob B.length cb] 22)).alloc (.cells #[.int .i64 y] 3)) w.heap.size 3 #[.int .i64 0] := Blk.on (Blk.new' _ _ rfl) (below_al (below_al (below_al (below_al (below_al (Below.refl _ _))))))
  have b1 : Blk ((((((w.alloc (.cells #[.int .i64 0] 3)).alloc (.cells #[.bool false] 4)).alloc (.map #[] 0)).alloc (.cells #[.map (some (w.heap.size + 1 + 1))] 46)).alloc (.cells #[.slice ob B.length cb] 22)).alloc (.cells #[.int .i64 y] 3)) (w.heap.size + 1) 4 #[.bool false] := Blk.on (Blk.new' _ _ (by simp)) (below_al (below_al (below_al (below_al (Below.refl _ _)))))
  have bM : MapOf ((((((w.alloc (.cells #[.int .i64 0] 3)).alloc (.cells #[.bool false] 4)).alloc (.map #[] 0)).alloc (.cells #[.map (some (w.heap.size + 1 + 1))] 46)).alloc (.cells #[.slice ob B.length cb] 22)).alloc (.cells #[.int .i64 y] 3)) (w.heap.size + 1 + 1) [] := MapOf.on ⟨[], by have := Mp.made ((w.alloc (.cells #[.int .i64 0] 3)).alloc (.cells #[.bool false] 4)) wv; simpa using this, fun _ => rfl⟩ (below_al (below_al (below_al (Below.refl _ _))))
  have b3 : Blk ((((((w.alloc (.cells #[.int .i64 0] 3)).alloc (.cells #[.bool false] 4)).alloc (.map #[] 0)).alloc (.cells #[.map (some (w.heap.size + 1 + 1))] 46)).alloc (.cells #[.slice ob B.length cb] 22)).alloc (.cells #[.int .i64 y] 3)) (w.heap.size + 1 + 1 + 1) 46 #[.map (some (w.heap.size + 1 + 1))] := Blk.on (Blk.new' _ _ (by simp)) (below_al (below_al (Below.refl _ _)))
  have b4 : Blk ((((((w.alloc (.cells #[.int .i64 0] 3)).alloc (.cells #[.bool false] 4)).alloc (.map #[] 0)).alloc (.cells #[.map (some (w.heap.size + 1 + 1))] 46)).alloc (.cells #[.slice ob B.length cb] 22)).alloc (.cells #[.int .i64 y] 3)) (w.heap.size + 1 + 1 + 1 + 1) 22 #[.slice ob B.length cb] := Blk.on (Blk.new' _ _ (by simp)) (below_al (Below.refl _ _))
  have b5 : Blk ((((((w.alloc (.cells #[.int .i64 0] 3)).alloc (.cells #[.bool false] 4)).alloc (.map #[] 0)).alloc (.cells #[.map (some (w.heap.size + 1 + 1))] 46)).alloc (.cells #[.slice ob B.length cb] 22)).alloc (.cells #[.int .i64 y] 3)) (w.heap.size + 1 + 1 + 1 + 1 + 1) 3 #[.int .i64 y] := Blk.new' _ _ (by simp)
  obtain ⟨W0, hW0⟩ : ∃ W0, ((((((w.alloc (.cells #[.int .i64 0] 3)).alloc (.cells #[.bool false] 4)).alloc (.map #[] 0)).alloc (.cells #[.map (some (w.heap.size + 1 + 1))] 46)).alloc (.cells #[.slice ob B.length cb] 22)).alloc (.cells #[.int .i64 y] 3)) = W0 := ⟨_, rfl⟩
  rw [hW0] at hB0 b0 b1 bM b3 b4 b5 ⊢
  clear hW0
  refine range_law (gf := 30) (lb := #[.pointer (some ⟨w.heap.size + 1 + 1 + 1 + 1, 0, none⟩), .pointer (some ⟨w.heap.size + 1 + 1 + 1 + 1 + 1, 0, none⟩)]) rfl (enters_of Try.func30 (by kernel_rfl) rfl)
    (up1_in 8 ob cb B y w W0 _ _ h' hl' hB0 b4 b5) (Below.refl _ _)
    (fun pre W => Blk W w.heap.size 3 #[.int .i64 0] ∧ Blk W (w.heap.size + 1) 4 #[.bool false] ∧ MapOf W (w.heap.size + 1 + 1) pre ∧ Blk W (w.heap.size + 1 + 1 + 1) 46 #[.map (some (w.heap.size + 1 + 1))] ∧ Below w.heap.size w W)
    (fun _ _ _ => False)
    (fun s V V' hs hst => ⟨law_blk hst hs.1 rfl, law_blk hst hs.2.1 rfl, law_map hst hs.2.2.1, law_blk hst hs.2.2.2.1 rfl, law_below hst hs.2.2.2.2 hB0.size⟩)
    (fun _ _ _ _ hs _ => hs)
    ⟨b0, b1, bM, b3, hB0⟩
    (fun s a' W => ∃ g, Blk W g 25 (cell4 s) ∧ a' = { tmps := #[.slice oa A.length ca, .int .i64 x, .slice ob B.length cb, .int .i64 y, undef, undef, undef, undef, .pointer (some ⟨w.heap.size, 0, none⟩), .pointer (some ⟨w.heap.size + 1, 0, none⟩), .pointer (some ⟨w.heap.size + 1 + 1 + 1, 0, none⟩), .pointer (some ⟨g, 0, none⟩), undef, undef, undef, .map (some (w.heap.size + 1 + 1)), .slice ob B.length cb, .int .i64 y, .func (.func 30) #[] #[.pointer (some ⟨w.heap.size + 1 + 1 + 1 + 1, 0, none⟩), .pointer (some ⟨w.heap.size + 1 + 1 + 1 + 1 + 1, 0, none⟩)], sv s, undef, undef, undef, undef, undef, undef, undef, undef, undef, undef, undef, undef, undef, undef, undef, undef, undef, undef, undef], defers := [] })
    ?hAx ?assign ?body ?done ?stop
  case hAx =>
    rintro s a' V l r r' ⟨g, h1, h2⟩ hl' hlr
    refine ⟨g, ?_, h2⟩
    have hne : g ≠ l := fun e => by subst e; rw [show V.heap[g]? = _ from h1] at hlr; cases hlr
    exact (World.putObj_heap_other hne).trans h1
  case assign =>
    rintro l pre s W K ⟨i0, i1, i2, i3, i4⟩ hK
    unfold sv
    gi_wp2
    exact hK _ _ ((Keeps.refl _ W).below (below_al (Below.refl _ _))) ⟨Blk.on i0 (below_al (Below.refl _ _)), Blk.on i1 (below_al (Below.refl _ _)), i2.on (below_al (Below.refl _ _)), Blk.on i3 (below_al (Below.refl _ _)), below_al i4⟩ ⟨W.heap.size, Blk.new' _ _ rfl, rfl⟩
  case body =>
    rintro l pre s a' W hl' ⟨r, hr⟩ ⟨i0, i1, i2, i3, i4⟩ ⟨g, hg, rfl⟩ hpre
    unfold sv
    have hc : W.cell? ⟨w.heap.size + 1 + 1 + 1, 0, none⟩ = some (.map (some (w.heap.size + 1 + 1))) := i3.cell 0
    have hid : W.cell? ⟨g, 1, none⟩ = some (.int .i64 s.id) := hg.cell 1
    have hsrc : W.cell? ⟨g, 3, none⟩ = some (.int .i64 s.src) := hg.cell 3
    obtain ⟨l0, hl0, hl1⟩ := i2
    obtain ⟨o, ho, hMo⟩ := up_map hl0 s.src s.id
    have HM := Lib.hid hMo
    clear hMo
    gi_wp2
    obtain ⟨es, cl, hmm0, _⟩ := hl0
    have hne3 : (w.heap.size + 1 + 1 + 1) ≠ w.heap.size + 1 + 1 := by omega
    have hne1 : (w.heap.size + 1) ≠ w.heap.size + 1 + 1 := by omega
    have hne0 : w.heap.size ≠ w.heap.size + 1 + 1 := by omega
    refine ⟨(Keeps.refl _ W).setBlock hmm0 ?_ o, i0.setBlock hne0 o, i1.setBlock hne1 o, MapOf.put HM.out hl1, i3.setBlock hne3 o, below_set i4 o (by omega)⟩
    rintro (hx | hx)
    · omega
    · cases hx
  case done =>
    rintro D W hD ⟨i0, i1, i2, i3, i4⟩ hK
    gi_wp2_with (refine ⟨trivial, ?_⟩; gi_at_call 27; refine (callsIn_wide.2 (up_any oa A.length ca x _)).mono ?_; rintro e w2 ⟨rfl, rfl⟩)
    have hDW : D < W.heap.size := (Array.getElem?_eq_some_iff.1 hK).1
    have j0 : Blk ((W.alloc (.cells #[.slice oa A.length ca] 22)).alloc (.cells #[.int .i64 x] 3)) w.heap.size 3 #[.int .i64 0] := Blk.on i0 (below_al (below_al (Below.refl _ _)))
    have j1 : Blk ((W.alloc (.cells #[.slice oa A.length ca] 22)).alloc (.cells #[.int .i64 x] 3)) (w.heap.size + 1) 4 #[.bool false] := Blk.on i1 (below_al (below_al (Below.refl _ _)))
    have j2 : MapOf ((W.alloc (.cells #[.slice oa A.length ca] 22)).alloc (.cells #[.int .i64 x] 3)) (w.heap.size + 1 + 1) (line B y) := i2.on (below_al (below_al (Below.refl _ _)))
    have j3 : Blk ((W.alloc (.cells #[.slice oa A.length ca] 22)).alloc (.cells #[.int .i64 x] 3)) (w.heap.size + 1 + 1 + 1) 46 #[.map (some (w.heap.size + 1 + 1))] := Blk.on i3 (below_al (below_al (Below.refl _ _)))
    have j4 : Below w.heap.size w ((W.alloc (.cells #[.slice oa A.length ca] 22)).alloc (.cells #[.int .i64 x] 3)) := below_al (below_al i4)
    have j5 : ((W.alloc (.cells #[.slice oa A.length ca] 22)).alloc (.cells #[.int .i64 x] 3)).heap[D]? = some (.deferred (some [])) := ((below_al (below_al (Below.refl W.heap.size W))).block D hDW).trans hK
    have c1 : Blk ((W.alloc (.cells #[.slice oa A.length ca] 22)).alloc (.cells #[.int .i64 x] 3)) W.heap.size 22 #[.slice oa A.length ca] := Blk.on (Blk.new' _ _ rfl) (below_al (Below.refl _ _))
    have c2 : Blk ((W.alloc (.cells #[.slice oa A.length ca] 22)).alloc (.cells #[.int .i64 x] 3)) (W.heap.size + 1) 3 #[.int .i64 x] := Blk.new' _ _ (by simp)
    have hDW2 : D < ((W.alloc (.cells #[.slice oa A.length ca] 22)).alloc (.cells #[.int .i64 x] 3)).heap.size := by simp; omega
    obtain ⟨V0, hV0⟩ : ∃ V0, (W.alloc (.cells #[.slice oa A.length ca] 22)).alloc (.cells #[.int .i64 x] 3) = V0 := ⟨_, rfl⟩
    rw [hV0] at j0 j1 j2 j3 j4 j5 c1 c2 hDW2 ⊢
    clear hV0
    refine range_law (gf := 30) (lb := #[.pointer (some ⟨W.heap.size, 0, none⟩), .pointer (some ⟨W.heap.size + 1, 0, none⟩)]) rfl (enters_of Try.func30 (by kernel_rfl) rfl)
      (up1_in 8 oa ca A x w V0 _ _ h hl j4 c1 c2) (Below.refl _ _)
      (fun pre W => (∀ t ∈ pre, has (line B y) t.src = false) ∧ Blk W w.heap.size 3 #[.int .i64 0] ∧ Blk W (w.heap.size + 1) 4 #[.bool false] ∧ MapOf W (w.heap.size + 1 + 1) (line B y) ∧ Blk W (w.heap.size + 1 + 1 + 1) 46 #[.map (some (w.heap.size + 1 + 1))] ∧ Below w.heap.size w W ∧ W.heap[D]? = some (.deferred (some [])))
      (fun c pre W => c = .ret ∧ (∃ pre0 s, pre = pre0 ++ [s] ∧ (∀ t ∈ pre0, has (line B y) t.src = false) ∧ has (line B y) s.src = true ∧ Blk W w.heap.size 3 #[.int .i64 s.src] ∧ Blk W (w.heap.size + 1) 4 #[.bool true]) ∧ Below w.heap.size w W ∧ W.heap[D]? = some (.deferred (some [])))
      (fun s V V' hs hst => ⟨hs.1, law_blk hst hs.2.1 rfl, law_blk hst hs.2.2.1 rfl, law_map hst hs.2.2.2.1, law_blk hst hs.2.2.2.2.1 rfl, law_below hst hs.2.2.2.2.2.1 j4.size, hst.same D _ hs.2.2.2.2.2.2 (.inl hDW2)⟩)
      (fun c s V V' hs hst => ⟨hs.1, by obtain ⟨_, ⟨pre0, u, k1, k2, k3, k4, k5⟩, _⟩ := hs; exact ⟨pre0, u, k1, k2, k3, law_blk hst k4 rfl, law_blk hst k5 rfl⟩, law_below hst hs.2.2.1 j4.size, hst.same D _ hs.2.2.2 (.inl hDW2)⟩)
      ⟨fun t ht => (by cases ht), j0, j1, j2, j3, j4, j5⟩
      (fun s a' V => ∃ g, Blk V g 25 (cell4 s) ∧ a' = { tmps := #[.slice oa A.length ca, .int .i64 x, .slice ob B.length cb, .int .i64 y, undef, undef, undef, undef, .pointer (some ⟨w.heap.size, 0, none⟩), .pointer (some ⟨w.heap.size + 1, 0, none⟩), .pointer (some ⟨w.heap.size + 1 + 1 + 1, 0, none⟩), undef, .pointer (some ⟨g, 0, none⟩), undef, undef, .map (some (w.heap.size + 1 + 1)), .slice ob B.length cb, .int .i64 y, .func (.func 30) #[] #[.pointer (some ⟨w.heap.size + 1 + 1 + 1 + 1, 0, none⟩), .pointer (some ⟨w.heap.size + 1 + 1 + 1 + 1 + 1, 0, none⟩)], undef, undef, undef, undef, undef, undef, .slice oa A.length ca, .int .i64 x, .func (.func 30) #[] #[.pointer (some ⟨W.heap.size, 0, none⟩), .pointer (some ⟨W.heap.size + 1, 0, none⟩)], sv s, undef, undef, undef, undef, undef, undef, undef, undef, undef, undef], defers := [] })
      ?hAx2 ?assign2 ?body2 ?done2 ?stop2
    case hAx2 =>
      rintro s a' V l r r' ⟨g, h1, h2⟩ hl' hlr
      refine ⟨g, ?_, h2⟩
      have hne : g ≠ l := fun e => by subst e; rw [show V.heap[g]? = _ from h1] at hlr; cases hlr
      exact (World.putObj_heap_other hne).trans h1
    case assign2 =>
      rintro l pre s V K ⟨k0, k1, k2, k3, k4, k5, k6⟩ hK'
      have hDV : D < V.heap.size := (Array.getElem?_eq_some_iff.1 k6).1
      unfold sv
      gi_wp2
      exact hK' _ _ ((Keeps.refl _ V).below (below_al (Below.refl _ _))) ⟨k0, Blk.on k1 (below_al (Below.refl _ _)), Blk.on k2 (below_al (Below.refl _ _)), k3.on (below_al (Below.refl _ _)), Blk.on k4 (below_al (Below.refl _ _)), below_al k5, ((below_al (Below.refl V.heap.size V)).block D hDV).trans k6⟩ ⟨V.heap.size, Blk.new' _ _ rfl, rfl⟩
    case body2 =>
      rintro l pre s a' V hl' ⟨r, hr⟩ ⟨k0, k1, k2, k3, k4, k5, k6⟩ ⟨g, hg, rfl⟩ hpre
      have hDV : D < V.heap.size := (Array.getElem?_eq_some_iff.1 k6).1
      unfold sv
      have hc : V.cell? ⟨w.heap.size + 1 + 1 + 1, 0, none⟩ = some (.map (some (w.heap.size + 1 + 1))) := k4.cell 0
      have hsrc : V.cell? ⟨g, 3, none⟩ = some (.int .i64 s.src) := hg.cell 3
      have q0 : V.cell? ⟨w.heap.size, 0, none⟩ = some (.int .i64 0) := k1.cell 0
      have q1 : V.cell? ⟨w.heap.size + 1, 0, none⟩ = some (.bool false) := k2.cell 0
      have f0 := k1.free 0
      have f1 := k2.free 0
      obtain ⟨l0, hl0, hl1⟩ := k3
      obtain ⟨z, hz⟩ : ∃ z, (Mp.get s.src l0).getD 0 = z := ⟨_, rfl⟩
      cases hh : has (line B y) s.src with
      | true =>
        have hlk := look_to hl0 s.src z true hz (by rw [hl1, hh])
        have HH := Lib.hid hh
        clear hh hz
        gi_wp2
        have e3 := Blk.set k1 0 (.int .i64 s.src)
        have e4 : Blk (V.setCell ⟨w.heap.size, 0, none⟩ (.int .i64 s.src)) (w.heap.size + 1) 4 #[.bool false] := by
          unfold Blk at k2 ⊢
          rw [heap_setCell_other _ _ _ _ (by show w.heap.size + 1 ≠ w.heap.size; omega)]; exact k2
        have e5 : Blk ((V.setCell ⟨w.heap.size, 0, none⟩ (.int .i64 s.src)).setCell ⟨w.heap.size + 1, 0, none⟩ (.bool true)) w.heap.size 3 #[.int .i64 s.src] := by
          unfold Blk at e3 ⊢
          rw [heap_setCell_other _ _ _ _ (by show w.heap.size ≠ w.heap.size + 1; omega)]; exact e3
        refine ⟨((Keeps.refl _ V).setCell k1 ?_ 0 _).setCell e4 ?_ 0 _, rfl, ⟨pre, s, rfl, k0, HH.out, e5, Blk.set e4 0 (.bool true)⟩, (k5.setCell (p := ⟨w.heap.size, 0, none⟩) (Nat.le_refl _) _).setCell (p := ⟨w.heap.size + 1, 0, none⟩) (Nat.le_succ _) _, ?_⟩
        · rintro (hx | hx)
          · omega
          · cases hx
        · rintro (hx | hx)
          · omega
          · cases hx
        · have hD0 : D ≠ w.heap.size := fun e => by rw [e] at k6; rw [show V.heap[w.heap.size]? = _ from k1] at k6; cases k6
          have hD1 : D ≠ w.heap.size + 1 := fun e => by rw [e] at k6; rw [show V.heap[w.heap.size + 1]? = _ from k2] at k6; cases k6
          rw [heap_setCell_other _ _ _ _ hD1, heap_setCell_other _ _ _ _ hD0]; exact k6
      | false =>
        have hlk := look_to hl0 s.src z false hz (by rw [hl1, hh])
        have HH := Lib.hid hh
        clear hh hz
        gi_wp2
        refine ⟨Keeps.refl _ V, ?_, k1, k2, ⟨l0, hl0, hl1⟩, k4, k5, k6⟩
        intro t ht
        rcases List.mem_append.1 ht with ht | ht
        · exact k0 t ht
        · rw [List.mem_singleton.1 ht]; exact HH.out
    case done2 =>
      rintro D2 V hD2 ⟨k0, k1, k2, k3, k4, k5, k6⟩ hK2
      have q0 : V.cell? ⟨w.heap.size, 0, none⟩ = some (.int .i64 0) := k1.cell 0
      have q1 : V.cell? ⟨w.heap.size + 1, 0, none⟩ = some (.bool false) := k2.cell 0
      have f0 := k1.free 0
      have f1 := k2.free 0
      gi_wp2
      have e3 := Blk.set k1 0 (.int .i64 0)
      have e4 : Blk (V.setCell ⟨w.heap.size, 0, none⟩ (.int .i64 0)) (w.heap.size + 1) 4 #[.bool false] := by
        unfold Blk at k2 ⊢
        rw [heap_setCell_other _ _ _ _ (by show w.heap.size + 1 ≠ w.heap.size; omega)]; exact k2
      have e5 : Blk ((V.setCell ⟨w.heap.size, 0, none⟩ (.int .i64 0)).setCell ⟨w.heap.size + 1, 0, none⟩ (.bool false)) w.heap.size 3 #[.int .i64 0] := by
        unfold Blk at e3 ⊢
        rw [heap_setCell_other _ _ _ _ (by show w.heap.size ≠ w.heap.size + 1; omega)]; exact e3
      have hfar : ∀ E : Nat, V.heap[E]? = some (Obj.deferred (some [])) → ((V.setCell ⟨w.heap.size, 0, none⟩ (.int .i64 0)).setCell ⟨w.heap.size + 1, 0, none⟩ (.bool false)).heap[E]? = some (Obj.deferred (some [])) := fun E k => by
        have hD0 : E ≠ w.heap.size := fun e => by rw [e] at k; rw [show V.heap[w.heap.size]? = _ from k1] at k; cases k
        have hD1 : E ≠ w.heap.size + 1 := fun e => by rw [e] at k; rw [show V.heap[w.heap.size + 1]? = _ from k2] at k; cases k
        rw [heap_setCell_other _ _ _ _ hD1, heap_setCell_other _ _ _ _ hD0]; exact k
      have hr := HRX.out
      rw [com_none k0] at hr
      subst hr
      exact out2 e5 (Blk.set e4 0 (.bool false)) ((k5.setCell (p := ⟨w.heap.size, 0, none⟩) (Nat.le_refl _) _).setCell (p := ⟨w.heap.size + 1, 0, none⟩) (Nat.le_succ _) _) (hfar D k6) (hfar D2 hK2) (by omega) (Nat.le_trans hB0.size hD) (Nat.le_trans j4.size hD2) rfl rfl (fun w' hb => ⟨rfl, hb⟩)
    case stop2 =>
      rintro D2 c pre V hD2 hpre ⟨rfl, ⟨pre0, s, rfl, k2, k3, k4, k5⟩, k6, k7⟩ hK2
      gi_wp2
      have hr := HRX.out
      rw [com_some hpre k2 k3] at hr
      subst hr
      exact out2 k4 k5 k6 k7 hK2 (by omega) (Nat.le_trans hB0.size hD) (Nat.le_trans j4.size hD2) rfl rfl (fun w' hb => ⟨rfl, hb⟩)
  case stop =>
    rintro D c pre W _ _ h _
    exact h.elim
end Go.Proofs.Ytlbdeabohjokeaa
