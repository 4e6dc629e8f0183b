/- A range over an iterator that keeps a snapshot of its own in a box, between two rounds: what the two promise each other, and the statement's law. -/
import Derived.Test.YtlbdeabohjokeaaWkA
import Derived.RangeFuncNested
import Derived.RangeFuncBound
import Derived.RangeFuncCalls
import Derived.RangeFuncLeaves
import Derived.Shelf.Abstract
import Derived.Shelf.RegionOpen
import Derived.OwnWalkIn
import Derived.TacticsInMore
import Derived.LoopNIn
import Derived.LoopIn
namespace Go.Proofs.Ytlbdeabohjokeaa
open Go.RowKit Mp Ln

/-- The kinds of blocks: snapshots; what the language keeps for a loop; all else. -/
def isSnap : Obj → Bool
  | .cells _ t _ => t == 25
  | _ => false
def isBook : Obj → Bool
  | .loop _ => true
  | .deferred _ => true
  | _ => false
/-- What a round may not touch. -/
def tied (o : Obj) : Bool := isSnap o || isBook o || (match o with | .cells _ t _ => t == 22 | _ => false)
structure Keeps (p : Nat → Obj → Prop) (V V' : World) : Prop where
  os : V'.os = V.os
  tape : V'.tape = V.tape
  output : V'.output = V.output
  size : V.heap.size ≤ V'.heap.size
  same : ∀ k o, V.heap[k]? = some o → p k o → V'.heap[k]? = some o
theorem Keeps.refl (p : Nat → Obj → Prop) (V : World) : Keeps p V V := ⟨rfl, rfl, rfl, Nat.le_refl _, fun _ _ h _ => h⟩
theorem Keeps.trans {p : Nat → Obj → Prop} {A B C : World} (h : Keeps p A B) (k : Keeps p B C) : Keeps p A C :=
  ⟨k.os.trans h.os, k.tape.trans h.tape, k.output.trans h.output, Nat.le_trans h.size k.size, fun i o hi hp => k.same i o (h.same i o hi hp) hp⟩
theorem Keeps.mono {p q : Nat → Obj → Prop} {A B : World} (h : Keeps p A B) (hq : ∀ k o, A.heap[k]? = some o → q k o → p k o) : Keeps q A B :=
  ⟨h.os, h.tape, h.output, h.size, fun k o hk hp => h.same k o hk (hq k o hk hp)⟩
theorem Keeps.below {p : Nat → Obj → Prop} {A B C : World} (h : Keeps p A B) (hb : Below B.heap.size B C) : Keeps p A C :=
  ⟨hb.os.trans h.os, hb.tape.trans h.tape, hb.output.trans h.output, Nat.le_trans h.size hb.size, fun k o hk hp => by
    have := h.same k o hk hp
    rw [hb.block k (Array.getElem?_eq_some_iff.1 this).1]; exact this⟩
theorem Keeps.putObj {p : Nat → Obj → Prop} {W : World} {r : Nat} {o : Obj} (o' : Obj) (h : W.heap[r]? = some o) (hp : ¬ p r o) : Keeps p W (W.putObj r o') :=
  ⟨rfl, rfl, rfl, by simp, fun k o2 hk h2 => by
    by_cases e : k = r
    · subst e; rw [h] at hk; cases hk; exact absurd h2 hp
    · exact (World.putObj_heap_other e).trans hk⟩
/-- The iterator's step: blocks below B lie, and whatever is no snapshot. -/
abbrev StepIt (B : Nat) := Keeps fun k o => k < B ∨ isSnap o = false
/-- What the caller's invariant abides. -/
abbrev StepLaw (B : Nat) := Keeps fun k o => k < B ∨ (isSnap o = false ∧ isBook o = false)
/-- A round's word. -/
abbrev Round (n₀ : Nat) := Keeps fun k o => k < n₀ ∨ tied o = true
theorem StepIt.law {B B' : Nat} {V V' : World} (h : StepIt B' V V') (hB : B ≤ B') : StepLaw B V V' := h.mono fun _ _ _ hp => hp.elim (fun a => .inl (by omega)) (fun a => .inr a.1)

/-- An iterator of the snapshots X. -/
def SeqR (n g : Nat) (lb : Array Value) (n₀ : Nat) (X : List Sn) (w : World) : Prop :=
  ∀ (l : Nat) (J Jx : List Sn → World → Prop) (W : World), Below w.heap.size w W →
    (∀ pre V V', J pre V → StepIt W.heap.size V V' → J pre V') →
    (∀ pre x W1, J pre W1 → pre ++ [x] <+: X → YieldAt Fence.wide (n - 1) Try.prog l #[sv x] W1 fun e W' =>
      (e = .returned (.bool true) ∧ J (pre ++ [x]) W' ∧ Round n₀ W1 W') ∨ (e = .returned (.bool false) ∧ Jx (pre ++ [x]) W')) →
    J [] W →
    CallsIn Fence.wide n Try.prog g (#[.func (.yield l) #[] #[]] ++ lb) W fun e W' => (∃ v, e = .returned v) ∧ (J X W' ∨ ∃ pre, pre <+: X ∧ Jx pre W')

/-- How a round's body may be left. -/
def ends (n₀ : Nat) (I : List Sn → World → Prop) (Ix : Code → List Sn → World → Prop) (xs : List Sn) (W : World) : Exit → Act → World → Prop
  | .normal, _, W' => Round n₀ W W' ∧ I xs W'
  | .ret, _, W' => Round n₀ W W' ∧ Ix .ret xs W'
  | .exit id, _, W' => Round n₀ W W' ∧ Ix (.exit id) xs W'
  | .goto t, _, W' => Round n₀ W W' ∧ Ix (.goto t) xs W'
  | .panic _, _, _ => False
  | .outgrown, _, _ => False

theorem range_law {n : Nat} {g : Operand} {p0 : Tmp} {assign body : Code} {Q : Exit → Act → World → Prop} {a : Act} {w : World}
    {gf : Nat} {lb : Array Value} (hg : a.eval g = .func (.func gf) #[] lb) (eg : ∀ args w, (callFunc gf args).run Try.prog w = .ok (.enter gf args) w)
    {n₀ : Nat} {X : List Sn} {w0 : World} (hseq : SeqR (n - 1) gf lb n₀ X w0) (hb0 : Below w0.heap.size w0 w)
    (I : List Sn → World → Prop) (Ix : Code → List Sn → World → Prop)
    (hI : ∀ s V V', I s V → StepLaw w.heap.size V V' → I s V') (hIx : ∀ c s V V', Ix c s V → StepLaw w.heap.size V V' → Ix c s V')
    (h0 : I [] w) (Ax : Sn → Act → World → Prop) (hAx : ∀ x a' V (l : Nat) (r r' : Loop), Ax x a' V → w.heap.size ≤ l → V.heap[l]? = some (.loop r) → Ax x a' (V.putObj l (.loop r')))
    (hassign : ∀ (l : Nat) (pre : List Sn) (x : Sn) (W : World) (K : Act → World → Prop), I pre W → (∀ a' W', Round n₀ W W' → I pre W' → Ax x a' W' → K a' W') →
      assign.wpIn (Fence.wide.inRound l) (n - 1 - 1) Try.prog (Exit.then K (fun _ _ _ => False)) { tmps := a.tmps.setIfInBounds p0 (sv x), defers := [] } W)
    (hbody : ∀ (l : Nat) (pre : List Sn) (x : Sn) (a' : Act) (W : World), w.heap.size ≤ l → (∃ r, W.heap[l]? = some (.loop r)) → I pre W → Ax x a' W → pre ++ [x] <+: X →
      body.wpIn (Fence.wide.inRound l) (n - 1 - 1) Try.prog (ends n₀ I Ix (pre ++ [x]) W) a' W)
    (hdone : ∀ (D : Nat) (W : World), w.heap.size ≤ D → I X W → W.heap[D]? = some (.deferred (some [])) → Q .normal { a with defers := { target := .collected D, args := #[] } :: a.defers } W)
    (hstop : ∀ (D : Nat) (c : Code) (pre : List Sn) (W : World), w.heap.size ≤ D → pre <+: X → Ix c pre W → W.heap[D]? = some (.deferred (some [])) → c.wpIn Fence.wide n Try.prog Q { a with defers := { target := .collected D, args := #[] } :: a.defers } W) :
    (Code.rangeFunc g #[p0] assign body).wpIn Fence.wide n Try.prog Q a w := by
  refine wpIn_rangeFunc ?_
  intro fn hfn
  show ∃ (l : Nat) (mark : List Deferred) (w₁ : World) (d : Deferred) (w₁' : World) (f : FuncId) (args : Array Value) (w₂ : World), (Instr.enterLoop fn a.tmps #[p0] assign body none).run Try.prog w = .ok (l, mark) w₁ ∧ _
  obtain ⟨rec, hrec⟩ : ∃ rec : LoopState → Option Code → Loop, rec = fun st pe => { state := st, pending := pe, fn, tmps := a.tmps, params := #[p0], assign, body, defers := w.heap.size } := ⟨_, rfl⟩
  obtain ⟨W1, hW1⟩ : ∃ W1, (w.alloc (.deferred (some []))).alloc (.loop (rec .ready none)) = W1 := ⟨_, rfl⟩
  have hs1 : W1.heap.size = w.heap.size + 2 := by rw [← hW1]; simp
  have hL1 : W1.heap[w.heap.size + 1]? = some (.loop (rec .ready none)) := by
    rw [← hW1]; have := World.alloc_heap_new (w.alloc (.deferred (some []))) (.loop (rec .ready none)); rwa [World.size_alloc] at this
  have hB1 : Below w.heap.size w W1 := by rw [← hW1]; exact ((Below.refl _ w).alloc (Nat.le_refl _) _).alloc (by simp) _
  have hK1 : W1.heap[w.heap.size]? = some (.deferred (some [])) := by
    rw [← hW1]; exact (Below.heap_alloc _ _ _ (by simp)).trans (World.alloc_heap_new w _)
  have hI1 : I [] W1 := hI [] w W1 h0 ((Keeps.refl _ w).below hB1)
  have hb1 : Below w0.heap.size w0 W1 := hb0.trans (hB1.mono hb0.size)
  -- the record's turns are steps that the caller abides
  have turn : ∀ (V : World) (r r' : Loop), V.heap[w.heap.size + 1]? = some (.loop r) → StepLaw w.heap.size V (V.putObj (w.heap.size + 1) (.loop r')) := fun V r r' hr =>
    Keeps.putObj _ hr (by rintro (h | ⟨_, h⟩); omega; cases h)
  refine ⟨w.heap.size + 1, [{ target := .collected w.heap.size, args := #[] }], W1, { target := .fn (.func gf) lb, args := #[.func (.yield (w.heap.size + 1)) #[] #[]] }, W1, gf,
    #[.func (.yield (w.heap.size + 1)) #[] #[]] ++ lb, W1, ?_, ?_, fun _ _ => trivial, ?_, fun h => by simp [Fence.wide] at h, ?_⟩
  · rw [← hW1, hrec]; exact run_enterLoop_outer _ _ _ _ _
  · simp only [resolve, hg]
    simp [go_sem]
  · simp [invoke, go_sem, eg]
  · refine (hseq (w.heap.size + 1)
      (fun pre W => I pre W ∧ W.heap[w.heap.size + 1]? = some (.loop (rec .ready none)) ∧ W.heap[w.heap.size]? = some (.deferred (some [])))
      (fun pre W => ∃ c, Ix c pre W ∧ W.heap[w.heap.size + 1]? = some (.loop (rec .done (some c))) ∧ W.heap[w.heap.size]? = some (.deferred (some [])))
      W1 hb1
      (fun pre V V' hs hst => ⟨hI pre V V' hs.1 (StepIt.law hst (by omega)), hst.same _ _ hs.2.1 (.inl (by omega)), hst.same _ _ hs.2.2 (.inl (by omega))⟩)
      ?_ ⟨hI1, hL1, hK1⟩).mono ?_
    · rintro pre x W ⟨hi, hl, hk⟩ hpre
      have hy := run_yield (P := Try.prog) (args := #[sv x]) hl (by rw [hrec]; rfl)
      rw [hrec] at hy
      have hz : (Array.zip #[p0] #[sv x]).foldl (fun (t : Array Value) (q : Tmp × Value) => t.setIfInBounds q.1 q.2) a.tmps = a.tmps.setIfInBounds p0 (sv x) := by simp [Array.zip]
      replace hy : (Instr.yield (w.heap.size + 1) #[sv x]).run Try.prog W = .ok (.round (w.heap.size + 1) fn (a.tmps.setIfInBounds p0 (sv x)) assign body) W := by rw [← hz]; exact hy
      refine ⟨fn, _, assign, body, hy, roundIn_of_wpIn hfn ?_⟩
      clear hy
      refine hassign _ pre x W _ hi ?_
      intro a' Wa hra hia hax
      have hla := hra.same _ _ hl (.inr rfl)
      have hka := hra.same _ _ hk (.inr rfl)
      have hlt : w.heap.size + 1 < Wa.heap.size := (Array.getElem?_eq_some_iff.1 hla).1
      refine ⟨_, run_beginRound hla (by rw [hrec]), ?_⟩
      have hl2 : (Wa.putObj (w.heap.size + 1) (.loop { rec .ready none with state := .busy })).heap[w.heap.size + 1]? = some (.loop { rec .ready none with state := .busy }) := World.putObj_heap_same hlt
      have hk2 : (Wa.putObj (w.heap.size + 1) (.loop { rec .ready none with state := .busy })).heap[w.heap.size]? = some (.deferred (some [])) := (World.putObj_heap_other (by omega)).trans hka
      refine wpIn_mono (hbody _ pre x a' _ (by omega) ⟨_, hl2⟩ (hI _ _ _ hia (turn _ _ _ hla)) (hAx x a' _ _ _ _ hax (by omega) hla) hpre) ?_
      have fin : ∀ (jump : Option Code) (W3 : World), Round n₀ (Wa.putObj (w.heap.size + 1) (.loop { rec .ready none with state := .busy })) W3 →
          (Instr.endRound (w.heap.size + 1) jump).run Try.prog W3 = .ok (.bool jump.isNone) (W3.putObj (w.heap.size + 1) (.loop (rec (if jump.isNone then .ready else .done) jump))) ∧
          W3.heap[w.heap.size + 1]? = some (.loop { rec .ready none with state := .busy }) ∧
          (W3.putObj (w.heap.size + 1) (.loop (rec (if jump.isNone then .ready else .done) jump))).heap[w.heap.size + 1]? = some (.loop (rec (if jump.isNone then .ready else .done) jump)) ∧
          (W3.putObj (w.heap.size + 1) (.loop (rec (if jump.isNone then .ready else .done) jump))).heap[w.heap.size]? = some (.deferred (some [])) := fun jump W3 hk3 => by
        have hl3 := hk3.same _ _ hl2 (.inr rfl)
        have := run_endRound (P := Try.prog) jump hl3
        rw [hrec] at this ⊢
        exact ⟨this, by rw [hrec] at hl3; exact hl3, World.putObj_heap_same (Array.getElem?_eq_some_iff.1 hl3).1, (World.putObj_heap_other (by omega)).trans (hk3.same _ _ hk2 (.inr rfl))⟩
      rintro e a3 W3 hp
      cases e with
      | normal =>
        obtain ⟨hk3, hi3⟩ := hp
        obtain ⟨hr, hl3, hl4, hk4⟩ := fin none W3 hk3
        refine ⟨_, _, hr, .inl ⟨rfl, ⟨hI _ _ _ hi3 (turn _ _ _ hl3), hl4, hk4⟩, ⟨?_, ?_, ?_, ?_, ?_⟩⟩⟩
        · exact hk3.os.trans hra.os
        · exact hk3.tape.trans hra.tape
        · exact hk3.output.trans hra.output
        · have h1 := hk3.size
          simp only [World.putObj_size] at h1 ⊢
          exact Nat.le_trans hra.size h1
        · intro k o hk hp
          by_cases e : k = w.heap.size + 1
          · rw [e] at hk ⊢
            rw [hl] at hk
            rw [hl4]
            exact hk
          · rw [World.putObj_heap_other e]
            exact hk3.same k o ((World.putObj_heap_other e).trans (hra.same k o hk hp)) hp
      | ret =>
        obtain ⟨hk3, hi3⟩ := hp
        obtain ⟨hr, hl3, hl4, hk4⟩ := fin (some .ret) W3 hk3
        exact ⟨_, _, hr, .inr ⟨rfl, .ret, hIx _ _ _ _ hi3 (turn _ _ _ hl3), hl4, hk4⟩⟩
      | exit id =>
        obtain ⟨hk3, hi3⟩ := hp
        obtain ⟨hr, hl3, hl4, hk4⟩ := fin (some (.exit id)) W3 hk3
        exact ⟨_, _, hr, .inr ⟨rfl, .exit id, hIx _ _ _ _ hi3 (turn _ _ _ hl3), hl4, hk4⟩⟩
      | goto t =>
        obtain ⟨hk3, hi3⟩ := hp
        obtain ⟨hr, hl3, hl4, hk4⟩ := fin (some (.goto t)) W3 hk3
        exact ⟨_, _, hr, .inr ⟨rfl, .goto t, hIx _ _ _ _ hi3 (turn _ _ _ hl3), hl4, hk4⟩⟩
      | panic ch => exact hp.elim
      | outgrown => exact hp.elim
    · rintro e W2 ⟨⟨v, rfl⟩, (⟨hi, hl, hk⟩ | ⟨pre, hSp, c, hi, hl, hk⟩)⟩
      · exact ⟨none, _, by have := run_endLoop (P := Try.prog) hl (by rw [hrec]; simp); rw [hrec] at this; exact this, hdone _ _ (Nat.le_refl _) (hI _ _ _ hi (turn _ _ _ hl)) ((World.putObj_heap_other (by omega)).trans hk)⟩
      · exact ⟨some c, _, by have := run_endLoop (P := Try.prog) hl (by rw [hrec]; simp); rw [hrec] at this; exact this, hstop _ c pre _ (Nat.le_refl _) hSp (hIx c _ _ _ hi (turn _ _ _ hl)) ((World.putObj_heap_other (by omega)).trans hk)⟩
end Go.Proofs.Ytlbdeabohjokeaa
