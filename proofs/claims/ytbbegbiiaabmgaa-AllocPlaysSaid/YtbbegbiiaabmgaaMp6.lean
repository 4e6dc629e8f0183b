/- What the allocator and the document's answer do, as plain functions; and that they do the same. -/
import Derived.Test.YtbbegbiiaabmgaaMp5
namespace Go.Proofs.Ytbbegbiiaabmgaa
open Mp

/-- A sector of the document's answer. -/
structure Sec where
  c : Int
  b : Int
  f : Int
  wt : Bool
abbrev Ss := Nat → Sec
def Sec.fr (s : Sec) : Bool := decide (s.c = 0) && !s.wt
def set (S : Ss) (i : Nat) (s : Sec) : Ss := fun j => if j = i then s else S j
/-- The two say the same. -/
def Tie (lo : Int) (d : Nat) (S : Ss) (H : Hs) (W : Ws) : Prop :=
  ∀ i : Nat, i < d → Mp.get (lo + i) H = (if (S i).c = 0 then none else some ((S i).c, (S i).b)) ∧ Mp.get (lo + i) W = (if (S i).wt then some (S i).f else none)
structure Same (lo : Int) (d : Nat) (S : Ss) (H : Hs) (W : Ws) : Prop where
  inv : Inv lo (lo + d) H W
  disj : Disj H W
  tie : Tie lo d S H W
theorem Same.count {lo : Int} {d : Nat} {S : Ss} {H : Hs} {W : Ws} (h : Same lo d S H W) {i : Nat} (hi : i < d) : 0 ≤ (S i).c ∧ (S i).c ≤ 5000 := by
  have h1 := (h.tie i hi).1
  by_cases e : (S i).c = 0
  · omega
  · rw [if_neg e] at h1
    have := h.inv.hin _ (get_mem h1)
    have a : 1 ≤ (S i).c := this.2.2.1
    have b : (S i).c ≤ 5000 := this.2.2.2
    omega
theorem Same.busy {lo : Int} {d : Nat} {S : Ss} {H : Hs} {W : Ws} (h : Same lo d S H W) {i : Nat} (hi : i < d) : busyB (lo + i) H W = !(S i).fr := by
  obtain ⟨h1, h2⟩ := h.tie i hi
  unfold busyB Sec.fr
  rw [h1, h2]
  by_cases e : (S i).c = 0 <;> cases (S i).wt <;> simp [e]
theorem out_none {lo : Int} {d : Nat} {H : Hs} {W : Ws} (h : Inv lo (lo + d) H W) {n : Int} (hn : n < lo ∨ lo + d ≤ n) : Mp.get n H = none ∧ Mp.get n W = none := by
  constructor
  · cases hg : Mp.get n H with
    | none => rfl
    | some v => have := h.hin _ (get_mem hg); have a : lo ≤ n := this.1; have b : n < lo + d := this.2.1; omega
  · cases hg : Mp.get n W with
    | none => rfl
    | some v => have := h.win _ (get_mem hg); have a : lo ≤ n := this.1; have b : n < lo + d := this.2.1; omega
/-- The first number that has it. -/
def fst1 (p : Nat → Bool) : Nat → Option Nat
  | 0 => none
  | d + 1 => match fst1 p d with
    | some i => some i
    | none => if p d then some d else none
theorem fst1_none {p : Nat → Bool} : ∀ {d : Nat}, fst1 p d = none → ∀ i, i < d → p i = false
  | 0, _, i, hi => absurd hi (Nat.not_lt_zero i)
  | d + 1, h, i, hi => by
    unfold fst1 at h
    cases hf : fst1 p d with
    | some j => rw [hf] at h; cases h
    | none =>
      rw [hf] at h
      by_cases e : i = d
      · subst e
        cases hp : p i with
        | false => rfl
        | true => simp [hp] at h
      · exact fst1_none hf i (by omega)
theorem fst1_some {p : Nat → Bool} : ∀ {d n : Nat}, fst1 p d = some n → n < d ∧ p n = true ∧ ∀ i, i < n → p i = false
  | 0, _, h => by cases h
  | d + 1, n, h => by
    unfold fst1 at h
    cases hf : fst1 p d with
    | some j =>
      rw [hf] at h
      cases h
      obtain ⟨h1, h2, h3⟩ := fst1_some hf
      exact ⟨by omega, h2, h3⟩
    | none =>
      rw [hf] at h
      cases hp : p d with
      | false => simp [hp] at h
      | true =>
        simp [hp] at h
        subst h
        exact ⟨by omega, hp, fst1_none hf⟩
theorem fst1_same (p q : Nat → Bool) : ∀ (d : Nat), (∀ i, i < d → p i = q i) → fst1 p d = fst1 q d
  | 0, _ => rfl
  | d + 1, h => by
    unfold fst1
    rw [fst1_same p q d fun i hi => h i (by omega), h d (by omega)]
def rAt (lo : Int) (d : Nat) (n : Int) : Option Nat := if lo ≤ n ∧ n < lo + d then some (n - lo).toNat else none
theorem rAt_none {lo : Int} {d : Nat} {n : Int} (h : rAt lo d n = none) : n < lo ∨ lo + d ≤ n := by
  unfold rAt at h
  by_cases e : lo ≤ n ∧ n < lo + d
  · rw [if_pos e] at h; cases h
  · omega
theorem rAt_some {lo : Int} {d : Nat} {n : Int} {i : Nat} (h : rAt lo d n = some i) : n = lo + i ∧ i < d := by
  unfold rAt at h
  by_cases e : lo ≤ n ∧ n < lo + d
  · rw [if_pos e] at h
    cases h
    omega
  · rw [if_neg e] at h; cases h
def aTake (lo : Int) (d : Nat) (gen : Int) (H : Hs) (W : Ws) : Int × Int × Hs := match fst1 (fun i => !busyB (lo + (i : Int)) H W) d with
  | some i => (lo + i, 0, put (lo + i) (1, gen) H)
  | none => (0, 50, H)
def rTake (lo : Int) (d : Nat) (gen : Int) (S : Ss) : Int × Int × Ss := match fst1 (fun i => (S i).fr) d with
  | some i => (lo + i, 0, set S i ⟨1, gen, 0, false⟩)
  | none => (0, 50, S)
def aMark (lo : Int) (d : Nat) (n gen : Int) (H : Hs) (W : Ws) : Int × Hs := match rAt lo d n with
  | none => (31, H)
  | some _ => if busyB n H W then (103, H) else (0, put n (1, gen) H)
def rMark (lo : Int) (d : Nat) (n gen : Int) (S : Ss) : Int × Ss := match rAt lo d n with
  | none => (31, S)
  | some i => if (S i).fr then (0, set S i ⟨1, gen, 0, false⟩) else (103, S)
def aHold (n : Int) (H : Hs) : Int × Hs := match Mp.get n H with
  | none => (51, H)
  | some (a, b) => if 5000 ≤ a then (52, H) else (0, put n (a + 1, b) H)
def rHold (lo : Int) (d : Nat) (n : Int) (S : Ss) : Int × Ss := match rAt lo d n with
  | none => (51, S)
  | some i => if (S i).c = 0 then (51, S) else if (S i).c = 5000 then (52, S) else (0, set S i { S i with c := (S i).c + 1 })
def aDrop (n gen : Int) (H : Hs) (W : Ws) : Int × Hs × Ws := match Mp.get n H with
  | none => (51, H, W)
  | some (a, b) => if 2 ≤ a then (0, put n (a - 1, b) H, W) else (0, del n H, if b = gen then W else put n gen W)
def rDrop (lo : Int) (d : Nat) (n gen : Int) (S : Ss) : Int × Ss := match rAt lo d n with
  | none => (51, S)
  | some i => if (S i).c = 0 then (51, S) else if (S i).c = 1 then (0, set S i ⟨0, 0, gen, (S i).b != gen⟩) else (0, set S i { S i with c := (S i).c - 1 })
def gone (gen : Int) (s : Sec) : Bool := s.wt && decide (s.f ≤ gen)
def rFree (gen : Int) (S : Ss) : Ss := fun i => if gone gen (S i) then ⟨0, 0, 0, false⟩ else S i
def rCnt (lo : Int) (d : Nat) (n : Int) (S : Ss) : Int := match rAt lo d n with
  | none => 0
  | some i => (S i).c

theorem Same.hold_put {lo : Int} {d : Nat} {S : Ss} {H : Hs} {W : Ws} (h : Same lo d S H W) {i : Nat} (hi : i < d) (hw : Mp.get (lo + i) W = none) (c b f : Int) (h1 : 1 ≤ c) (h2 : c ≤ 5000) : Same lo d (set S i ⟨c, b, f, false⟩) (put (lo + i) (c, b) H) W :=
  ⟨h.inv.put (by omega) (by omega) h1 h2, h.disj.take (by rw [hw]; rfl), fun j hj => by
    rw [get_put]
    unfold set
    by_cases e : j = i
    · subst e
      rw [if_pos rfl, if_pos rfl, hw]
      have : ¬ c = 0 := by omega
      simp [this]
    · rw [if_neg (by omega), if_neg e]; exact h.tie j hj⟩
theorem Same.held {lo : Int} {d : Nat} {S : Ss} {H : Hs} {W : Ws} (h : Same lo d S H W) {i : Nat} (hi : i < d) (hc : (S i).c ≠ 0) : Mp.get (lo + i) H = some ((S i).c, (S i).b) ∧ Mp.get (lo + i) W = none ∧ (S i).wt = false := by
  obtain ⟨h1, h2⟩ := h.tie i hi
  rw [if_neg hc] at h1
  have h3 := h.disj (lo + i)
  rw [h1] at h3
  refine ⟨h1, ?_, ?_⟩
  · cases hx : Mp.get (lo + i) W with | none => rfl | some v => rw [hx] at h3; cases h3
  · cases hx : (S i).wt with | false => rfl | true => rw [h2, hx] at h3; cases h3
theorem Same.take {lo : Int} {d : Nat} {S : Ss} {H : Hs} {W : Ws} (h : Same lo d S H W) (gen : Int) :
    (aTake lo d gen H W).1 = (rTake lo d gen S).1 ∧ (aTake lo d gen H W).2.1 = (rTake lo d gen S).2.1 ∧ Same lo d (rTake lo d gen S).2.2 (aTake lo d gen H W).2.2 W := by
  have e : fst1 (fun i => !busyB (lo + (i : Int)) H W) d = fst1 (fun i => (S i).fr) d := fst1_same _ _ d fun i hi => by simp [h.busy hi]
  unfold aTake rTake
  rw [e]
  cases hf : fst1 (fun i => (S i).fr) d with
  | none => exact ⟨rfl, rfl, h⟩
  | some i =>
    obtain ⟨h1, h2, _⟩ := fst1_some hf
    refine ⟨rfl, rfl, h.hold_put h1 ?_ 1 gen 0 (by omega) (by omega)⟩
    have hb := h.busy h1
    replace h2 : (S i).fr = true := h2
    rw [h2] at hb
    rw [(h.tie i h1).2]
    unfold Sec.fr at h2
    have : (S i).wt = false := by cases hx : (S i).wt with | false => rfl | true => rw [hx] at h2; simp at h2
    rw [this]; rfl
theorem Same.mark {lo : Int} {d : Nat} {S : Ss} {H : Hs} {W : Ws} (h : Same lo d S H W) (n gen : Int) :
    (aMark lo d n gen H W).1 = (rMark lo d n gen S).1 ∧ Same lo d (rMark lo d n gen S).2 (aMark lo d n gen H W).2 W := by
  unfold aMark rMark
  cases hr : rAt lo d n with
  | none => exact ⟨rfl, h⟩
  | some i =>
    obtain ⟨rfl, hi⟩ := rAt_some hr
    simp only [h.busy hi]
    cases hf : (S i).fr with
    | false => exact ⟨rfl, h⟩
    | true =>
      refine ⟨rfl, h.hold_put hi ?_ 1 gen 0 (by omega) (by omega)⟩
      rw [(h.tie i hi).2]
      unfold Sec.fr at hf
      have : (S i).wt = false := by cases hx : (S i).wt with | false => rfl | true => rw [hx] at hf; simp at hf
      rw [this]; rfl
theorem Same.hold {lo : Int} {d : Nat} {S : Ss} {H : Hs} {W : Ws} (h : Same lo d S H W) (n : Int) :
    (aHold n H).1 = (rHold lo d n S).1 ∧ Same lo d (rHold lo d n S).2 (aHold n H).2 W := by
  unfold aHold rHold
  cases hr : rAt lo d n with
  | none => rw [(out_none h.inv (rAt_none hr)).1]; exact ⟨rfl, h⟩
  | some i =>
    obtain ⟨rfl, hi⟩ := rAt_some hr
    by_cases hc : (S i).c = 0
    · rw [(h.tie i hi).1, if_pos hc]
      simp only [if_pos hc]
      exact ⟨trivial, h⟩
    · obtain ⟨h1, h2, h3⟩ := h.held hi hc
      rw [h1]
      have h4 := h.count hi
      by_cases h5 : (S i).c = 5000
      · simp [h5]; exact h
      · have h6 : ¬ 5000 ≤ (S i).c := by omega
        simp only [if_neg hc, if_neg h5, if_neg h6]
        refine ⟨trivial, ?_⟩
        have := h.hold_put hi h2 ((S i).c + 1) (S i).b (S i).f (by omega) (by omega)
        rw [← h3] at this
        exact this
theorem Same.drop {lo : Int} {d : Nat} {S : Ss} {H : Hs} {W : Ws} (h : Same lo d S H W) (n gen : Int) (hg : gen ≤ 9223372036854775807) :
    (aDrop n gen H W).1 = (rDrop lo d n gen S).1 ∧ Same lo d (rDrop lo d n gen S).2 (aDrop n gen H W).2.1 (aDrop n gen H W).2.2 := by
  unfold aDrop rDrop
  cases hr : rAt lo d n with
  | none => rw [(out_none h.inv (rAt_none hr)).1]; exact ⟨rfl, h⟩
  | some i =>
    obtain ⟨rfl, hi⟩ := rAt_some hr
    by_cases hc : (S i).c = 0
    · rw [(h.tie i hi).1, if_pos hc]
      simp only [if_pos hc]
      exact ⟨trivial, h⟩
    · obtain ⟨h1, h2, h3⟩ := h.held hi hc
      rw [h1]
      have h4 := h.count hi
      by_cases h5 : (S i).c = 1
      · have h6 : ¬ 2 ≤ (S i).c := by omega
        simp only [if_neg hc, if_pos h5, if_neg h6]
        refine ⟨trivial, ?_, ?_, ?_⟩
        · by_cases e : (S i).b = gen
          · rw [if_pos e]; exact h.inv.del _
          · rw [if_neg e]; exact (h.inv.del _).wait gen (by omega) (by omega) hg
        · by_cases e : (S i).b = gen
          · rw [if_pos e]; exact h.disj.del h.inv.hd _
          · rw [if_neg e]; exact h.disj.wait h.inv.hd _ _
        · intro j hj
          rw [get_del h.inv.hd]
          unfold set
          by_cases e : j = i
          · subst e
            rw [if_pos rfl, if_pos rfl]
            refine ⟨rfl, ?_⟩
            by_cases eb : (S j).b = gen
            · rw [if_pos eb, h2]; simp [eb]
            · rw [if_neg eb, get_put, if_pos rfl]; simp [eb]
          · have hne : ¬ lo + (j : Int) = lo + i := by omega
            rw [if_neg hne, if_neg e]
            refine ⟨(h.tie j hj).1, ?_⟩
            by_cases eb : (S i).b = gen
            · rw [if_pos eb]; exact (h.tie j hj).2
            · rw [if_neg eb, get_put, if_neg hne]; exact (h.tie j hj).2
      · have h6 : 2 ≤ (S i).c := by omega
        simp only [if_neg hc, if_neg h5, if_pos h6]
        refine ⟨trivial, ?_⟩
        have := h.hold_put hi h2 ((S i).c - 1) (S i).b (S i).f (by omega) (by omega)
        rw [← h3] at this
        exact this
theorem cntB_part (p q : Nat → Bool) : ∀ d : Nat, cntB d p = cntB d (fun i => p i && q i) + cntB d (fun i => p i && !q i)
  | 0 => rfl
  | d + 1 => by
    have := cntB_part p q d
    unfold cntB
    cases hp : p d <;> cases hq : q d <;> simp [hp, hq] <;> omega
theorem Same.free {lo : Int} {d : Nat} {S : Ss} {H : Hs} {W : Ws} (h : Same lo d S H W) (gen : Int) :
    ((W.length : Int) - (freeW gen lo d W).length = cntB d (fun i => gone gen (S i))) ∧ Same lo d (rFree gen S) H (freeW gen lo d W) := by
  have hk := (freeW_keep gen lo W h.inv.wd d).2
  have h2 : Same lo d (rFree gen S) H (freeW gen lo d W) := ⟨h.inv.freed gen lo d, h.disj.freed gen lo d h.inv.wd, fun i hi => by
    obtain ⟨t1, t2⟩ := h.tie i hi
    rw [hk, t1, t2]
    unfold rFree gone
    have hr : lo ≤ lo + (i : Int) ∧ lo + (i : Int) < lo + d := by omega
    cases hw : (S i).wt with
    | false => simp [over, hw]
    | true =>
      by_cases e : (S i).f ≤ gen
      · have hc : (S i).c = 0 := by
          by_cases hc : (S i).c = 0
          · exact hc
          · have := (h.held hi hc).2.2; rw [hw] at this; cases this
        simp [over, e, hr, hc]
      · simp [over, e, hw]⟩
  refine ⟨?_, h2⟩
  have l1 := len_waits h.inv
  have l2 := len_waits h2.inv
  have e1 : cntB d (fun i => (Mp.get (lo + (i : Int)) W).isSome) = cntB d (fun i => (S i).wt) := cntB_same d _ _ fun i hi => by
    rw [(h.tie i hi).2]; cases (S i).wt <;> rfl
  have e2 : cntB d (fun i => (Mp.get (lo + (i : Int)) (freeW gen lo d W)).isSome) = cntB d (fun i => (S i).wt && !decide ((S i).f ≤ gen)) := cntB_same d _ _ fun i hi => by
    rw [(h2.tie i hi).2]
    unfold rFree gone
    cases hw : (S i).wt with
    | false => simp [hw]
    | true => by_cases e : (S i).f ≤ gen <;> simp [e, hw]
  have e3 := cntB_part (fun i => (S i).wt) (fun i => decide ((S i).f ≤ gen)) d
  have e4 : cntB d (fun i => gone gen (S i)) = cntB d (fun i => (S i).wt && decide ((S i).f ≤ gen)) := rfl
  rw [e4]
  omega
theorem Same.cnt {lo : Int} {d : Nat} {S : Ss} {H : Hs} {W : Ws} (h : Same lo d S H W) (n : Int) : Ytbbegbiiaabmgaa.cnt n H = rCnt lo d n S := by
  unfold Ytbbegbiiaabmgaa.cnt rCnt
  cases hr : rAt lo d n with
  | none => rw [(out_none h.inv (rAt_none hr)).1]; rfl
  | some i =>
    obtain ⟨rfl, hi⟩ := rAt_some hr
    rw [(h.tie i hi).1]
    by_cases e : (S i).c = 0
    · rw [if_pos e]; simp [e]
    · rw [if_neg e]; rfl
theorem Same.room {lo : Int} {d : Nat} {S : Ss} {H : Hs} {W : Ws} (h : Same lo d S H W) : lo + d - lo - (H.length : Int) - (W.length : Int) = cntB d (fun i => (S i).fr) := by
  rw [← room_is h.inv h.disj]
  have : cntB d (fun i => !busyB (lo + (i : Int)) H W) = cntB d (fun i => (S i).fr) := cntB_same d _ _ fun i hi => by simp [h.busy hi]
  rw [this]
theorem Same.wait {lo : Int} {d : Nat} {S : Ss} {H : Hs} {W : Ws} (h : Same lo d S H W) : (W.length : Int) = cntB d (fun i => (S i).wt) := by
  have l1 := len_waits h.inv
  have e1 : cntB d (fun i => (Mp.get (lo + (i : Int)) W).isSome) = cntB d (fun i => (S i).wt) := cntB_same d _ _ fun i hi => by
    rw [(h.tie i hi).2]; cases (S i).wt <;> rfl
  omega
theorem Same.new (lo : Int) (d : Nat) : Same lo d (fun _ => ⟨0, 0, 0, false⟩) [] [] := ⟨Inv.nil _ _, Disj.nil, fun _ _ => ⟨rfl, rfl⟩⟩
end Go.Proofs.Ytbbegbiiaabmgaa
