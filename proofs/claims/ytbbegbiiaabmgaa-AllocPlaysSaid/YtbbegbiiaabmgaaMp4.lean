/- What waits, behind what Free does: the plain law; and what a count says. -/
import Derived.Test.YtbbegbiiaabmgaaWkG
import Derived.Test.YtbbegbiiaabmgaaMp3
namespace Go.Proofs.Ytbbegbiiaabmgaa
open Mp

def over (gen : Int) : Option Int → Bool
  | some b => decide (b ≤ gen)
  | none => false
theorem free1_keep (gen n : Int) (W : Ws) (h : (keys W).Nodup) : (keys (free1 gen n W)).Nodup ∧ ∀ m, Mp.get m (free1 gen n W) = if m = n ∧ over gen (Mp.get n W) = true then none else Mp.get m W := by
  unfold free1
  cases hg : Mp.get n W with
  | none => exact ⟨h, fun m => by rw [if_neg (fun x => by cases x.2)]⟩
  | some b =>
    by_cases hb : b ≤ gen
    · have ho : over gen (some b) = true := by simpa [over] using hb
      simp only [if_pos hb]
      refine ⟨nodup_del h, fun m => ?_⟩
      rw [get_del h]
      by_cases e : m = n
      · rw [if_pos e, if_pos ⟨e, ho⟩]
      · rw [if_neg e, if_neg (fun x => e x.1)]
    · have ho : ¬ over gen (some b) = true := by simpa [over] using hb
      simp only [if_neg hb]
      exact ⟨h, fun m => by rw [if_neg (fun x => ho x.2)]⟩
theorem freeW_keep (gen lo : Int) (W : Ws) (h : (keys W).Nodup) : ∀ k : Nat, (keys (freeW gen lo k W)).Nodup ∧ ∀ m, Mp.get m (freeW gen lo k W) = if (lo ≤ m ∧ m < lo + k) ∧ over gen (Mp.get m W) = true then none else Mp.get m W
  | 0 => ⟨h, fun m => by
    have : ¬ ((lo ≤ m ∧ m < lo + ((0 : Nat) : Int)) ∧ over gen (Mp.get m W) = true) := fun x => by have := x.1; omega
    rw [if_neg this]; rfl⟩
  | k + 1 => by
    obtain ⟨h1, h2⟩ := freeW_keep gen lo W h k
    obtain ⟨h3, h4⟩ := free1_keep gen (lo + k) (freeW gen lo k W) h1
    refine ⟨h3, fun m => ?_⟩
    show Mp.get m (free1 gen (lo + k) (freeW gen lo k W)) = _
    have e1 : Mp.get (lo + k) (freeW gen lo k W) = Mp.get (lo + k) W := by
      have : ¬ ((lo ≤ lo + (k : Int) ∧ lo + (k : Int) < lo + (k : Int)) ∧ over gen (Mp.get (lo + k) W) = true) := fun x => by have := x.1; omega
      rw [h2, if_neg this]
    rw [h4, e1, h2]
    by_cases e : m = lo + k
    · rw [e]
      by_cases o : over gen (Mp.get (lo + k) W) = true
      · have a1 : lo + (k : Int) = lo + k ∧ over gen (Mp.get (lo + k) W) = true := ⟨rfl, o⟩
        have a2 : (lo ≤ lo + (k : Int) ∧ lo + (k : Int) < lo + ((k + 1 : Nat) : Int)) ∧ over gen (Mp.get (lo + k) W) = true := ⟨by omega, o⟩
        rw [if_pos a1, if_pos a2]
      · have a1 : ¬ (lo + (k : Int) = lo + k ∧ over gen (Mp.get (lo + k) W) = true) := fun x => o x.2
        have a2 : ¬ ((lo ≤ lo + (k : Int) ∧ lo + (k : Int) < lo + (k : Int)) ∧ over gen (Mp.get (lo + k) W) = true) := fun x => o x.2
        have a3 : ¬ ((lo ≤ lo + (k : Int) ∧ lo + (k : Int) < lo + ((k + 1 : Nat) : Int)) ∧ over gen (Mp.get (lo + k) W) = true) := fun x => o x.2
        rw [if_neg a1, if_neg a2, if_neg a3]
    · have a1 : ¬ (m = lo + (k : Int) ∧ over gen (Mp.get (lo + k) W) = true) := fun x => e x.1
      rw [if_neg a1]
      by_cases a2 : (lo ≤ m ∧ m < lo + (k : Int)) ∧ over gen (Mp.get m W) = true
      · have a3 : (lo ≤ m ∧ m < lo + ((k + 1 : Nat) : Int)) ∧ over gen (Mp.get m W) = true := ⟨by have := a2.1; omega, a2.2⟩
        rw [if_pos a2, if_pos a3]
      · have a3 : ¬ ((lo ≤ m ∧ m < lo + ((k + 1 : Nat) : Int)) ∧ over gen (Mp.get m W) = true) := fun x => a2 ⟨by have := x.1; omega, x.2⟩
        rw [if_neg a2, if_neg a3]
theorem empty_of {α : Type} {l : List (Int × α)} (h : ∀ p ∈ l, Mp.get p.1 l = none) : l = [] := by
  cases l with
  | nil => rfl
  | cons p l =>
    have := h p (List.mem_cons_self ..)
    rw [get_cons, if_pos rfl] at this
    cases this
theorem mem_get {α : Type} {l : List (Int × α)} (hd : (keys l).Nodup) {p : Int × α} (h : p ∈ l) : Mp.get p.1 l = some p.2 := by
  induction l with
  | nil => cases h
  | cons q l ih =>
    have h1 : q.1 ∉ keys l ∧ (keys l).Nodup := List.nodup_cons.1 hd
    rw [get_cons]
    rcases List.mem_cons.1 h with rfl | h
    · rw [if_pos rfl]
    · by_cases e : p.1 = q.1
      · exact absurd (e ▸ List.mem_map_of_mem h) h1.1
      · rw [if_neg e]; exact ih h1.2 h
theorem freeW_all {hi : Nat} {H : Hs} {W : Ws} (h : Inv 0 hi H W) : freeW 9223372036854775807 0 hi W = [] := by
  obtain ⟨h1, h2⟩ := freeW_keep 9223372036854775807 0 W h.wd hi
  apply empty_of
  intro p hp
  rw [h2]
  have hg := mem_get h1 hp
  rw [h2] at hg
  by_cases c : (0 ≤ p.1 ∧ p.1 < 0 + (hi : Int)) ∧ over 9223372036854775807 (Mp.get p.1 W) = true
  · rw [if_pos c]
  · rw [if_neg c] at hg
    have hm := h.win _ (get_mem hg)
    exfalso
    apply c
    rw [hg]
    exact ⟨⟨hm.1, by have := hm.2.1; omega⟩, by have := hm.2.2; simpa [over] using this⟩
theorem _root_.Go.Proofs.Mp.Inv.none {lo hi : Int} {H : Hs} {W : Ws} (h : Inv lo hi H W) : Inv lo hi H [] := ⟨h.hd, List.nodup_nil, h.hin, fun _ h => (by cases h)⟩
/-- How many hold a sector. -/
def cnt (n : Int) (H : Hs) : Int := ((Mp.get n H).getD (0, 0)).1
theorem cnt_cases {lo hi : Int} {H : Hs} {W : Ws} (h : Inv lo hi H W) (n : Int) : (cnt n H = 0 ∧ Mp.get n H = none) ∨ ∃ a b, Mp.get n H = some (a, b) ∧ cnt n H = a ∧ 1 ≤ a ∧ a ≤ 5000 ∧ lo ≤ n ∧ n < hi := by
  unfold cnt
  cases hg : Mp.get n H with
  | none => exact .inl ⟨rfl, rfl⟩
  | some p =>
    obtain ⟨a, b⟩ := p
    obtain ⟨h0, h1, h2, h3⟩ := h.hin _ (get_mem hg)
    exact .inr ⟨a, b, rfl, rfl, h2, h3, h0, h1⟩
theorem none_all {hi : Nat} {H : Hs} {W : Ws} (h : Inv 0 hi H W) (hz : ∀ m : Int, 0 ≤ m → m < hi → Mp.get m H = none) : H = [] :=
  empty_of fun p hp => hz p.1 (h.hin p hp).1 (h.hin p hp).2.1
end Go.Proofs.Ytbbegbiiaabmgaa
