/- How many sectors are held, wait, or are free: counted sector by sector. -/
import Derived.Test.YtbbegbiiaabmgaaMp4
namespace Go.Proofs.Ytbbegbiiaabmgaa
open Mp

/-- Of the first so many numbers, how many have it. -/
def cntB : Nat → (Nat → Bool) → Nat
  | 0, _ => 0
  | d + 1, p => cntB d p + if p d then 1 else 0
theorem cntB_same : ∀ (d : Nat) (p q : Nat → Bool), (∀ i, i < d → p i = q i) → cntB d p = cntB d q
  | 0, _, _, _ => rfl
  | d + 1, p, q, h => by
    unfold cntB
    rw [cntB_same d p q fun i hi => h i (by omega), h d (by omega)]
theorem cntB_le (p : Nat → Bool) : ∀ d : Nat, cntB d p ≤ d
  | 0 => Nat.le_refl _
  | d + 1 => by
    have := cntB_le p d
    unfold cntB
    split <;> omega
theorem cntB_none (p : Nat → Bool) : ∀ d : Nat, (∀ i, i < d → p i = false) → cntB d p = 0
  | 0, _ => rfl
  | d + 1, h => by
    unfold cntB
    rw [cntB_none p d fun i hi => h i (by omega), h d (by omega)]
    rfl
theorem cntB_sum (a b c : Nat → Bool) : ∀ d : Nat, (∀ i, i < d → (a i && b i) = false ∧ c i = !(a i || b i)) → cntB d a + cntB d b + cntB d c = d
  | 0, _ => rfl
  | d + 1, h => by
    have h1 := cntB_sum a b c d fun i hi => h i (by omega)
    obtain ⟨h2, h3⟩ := h d (by omega)
    unfold cntB
    rw [h3]
    cases ha : a d <;> cases hb : b d <;> simp_all <;> omega
theorem count_keys (lo : Int) : ∀ (d : Nat) (l : List Int), l.Nodup → (∀ x ∈ l, lo ≤ x ∧ x < lo + d) → l.length = cntB d (fun i => decide (lo + (i : Int) ∈ l))
  | 0, l, _, h => by
    cases l with
    | nil => rfl
    | cons x l => have := h x (List.mem_cons_self ..); omega
  | d + 1, l, hd, h => by
    unfold cntB
    by_cases hm : lo + (d : Int) ∈ l
    · have h1 := List.length_erase_of_mem hm
      have h2 := count_keys lo d (l.erase (lo + (d : Int))) (hd.erase _) fun x hx => by
        have h3 := (List.Nodup.mem_erase_iff hd).1 hx
        have := h x h3.2
        have := h3.1
        omega
      have h3 : cntB d (fun i => decide (lo + (i : Int) ∈ l.erase (lo + (d : Int)))) = cntB d (fun i => decide (lo + (i : Int) ∈ l)) :=
        cntB_same d _ _ fun i hi => by
          have : lo + (i : Int) ∈ l.erase (lo + (d : Int)) ↔ lo + (i : Int) ∈ l := by
            rw [List.Nodup.mem_erase_iff hd]
            exact ⟨fun x => x.2, fun x => ⟨by omega, x⟩⟩
          simp only [this]
      have h4 : 0 < l.length := List.length_pos_of_mem hm
      rw [if_pos (by simpa using hm)]
      omega
    · have h2 := count_keys lo d l hd fun x hx => by
        have := h x hx
        have : x ≠ lo + d := fun e => hm (e ▸ hx)
        omega
      rw [if_neg (by simpa using hm)]
      omega
theorem some_key {α : Type} {k : Int} {l : List (Int × α)} : (Mp.get k l).isSome = decide (k ∈ keys l) := by
  cases hg : Mp.get k l with
  | none => have := get_none.1 hg; simp [this]
  | some v => have : k ∈ keys l := List.mem_map_of_mem (f := (·.1)) (get_mem hg); simp [this]
theorem len_held {lo : Int} {d : Nat} {H : Hs} {W : Ws} (h : Inv lo (lo + d) H W) : H.length = cntB d (fun i => (Mp.get (lo + (i : Int)) H).isSome) := by
  have := count_keys lo d (keys H) h.hd fun x hx => by
    obtain ⟨p, hp, rfl⟩ := List.mem_map.1 hx
    have := h.hin p hp
    exact ⟨this.1, this.2.1⟩
  rw [show H.length = (keys H).length by simp [keys], this]
  exact cntB_same d _ _ fun i _ => some_key.symm
theorem len_waits {lo : Int} {d : Nat} {H : Hs} {W : Ws} (h : Inv lo (lo + d) H W) : W.length = cntB d (fun i => (Mp.get (lo + (i : Int)) W).isSome) := by
  have := count_keys lo d (keys W) h.wd fun x hx => by
    obtain ⟨p, hp, rfl⟩ := List.mem_map.1 hx
    have := h.win p hp
    exact ⟨this.1, this.2.1⟩
  rw [show W.length = (keys W).length by simp [keys], this]
  exact cntB_same d _ _ fun i _ => some_key.symm
/-- Nothing is held that waits. -/
def Disj (H : Hs) (W : Ws) : Prop := ∀ k, ((Mp.get k H).isSome && (Mp.get k W).isSome) = false
theorem room_is {lo : Int} {d : Nat} {H : Hs} {W : Ws} (h : Inv lo (lo + d) H W) (hd : Disj H W) :
    (cntB d (fun i => !busyB (lo + (i : Int)) H W) : Int) = lo + d - lo - H.length - W.length := by
  have h1 := len_held h
  have h2 := len_waits h
  have h3 := cntB_sum (fun i => (Mp.get (lo + (i : Int)) H).isSome) (fun i => (Mp.get (lo + (i : Int)) W).isSome) (fun i => !busyB (lo + (i : Int)) H W) d fun i _ => ⟨hd _, rfl⟩
  omega
theorem few {lo : Int} {d : Nat} {H : Hs} {W : Ws} (h : Inv lo (lo + d) H W) : H.length ≤ d ∧ W.length ≤ d := by
  have h1 := len_held h
  have h2 := len_waits h
  have := cntB_le (fun i => (Mp.get (lo + (i : Int)) H).isSome) d
  have := cntB_le (fun i => (Mp.get (lo + (i : Int)) W).isSome) d
  omega
theorem full_room {lo : Int} {d : Nat} {H : Hs} {W : Ws} (h : Inv lo (lo + d) H W) (hd : Disj H W) (hf : ∀ m, lo ≤ m → m < lo + d → busyB m H W = true) :
    lo + d - lo - (H.length : Int) - (W.length : Int) = 0 := by
  rw [← room_is h hd, cntB_none]
  · rfl
  · intro i hi
    rw [hf (lo + i) (by omega) (by omega)]; rfl
theorem Disj.nil : Disj [] [] := fun _ => rfl
theorem Disj.take {H : Hs} {W : Ws} (h : Disj H W) {n : Int} {c b : Int} (hb : (Mp.get n W).isSome = false) : Disj (put n (c, b) H) W := fun k => by
  rw [get_put]
  by_cases e : k = n
  · rw [if_pos e, e, hb]; rfl
  · rw [if_neg e]; exact h k
theorem Disj.upd {H : Hs} {W : Ws} (h : Disj H W) {n : Int} {c b : Int} {x : Int × Int} (hb : Mp.get n H = some x) : Disj (put n (c, b) H) W :=
  h.take (by have := h n; rw [hb] at this; simpa using this)
theorem Disj.del {H : Hs} {W : Ws} (h : Disj H W) (hd : (keys H).Nodup) (n : Int) : Disj (del n H) W := fun k => by
  rw [get_del hd]
  by_cases e : k = n
  · rw [if_pos e]; rfl
  · rw [if_neg e]; exact h k
theorem Disj.wait {H : Hs} {W : Ws} (h : Disj H W) (hd : (keys H).Nodup) (n g : Int) : Disj (Mp.del n H) (put n g W) := fun k => by
  rw [get_del hd, get_put]
  by_cases e : k = n
  · rw [if_pos e]; rfl
  · rw [if_neg e, if_neg e]; exact h k
theorem Disj.freed {H : Hs} {W : Ws} (h : Disj H W) (gen lo : Int) (d : Nat) (hw : (keys W).Nodup) : Disj H (freeW gen lo d W) := fun k => by
  rw [(freeW_keep gen lo W hw d).2]
  by_cases e : (lo ≤ k ∧ k < lo + (d : Int)) ∧ over gen (Mp.get k W) = true
  · rw [if_pos e]; simp
  · rw [if_neg e]; exact h k
theorem freeW_sub (gen lo : Int) (W : Ws) : ∀ (d : Nat), ∀ p ∈ freeW gen lo d W, p ∈ W
  | 0, _, h => h
  | d + 1, p, h => by
    have h' : p ∈ free1 gen (lo + d) (freeW gen lo d W) := h
    unfold free1 at h'
    split at h'
    · split at h'
      · exact freeW_sub gen lo W d p (mem_del h')
      · exact freeW_sub gen lo W d p h'
    · exact freeW_sub gen lo W d p h'
theorem _root_.Go.Proofs.Mp.Inv.freed {lo hi : Int} {H : Hs} {W : Ws} (h : Inv lo hi H W) (gen a : Int) (d : Nat) : Inv lo hi H (freeW gen a d W) :=
  ⟨h.hd, (freeW_keep gen a W h.wd d).1, h.hin, fun p hp => h.win p (freeW_sub gen a W d p hp)⟩
end Go.Proofs.Ytbbegbiiaabmgaa
