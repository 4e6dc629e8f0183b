/- How many keys there can be, and what an allocator's two maps keep. -/
import Derived.Test.YtbbegbiiaabmgaaMp2
namespace Go.Proofs.Mp
variable {α : Type}

theorem pigeons (n : Nat) : ∀ (l : List Int), l.Nodup → (∀ x ∈ l, 0 ≤ x ∧ x < (n : Int)) → l.length ≤ n := by
  induction n with
  | zero =>
    intro l _ h
    cases l with
    | nil => exact Nat.le_refl _
    | cons x l => have := h x (List.mem_cons_self ..); omega
  | succ n ih =>
    intro l hd h
    by_cases hm : (n : Int) ∈ l
    · have h1 := List.length_erase_of_mem hm
      have h2 := ih (l.erase (n : Int)) (hd.erase _) fun x hx => by
        have h3 := (List.Nodup.mem_erase_iff hd).1 hx
        have := h x h3.2
        have := h3.1
        omega
      omega
    · have h2 := ih l hd fun x hx => by
        have := h x hx
        have : x ≠ n := fun e => hm (e ▸ hx)
        omega
      omega
theorem mem_del {k : Int} {l : List (Int × α)} {p : Int × α} (h : p ∈ del k l) : p ∈ l := (keys_del_sub k l).subset h
theorem mem_put {k : Int} {v : α} {l : List (Int × α)} {p : Int × α} (h : p ∈ put k v l) : p = (k, v) ∨ p ∈ l := by
  induction l with
  | nil => rw [put_nil] at h; exact .inl (List.mem_singleton.1 h)
  | cons q l ih =>
    rw [put_cons] at h
    by_cases e : k = q.1
    · rw [if_pos e] at h
      rcases List.mem_cons.1 h with h | h
      · exact .inl h
      · exact .inr (List.mem_cons_of_mem _ h)
    · rw [if_neg e] at h
      rcases List.mem_cons.1 h with h | h
      · exact .inr (h ▸ List.mem_cons_self ..)
      · rcases ih h with h | h
        · exact .inl h
        · exact .inr (List.mem_cons_of_mem _ h)
theorem get_mem {k : Int} {v : α} {l : List (Int × α)} (h : get k l = some v) : (k, v) ∈ l := by
  induction l with
  | nil => rw [get_nil] at h; cases h
  | cons q l ih =>
    rw [get_cons] at h
    by_cases e : k = q.1
    · rw [if_pos e] at h
      cases h
      rw [e]
      exact List.mem_cons_self ..
    · rw [if_neg e] at h
      exact List.mem_cons_of_mem _ (ih h)
/-- What the two maps of an allocator of sectors 0 to n keep. -/
structure Inv (lo hi : Int) (H : List (Int × (Int × Int))) (W : List (Int × Int)) : Prop where
  hd : (keys H).Nodup
  wd : (keys W).Nodup
  hin : ∀ p ∈ H, lo ≤ p.1 ∧ p.1 < hi ∧ 1 ≤ p.2.1 ∧ p.2.1 ≤ 5000
  win : ∀ p ∈ W, lo ≤ p.1 ∧ p.1 < hi ∧ p.2 ≤ 9223372036854775807
theorem Inv.nil (lo hi : Int) : Inv lo hi [] [] := ⟨List.nodup_nil, List.nodup_nil, fun _ h => (by cases h), fun _ h => (by cases h)⟩
theorem Inv.put {lo hi : Int} {H : List (Int × (Int × Int))} {W : List (Int × Int)} (h : Inv lo hi H W) {n c b : Int} (h0 : lo ≤ n) (h1 : n < hi) (h2 : 1 ≤ c) (h3 : c ≤ 5000) : Inv lo hi (put n (c, b) H) W :=
  ⟨nodup_put h.hd, h.wd, fun p hp => by
    rcases mem_put hp with rfl | hp
    · exact ⟨h0, h1, h2, h3⟩
    · exact h.hin p hp, h.win⟩
theorem Inv.del {lo hi : Int} {H : List (Int × (Int × Int))} {W : List (Int × Int)} (h : Inv lo hi H W) (n : Int) : Inv lo hi (del n H) W :=
  ⟨nodup_del h.hd, h.wd, fun p hp => h.hin p (mem_del hp), h.win⟩
theorem Inv.wait {lo hi : Int} {H : List (Int × (Int × Int))} {W : List (Int × Int)} (h : Inv lo hi H W) {n : Int} (b : Int) (h0 : lo ≤ n) (h1 : n < hi) (h2 : b ≤ 9223372036854775807) : Inv lo hi H (Mp.put n b W) :=
  ⟨h.hd, nodup_put h.wd, h.hin, fun p hp => by
    rcases mem_put hp with rfl | hp
    · exact ⟨h0, h1, h2⟩
    · exact h.win p hp⟩
theorem Inv.gone {lo hi : Int} {H : List (Int × (Int × Int))} {W : List (Int × Int)} (h : Inv lo hi H W) (n : Int) : Inv lo hi H (Mp.del n W) :=
  ⟨h.hd, nodup_del h.wd, h.hin, fun p hp => h.win p (mem_del hp)⟩
theorem Inv.few {hi : Nat} {H : List (Int × (Int × Int))} {W : List (Int × Int)} (h : Inv 0 hi H W) : H.length ≤ hi ∧ W.length ≤ hi := by
  constructor
  · have := pigeons hi (keys H) h.hd fun x hx => by
      obtain ⟨p, hp, rfl⟩ := List.mem_map.1 hx
      have := h.hin p hp
      exact ⟨this.1, this.2.1⟩
    simpa [keys] using this
  · have := pigeons hi (keys W) h.wd fun x hx => by
      obtain ⟨p, hp, rfl⟩ := List.mem_map.1 hx
      have := h.win p hp
      exact ⟨this.1, this.2.1⟩
    simpa [keys] using this
end Go.Proofs.Mp
