/- The plain laws of lists of pairs: get, put, del. -/
import Derived.Test.YtlbdeabohjokeaaMp
namespace Go.Proofs.Mp
variable {α : Type}

theorem get_nil (k : Int) : get k ([] : List (Int × α)) = none := rfl
theorem get_cons (k : Int) (p : Int × α) (l : List (Int × α)) : get k (p :: l) = if k = p.1 then some p.2 else get k l := by
  unfold get
  rw [at_]
  by_cases h : k = p.1
  · rw [if_pos h, if_pos h]; rfl
  · rw [if_neg h, if_neg h, Option.map_map]; rfl
theorem put_nil (k : Int) (v : α) : put k v [] = [(k, v)] := rfl
theorem put_cons (k : Int) (v : α) (p : Int × α) (l : List (Int × α)) : put k v (p :: l) = if k = p.1 then (k, v) :: l else p :: put k v l := by
  unfold put
  rw [at_]
  by_cases h : k = p.1
  · rw [if_pos h, if_pos h]; rfl
  · rw [if_neg h, if_neg h]
    cases at_ k l with
    | none => rfl
    | some x => rfl
theorem del_nil (k : Int) : del k ([] : List (Int × α)) = [] := rfl
theorem del_cons (k : Int) (p : Int × α) (l : List (Int × α)) : del k (p :: l) = if k = p.1 then l else p :: del k l := by
  unfold del
  rw [at_]
  by_cases h : k = p.1
  · rw [if_pos h, if_pos h]; rfl
  · rw [if_neg h, if_neg h]
    cases at_ k l with
    | none => rfl
    | some x => rfl
theorem get_put (k j : Int) (v : α) (l : List (Int × α)) : get j (put k v l) = if j = k then some v else get j l := by
  induction l with
  | nil => rw [put_nil, get_cons]
  | cons p l ih =>
    rw [put_cons]
    by_cases h : k = p.1
    · rw [if_pos h, get_cons, get_cons]
      by_cases e : j = k
      · rw [if_pos e, if_pos e]
      · rw [if_neg e, if_neg e, if_neg (fun x => e (x.trans h.symm))]
    · rw [if_neg h, get_cons, get_cons, ih]
      by_cases e : j = p.1
      · rw [if_pos e, if_pos e, if_neg (fun x => h (x.symm.trans e))]
      · rw [if_neg e, if_neg e]
def keys (l : List (Int × α)) : List Int := l.map (·.1)
theorem get_none {k : Int} {l : List (Int × α)} : get k l = none ↔ k ∉ keys l := by
  induction l with
  | nil => simp [get_nil, keys]
  | cons p l ih =>
    rw [get_cons]
    by_cases h : k = p.1
    · rw [if_pos h]; simp [keys, h]
    · rw [if_neg h, ih]; simp [keys, h]
theorem keys_del_sub (k : Int) (l : List (Int × α)) : (del k l).Sublist l := by
  induction l with
  | nil => rw [del_nil]; exact List.Sublist.refl _
  | cons p l ih =>
    rw [del_cons]
    by_cases h : k = p.1
    · rw [if_pos h]; exact List.sublist_cons_self p l
    · rw [if_neg h]; exact ih.cons_cons p
theorem nodup_del {k : Int} {l : List (Int × α)} (h : (keys l).Nodup) : (keys (del k l)).Nodup := List.Nodup.sublist ((keys_del_sub k l).map _) h
theorem keys_put (k : Int) (v : α) (l : List (Int × α)) : keys (put k v l) = if k ∈ keys l then keys l else keys l ++ [k] := by
  induction l with
  | nil => rw [put_nil]; simp [keys]
  | cons p l ih =>
    rw [put_cons]
    by_cases h : k = p.1
    · rw [if_pos h, if_pos (by simp [keys, h])]; simp [keys, h]
    · rw [if_neg h]
      show p.1 :: keys (put k v l) = _
      rw [ih]
      show _ = if k ∈ p.1 :: keys l then p.1 :: keys l else (p.1 :: keys l) ++ [k]
      by_cases e : k ∈ keys l
      · rw [if_pos e, if_pos (List.mem_cons_of_mem _ e)]
      · rw [if_neg e, if_neg (by intro x; rcases List.mem_cons.1 x with x | x; exact h x; exact e x)]; rfl
theorem nodup_put {k : Int} {v : α} {l : List (Int × α)} (h : (keys l).Nodup) : (keys (put k v l)).Nodup := by
  rw [keys_put]
  by_cases e : k ∈ keys l
  · rw [if_pos e]; exact h
  · rw [if_neg e, List.nodup_append]
    exact ⟨h, by simp, fun a ha b hb => by
      rw [List.mem_singleton] at hb
      subst hb
      intro e'
      subst e'
      exact e ha⟩
theorem get_del {k j : Int} {l : List (Int × α)} (h : (keys l).Nodup) : get j (del k l) = if j = k then none else get j l := by
  induction l with
  | nil => rw [del_nil]; simp [get_nil]
  | cons p l ih =>
    have h1 : p.1 ∉ keys l ∧ (keys l).Nodup := List.nodup_cons.1 h
    rw [del_cons]
    by_cases e : k = p.1
    · rw [if_pos e, get_cons]
      by_cases f : j = k
      · rw [if_pos f, f, e]; exact get_none.2 h1.1
      · rw [if_neg f, if_neg (fun x => f (x.trans e.symm))]
    · rw [if_neg e, get_cons, get_cons, ih h1.2]
      by_cases f : j = p.1
      · rw [if_pos f, if_pos f, if_neg (fun x => e (x.symm.trans f))]
      · rw [if_neg f, if_neg f]
end Go.Proofs.Mp
