/- Lineages, plainly: what is right, what is found, lines, what two have in common, what stands between. No program in it. -/
namespace Go.Proofs.Ln

/-- A snapshot. -/
structure Sn where
  nm : ByteArray
  id : Int
  p : Int
  src : Int
def dfl : Sn := ⟨⟨#[]⟩, 0, 0, 0⟩
def nth (L : List Sn) (i : Nat) : Sn := L.getD i dfl
def dup (L : List Sn) (i : Nat) : Bool := (List.range i).any fun k => (nth L k).src == (nth L i).src
def ok1 (L : List Sn) (i : Nat) : Bool :=
  decide (1 ≤ (nth L i).id) && decide ((nth L i).id ≤ 1099511627776) && (decide (i = 0) || decide ((nth L (i - 1)).id < (nth L i).id)) &&
    decide (0 ≤ (nth L i).p) && decide ((nth L i).p < (nth L i).id) && decide (1 ≤ (nth L i).src) && decide ((nth L i).src ≤ 1152921504606846976) && !dup L i
def good (L : List Sn) : Nat → Bool
  | 0 => true
  | i + 1 => good L i && ok1 L i
def right (L : List Sn) : Bool := good L L.length
theorem good_at {L : List Sn} : ∀ {n : Nat}, good L n = true → ∀ i, i < n → ok1 L i = true
  | 0, _, i, hi => absurd hi (Nat.not_lt_zero i)
  | n + 1, h, i, hi => by
    unfold good at h
    rw [Bool.and_eq_true] at h
    by_cases e : i = n
    · rw [e]; exact h.2
    · exact good_at h.1 i (by omega)
theorem good_le {L : List Sn} : ∀ {n m : Nat}, m ≤ n → good L n = true → good L m = true
  | 0, m, hm, _ => by
    obtain rfl : m = 0 := by omega
    rfl
  | n + 1, m, hm, h => by
    by_cases e : m = n + 1
    · rw [e]; exact h
    · unfold good at h
      rw [Bool.and_eq_true] at h
      exact good_le (by omega) h.1
theorem not_right {L : List Sn} {i : Nat} (hi : i < L.length) (h : ok1 L i = false) : right L = false := by
  cases hr : right L with
  | false => rfl
  | true => rw [good_at hr i hi] at h; cases h
theorem good_succ {L : List Sn} {i : Nat} (h1 : good L i = true) (h2 : ok1 L i = true) : good L (i + 1) = true := by unfold good; rw [h1, h2]; rfl
structure Fit (L : List Sn) (i : Nat) : Prop where
  i1 : 1 ≤ (nth L i).id
  i2 : (nth L i).id ≤ 1099511627776
  i3 : i = 0 ∨ (nth L (i - 1)).id < (nth L i).id
  p0 : 0 ≤ (nth L i).p
  p1 : (nth L i).p < (nth L i).id
  s1 : 1 ≤ (nth L i).src
  s2 : (nth L i).src ≤ 1152921504606846976
  d : dup L i = false
theorem ok1_fit {L : List Sn} {i : Nat} (h : ok1 L i = true) : Fit L i := by
  unfold ok1 at h
  simp only [Bool.and_eq_true, Bool.or_eq_true, decide_eq_true_eq, Bool.not_eq_true'] at h
  obtain ⟨⟨⟨⟨⟨⟨⟨a, b⟩, c⟩, d⟩, e⟩, f⟩, g⟩, k⟩ := h
  exact ⟨a, b, c, d, e, f, g, k⟩
theorem fit_ok1 {L : List Sn} {i : Nat} (h : Fit L i) : ok1 L i = true := by
  unfold ok1
  simp only [Bool.and_eq_true, Bool.or_eq_true, decide_eq_true_eq, Bool.not_eq_true']
  exact ⟨⟨⟨⟨⟨⟨⟨h.i1, h.i2⟩, h.i3⟩, h.p0⟩, h.p1⟩, h.s1⟩, h.s2⟩, h.d⟩
/-- The first number that has it. -/
def fst1 (p : Nat → Bool) : Nat → Option Nat
  | 0 => none
  | d + 1 => match fst1 p d with
    | some i => some i
    | none => if p d then some d else none
theorem fst1_none {p : Nat → Bool} : ∀ {d : Nat}, fst1 p d = none → ∀ i, i < d → p i = false
  | 0, _, i, hi => absurd hi (Nat.not_lt_zero i)
  | d + 1, h, i, hi => by
    unfold fst1 at h
    cases hf : fst1 p d with
    | some j => rw [hf] at h; cases h
    | none =>
      rw [hf] at h
      by_cases e : i = d
      · subst e
        cases hp : p i with
        | false => rfl
        | true => simp [hp] at h
      · exact fst1_none hf i (by omega)
theorem fst1_some {p : Nat → Bool} : ∀ {d n : Nat}, fst1 p d = some n → n < d ∧ p n = true ∧ ∀ i, i < n → p i = false
  | 0, _, h => by cases h
  | d + 1, n, h => by
    unfold fst1 at h
    cases hf : fst1 p d with
    | some j =>
      rw [hf] at h
      cases h
      obtain ⟨h1, h2, h3⟩ := fst1_some hf
      exact ⟨by omega, h2, h3⟩
    | none =>
      rw [hf] at h
      cases hp : p d with
      | false => simp [hp] at h
      | true =>
        simp [hp] at h
        subst h
        exact ⟨by omega, hp, fst1_none hf⟩
theorem fst1_hit {p : Nat → Bool} {i : Nat} : ∀ {d : Nat}, i < d → fst1 p i = none → p i = true → fst1 p d = some i
  | 0, h, _, _ => absurd h (Nat.not_lt_zero i)
  | d + 1, h, h1, h2 => by
    unfold fst1
    by_cases e : i = d
    · subst e; rw [h1, h2]; rfl
    · rw [fst1_hit (by omega) h1 h2]
theorem fst1_miss {p : Nat → Bool} {i : Nat} (h1 : fst1 p i = none) (h2 : p i = false) : fst1 p (i + 1) = none := by
  unfold fst1; rw [h1, h2]; rfl
/-- The first snapshot of a right lineage that has it. -/
def look (p : Sn → Bool) (L : List Sn) : Option Sn := if right L then (fst1 (fun i => p (nth L i)) L.length).map (nth L) else none
def find (L : List Sn) (x : Int) : Option Sn := look (fun s => s.id == x) L
def source (L : List Sn) (x : Int) : Option Sn := look (fun s => s.src == x) L
theorem look_some {p : Sn → Bool} {L : List Sn} {s : Sn} (h : look p L = some s) : right L = true ∧ p s = true ∧ ∃ i, i < L.length ∧ nth L i = s := by
  unfold look at h
  cases hr : right L with
  | false => rw [hr] at h; simp at h
  | true =>
    rw [hr, if_pos rfl] at h
    cases hf : fst1 (fun i => p (nth L i)) L.length with
    | none => rw [hf] at h; cases h
    | some i =>
      rw [hf] at h
      obtain ⟨h1, h2, _⟩ := fst1_some hf
      have e : nth L i = s := by simpa using h
      subst e
      exact ⟨rfl, h2, i, h1, rfl⟩
theorem find_some {L : List Sn} {x : Int} {s : Sn} (h : find L x = some s) : right L = true ∧ s.id = x ∧ ∃ i, i < L.length ∧ nth L i = s ∧ Fit L i := by
  obtain ⟨h1, h2, i, h3, h4⟩ := look_some h
  exact ⟨h1, by simpa using h2, i, h3, h4, ok1_fit (good_at h1 i h3)⟩
theorem id_lt {L : List Sn} : ∀ {n : Nat}, good L n = true → ∀ i j, i < j → j < n → (nth L i).id < (nth L j).id := by
  intro n h i j
  induction j with
  | zero => omega
  | succ j ih =>
    intro hij hj
    have f := ok1_fit (good_at h (j + 1) hj)
    have g := f.i3
    have e : j + 1 - 1 = j := by omega
    rw [e] at g
    rcases g with g | g
    · omega
    · by_cases e2 : i = j
      · rw [e2]; exact g
      · have := ih (by omega) (by omega); omega
theorem id_inj {L : List Sn} (h : right L = true) {i j : Nat} (hi : i < L.length) (hj : j < L.length) (e : (nth L i).id = (nth L j).id) : i = j := by
  rcases Nat.lt_trichotomy i j with c | c | c
  · have := id_lt h i j c hj; omega
  · exact c
  · have := id_lt h j i c hi; omega
theorem src_inj {L : List Sn} (h : right L = true) {i j : Nat} (hi : i < L.length) (hj : j < L.length) (e : (nth L i).src = (nth L j).src) : i = j := by
  rcases Nat.lt_trichotomy i j with c | c | c
  · have f := (ok1_fit (good_at h j hj)).d
    unfold dup at f
    rw [List.any_eq_false] at f
    have := f i (List.mem_range.2 c)
    simp [e] at this
  · exact c
  · have f := (ok1_fit (good_at h i hi)).d
    unfold dup at f
    rw [List.any_eq_false] at f
    have := f j (List.mem_range.2 c)
    simp [e] at this
theorem look_at {p : Sn → Bool} {L : List Sn} (h : right L = true) {i : Nat} (hi : i < L.length) (hp : p (nth L i) = true) (hu : ∀ j, j < L.length → p (nth L j) = true → j = i) : look p L = some (nth L i) := by
  unfold look
  rw [h, if_pos rfl]
  cases hf : fst1 (fun i => p (nth L i)) L.length with
  | none => have := fst1_none hf i hi; rw [hp] at this; cases this
  | some j =>
    obtain ⟨h1, h2, _⟩ := fst1_some hf
    rw [hu j h1 h2]; rfl
theorem find_at {L : List Sn} (h : right L = true) {i : Nat} (hi : i < L.length) : find L (nth L i).id = some (nth L i) :=
  look_at h hi (by simp) fun j hj e => id_inj h hj hi (by simpa using e)
theorem source_at {L : List Sn} (h : right L = true) {i : Nat} (hi : i < L.length) : source L (nth L i).src = some (nth L i) :=
  look_at h hi (by simp) fun j hj e => src_inj h hj hi (by simpa using e)

/-- A snapshot's line. -/
def chain (L : List Sn) : Nat → Int → List Sn
  | 0, _ => []
  | n + 1, x => match find L x with
    | none => []
    | some s => s :: chain L n s.p
theorem chain_same (L : List Sn) : ∀ (n m : Nat) (x : Int), x.toNat < n → x.toNat < m → chain L n x = chain L m x
  | 0, _, _, h, _ => absurd h (Nat.not_lt_zero _)
  | _ + 1, 0, _, _, h => absurd h (Nat.not_lt_zero _)
  | n + 1, m + 1, x, h1, h2 => by
    unfold chain
    cases hf : find L x with
    | none => rfl
    | some s =>
      obtain ⟨_, e, i, _, hn, f⟩ := find_some hf
      have a := f.p0
      have b := f.p1
      rw [hn] at a b
      simp only
      rw [chain_same L n m s.p (by omega) (by omega)]
def line (L : List Sn) (x : Int) : List Sn := chain L (x.toNat + 1) x
theorem line_none {L : List Sn} {x : Int} (h : find L x = none) : line L x = [] := by unfold line chain; rw [h]
theorem line_some {L : List Sn} {x : Int} {s : Sn} (h : find L x = some s) : line L x = s :: line L s.p := by
  obtain ⟨_, e, i, _, hn, f⟩ := find_some h
  have a := f.p0
  have b := f.p1
  rw [hn] at a b
  unfold line
  rw [chain, h]
  simp only
  rw [chain_same L x.toNat (s.p.toNat + 1) s.p (by omega) (by omega)]
/-- Whatever holds of lines, shown along them. -/
theorem line_induct {L : List Sn} {P : Int → List Sn → Prop} (h0 : ∀ x, find L x = none → P x []) (h1 : ∀ x s, find L x = some s → P s.p (line L s.p) → P x (s :: line L s.p)) (x : Int) : P x (line L x) := by
  obtain ⟨n, hn⟩ : ∃ n, x.toNat < n := ⟨x.toNat + 1, by omega⟩
  induction n generalizing x with
  | zero => omega
  | succ n ih =>
    cases hf : find L x with
    | none => rw [line_none hf]; exact h0 x hf
    | some s =>
      obtain ⟨_, e, i, _, hn', f⟩ := find_some hf
      have a := f.p0
      have b := f.p1
      rw [hn'] at a b
      rw [line_some hf]
      exact h1 x s hf (ih s.p (by omega))
theorem line_mem {L : List Sn} (x : Int) : ∀ s ∈ line L x, right L = true ∧ (∃ i, i < L.length ∧ nth L i = s) ∧ s.id ≤ x := by
  refine line_induct (P := fun x l => ∀ s ∈ l, right L = true ∧ (∃ i, i < L.length ∧ nth L i = s) ∧ s.id ≤ x) (fun _ _ _ h => by cases h) (fun x s hf ih t ht => ?_) x
  obtain ⟨h1, e, i, hi, hn, f⟩ := find_some hf
  have b := f.p1
  rw [hn] at b
  rcases List.mem_cons.1 ht with rfl | ht
  · exact ⟨h1, ⟨i, hi, hn⟩, by omega⟩
  · obtain ⟨a1, a2, a3⟩ := ih t ht
    exact ⟨a1, a2, by omega⟩
/-- Behind a snapshot of a line stands its own line. -/
theorem line_from {L : List Sn} (x : Int) : ∀ A s B, line L x = A ++ s :: B → line L s.id = s :: B ∧ ∀ t ∈ A, s.id < t.id := by
  refine line_induct (P := fun x l => ∀ A s B, l = A ++ s :: B → line L s.id = s :: B ∧ ∀ t ∈ A, s.id < t.id) (fun _ _ A s B h => by simp at h) (fun x s hf ih A t B h => ?_) x
  obtain ⟨h1, e, i, hi, hn, f⟩ := find_some hf
  have b := f.p1
  rw [hn] at b
  cases A with
  | nil =>
    have h' : s :: line L s.p = t :: B := h
    obtain ⟨rfl, rfl⟩ := List.cons.inj h'
    refine ⟨?_, fun t ht => by cases ht⟩
    rw [e, line_some hf]
  | cons a A =>
    obtain ⟨e1, h2⟩ := List.cons.inj h
    obtain ⟨k1, k2⟩ := ih A t B h2
    refine ⟨k1, fun u hu => ?_⟩
    rcases List.mem_cons.1 hu with e3 | hu
    · have := (line_mem s.p t (by rw [h2]; simp)).2.2
      rw [e3, ← e1]
      omega
    · exact k2 u hu
theorem nodup_ids {L : List Sn} (x : Int) : ((line L x).map (·.id)).Nodup := by
  refine line_induct (P := fun _ l => (l.map (·.id)).Nodup) (fun _ _ => List.nodup_nil) (fun x s hf ih => ?_) x
  obtain ⟨h1, e, i, hi, hn, f⟩ := find_some hf
  have b := f.p1
  rw [hn] at b
  rw [List.map_cons, List.nodup_cons]
  refine ⟨fun hm => ?_, ih⟩
  obtain ⟨t, ht, e2⟩ := List.mem_map.1 hm
  have := (line_mem s.p t ht).2.2
  omega
theorem sub_len : ∀ (l M : List Int), l.Nodup → (∀ x ∈ l, x ∈ M) → l.length ≤ M.length
  | [], _, _, _ => Nat.zero_le _
  | x :: l, M, hd, h => by
    obtain ⟨h1, h2⟩ := List.nodup_cons.1 hd
    have hx := h x (List.mem_cons_self ..)
    have := sub_len l (M.erase x) h2 fun y hy => by
      have : y ≠ x := fun e => h1 (e ▸ hy)
      exact (List.mem_erase_of_ne this).2 (h y (List.mem_cons_of_mem _ hy))
    have e := List.length_erase_of_mem hx
    have := List.length_pos_of_mem hx
    rw [List.length_cons]
    omega
theorem nth_mem {L : List Sn} {i : Nat} (h : i < L.length) : nth L i ∈ L := by
  unfold nth
  rw [List.getD_eq_getElem?_getD, List.getElem?_eq_getElem h]
  exact List.getElem_mem h
theorem line_len (L : List Sn) (x : Int) : (line L x).length ≤ L.length := by
  have := sub_len ((line L x).map (·.id)) (L.map (·.id)) (nodup_ids x) fun y hy => by
    obtain ⟨s, hs, rfl⟩ := List.mem_map.1 hy
    obtain ⟨_, ⟨i, hi, rfl⟩, _⟩ := line_mem x s hs
    exact List.mem_map_of_mem (nth_mem hi)
  simpa using this
/-- The first of A that stands in B, too, by its Source. -/
def common (A B : List Sn) : Option Sn := A.find? fun s => B.any fun t => t.src == s.src
/-- What stands between: the numbers up to one's own, the last first. -/
def upTo (y : Int) : List Sn → Option (List Int)
  | [] => none
  | s :: l => if s.id = y then some [] else (upTo y l).map (· ++ [s.id])
def ids (A : List Sn) : List Int := A.map (·.id)
end Go.Proofs.Ln
