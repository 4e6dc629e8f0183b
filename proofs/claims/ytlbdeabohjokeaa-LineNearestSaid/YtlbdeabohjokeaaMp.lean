/- A map from int, whatever its elements: as a list of pairs. No program in it. -/
import Derived.Maps.Own
import Derived.WalkKit
namespace Go.Proofs.Mp
open Go Go.ChangeMaps

variable {α : Type} {f : α → Value}
def iv (f : α → Value) (p : Int × α) : Value × Value := (.int .i64 p.1, f p.2)
def ev (e : MapEntry) : Value × Value := (e.key, e.val)
/-- Block b is the map whose entries are l, in some order of their own. -/
def Mp (w : World) (b : Nat) (f : α → Value) (l : List (Int × α)) : Prop := ∃ es clock, w.heap[b]? = some (.map es clock) ∧ es.toList.map ev = l.map (iv f)
/-- The first place of a key, and what lies there. -/
def at_ (k : Int) : List (Int × α) → Option (Nat × α)
  | [] => none
  | p :: l => if k = p.1 then some (0, p.2) else (at_ k l).map fun x => (x.1 + 1, x.2)
def get (k : Int) (l : List (Int × α)) : Option α := (at_ k l).map (·.2)
def put (k : Int) (v : α) (l : List (Int × α)) : List (Int × α) := match at_ k l with
  | some (i, _) => l.set i (k, v)
  | none => l ++ [(k, v)]
def del (k : Int) (l : List (Int × α)) : List (Int × α) := match at_ k l with
  | some (i, _) => l.eraseIdx i
  | none => l

theorem findNow_int (q : IntKind) (k : Int) : ∀ (es : List MapEntry) (l : List (Int × α)) (i : Nat), es.map ev = l.map (iv f) →
    Instr.findNow (.int q) (.int .i64 k) es i = some ((at_ k l).map fun x => (i + x.1, f x.2))
  | [], [], _, _ => rfl
  | [], _ :: _, _, h => by simp at h
  | _ :: _, [], _, h => by simp at h
  | e :: es, p :: l, i, h => by
    rw [List.map_cons, List.map_cons] at h
    obtain ⟨h1, h2⟩ := List.cons.inj h
    have hk : e.key = .int .i64 p.1 := congrArg Prod.fst h1
    have hv : e.val = f p.2 := congrArg Prod.snd h1
    unfold Instr.findNow at_
    rw [hk]
    by_cases hh : k = p.1
    · have : (k == p.1) = true := by rw [hh]; simp
      simp [Instr.sameNow, hh, hv]
    · have : (k == p.1) = false := by simpa using hh
      simp only [Instr.sameNow, this, if_true, if_neg hh]
      rw [findNow_int q k es l (i + 1) h2]
      cases at_ k l with
      | none => rfl
      | some x => simp; omega
theorem at_lt {k : Int} : ∀ {l : List (Int × α)} {i : Nat} {v : α}, at_ k l = some (i, v) → l[i]? = some (k, v)
  | [], _, _, h => by simp [at_] at h
  | p :: l, i, v, h => by
    unfold at_ at h
    by_cases hh : k = p.1
    · rw [if_pos hh] at h
      cases h
      rw [hh]; rfl
    · rw [if_neg hh] at h
      cases ha : at_ k l with
      | none => rw [ha] at h; simp at h
      | some x =>
        obtain ⟨j, u⟩ := x
        rw [ha] at h
        simp at h
        obtain ⟨rfl, rfl⟩ := h
        rw [List.getElem?_cons_succ]
        exact at_lt ha

variable {P : Program} {w : World} {t K E : TypeId} {b : Nat} {l : List (Int × α)}
theorem run_find (hK : P.underlying K = some (.int .i64)) (k : Int) {es : Array MapEntry} (h : es.toList.map ev = l.map (iv f)) :
    (Instr.findKey K (.int .i64 k) es.toList).run P w = .ok ((at_ k l).map fun x => (x.1, f x.2)) w := by
  have hf := findNow_int .i64 k es.toList l 0 h
  simp only [Instr.findKey, Sem.run_bind, run_underlying hK, Result.andThen, hf]
  cases at_ k l <;> simp
theorem run_check' (hK : P.underlying K = some (.int .i64)) (k : Int) (x : Bool) (n : Nat) : (Instr.checkKey x (n + 1) K (.int .i64 k)).run P w = .ok () w := by
  simp [Instr.checkKey, run_underlying hK, Result.andThen]
theorem run_check (hK : P.underlying K = some (.int .i64)) (k : Int) (x : Bool) : (Instr.checkKey x 10000 K (.int .i64 k)).run P w = .ok () w := run_check' hK k x 9999
theorem look_ok (ht : P.underlying t = some (.map K E)) (hK : P.underlying K = some (.int .i64)) {z : α} (hz : (zeroValue E).run P w = .ok (f z) w) (h : Mp w b f l) (k : Int) :
    (Instr.lookup t (.map (some b)) (.int .i64 k) true).run P w = .ok (.tuple #[f ((get k l).getD z), .bool (get k l).isSome]) w := by
  obtain ⟨es, clock, hb, hes⟩ := h
  unfold get
  cases ha : at_ k l with
  | none => simp [Instr.lookup, run_underlying ht, MapKept.run_getObj_map hb, run_check hK, run_find hK k hes, ha, hz, Result.andThen]
  | some x => simp [Instr.lookup, run_underlying ht, MapKept.run_getObj_map hb, run_check hK, run_find hK k hes, ha, Result.andThen]
theorem look (ht : P.underlying t = some (.map K E)) (hK : P.underlying K = some (.int .i64)) {z : α} (hz : (zeroValue E).run P w = .ok (f z) w) (h : Mp w b f l) (k : Int) :
    (Instr.lookup t (.map (some b)) (.int .i64 k) false).run P w = .ok (f ((get k l).getD z)) w := by
  obtain ⟨es, clock, hb, hes⟩ := h
  unfold get
  cases ha : at_ k l with
  | none => simp [Instr.lookup, run_underlying ht, MapKept.run_getObj_map hb, run_check hK, run_find hK k hes, ha, hz, Result.andThen]
  | some x => simp [Instr.lookup, run_underlying ht, MapKept.run_getObj_map hb, run_check hK, run_find hK k hes, ha, Result.andThen]
theorem block_set (w : World) (b : Nat) (o : Obj) (hb : b < w.heap.size) : (setBlock w b o).heap[b]? = some o := by simp [setBlock, hb]
theorem update (ht : P.underlying t = some (.map K E)) (hK : P.underlying K = some (.int .i64)) (h : Mp w b f l) (k : Int) (v : α) :
    ∃ o, (Instr.mapUpdate t (.map (some b)) (.int .i64 k) (f v)).run P w = .ok () (setBlock w b o) ∧ Mp (setBlock w b o) b f (put k v l) := by
  obtain ⟨es, clock, hb, hes⟩ := h
  have hlt : b < w.heap.size := (Array.getElem?_eq_some_iff.1 hb).1
  unfold put
  cases ha : at_ k l with
  | none =>
    refine ⟨.map (es.push ⟨.int .i64 k, f v, clock⟩) (clock + 1), ?_, _, _, block_set _ _ _ hlt, ?_⟩
    · simp [Instr.mapUpdate, run_underlying ht, MapKept.run_getObj_map hb, run_check hK, run_find hK k hes, ha, MapKept.run_setObj_map _ hb, Result.andThen, setBlock]
    · simp [hes, ev, iv]
  | some x =>
    obtain ⟨i, u⟩ := x
    have hl := at_lt ha
    have hi : (es.toList.map ev)[i]? = some (iv f (k, u)) := by rw [hes, List.getElem?_map, hl]; rfl
    rw [List.getElem?_map] at hi
    obtain ⟨e, he, hev⟩ := Option.map_eq_some_iff.1 hi
    have hk : e.key = .int .i64 k := congrArg Prod.fst hev
    have he' : es[i]? = some e := by simpa using he
    refine ⟨.map (es.modify i fun e => { e with key := .int .i64 k, val := f v }) clock, ?_, _, _, block_set _ _ _ hlt, ?_⟩
    · simp [Instr.mapUpdate, run_underlying ht, MapKept.run_getObj_map hb, run_check hK, run_find hK k hes, ha, he', hk, Instr.keyThatStays, Instr.sameBits, MapKept.run_setObj_map _ hb, Result.andThen, setBlock]
    · rw [Array.toList_modify]
      apply List.ext_getElem?
      intro j
      have hj : (es.toList.map ev)[j]? = (l.map (iv f))[j]? := by rw [hes]
      rw [List.getElem?_map, List.getElem?_map] at hj
      rw [List.getElem?_map, List.getElem?_map, List.getElem?_modify, List.getElem?_set]
      by_cases hij : i = j
      · subst hij
        have hli : i < l.length := (List.getElem?_eq_some_iff.1 hl).1
        simp [hli, he, ev, iv]
      · simpa [hij] using hj
theorem delete {ty : TypeId} (ht : P.underlying t = some (.map K E)) (hK : P.underlying K = some (.int .i64)) (h : Mp w b f l) (k : Int) :
    ∃ o, (Builtin.delete_ #[t, K] ty #[.map (some b), .int .i64 k]).run P w = .ok (.tuple #[]) (setBlock w b o) ∧ Mp (setBlock w b o) b f (del k l) := by
  obtain ⟨es, clock, hb, hes⟩ := h
  have hlt : b < w.heap.size := (Array.getElem?_eq_some_iff.1 hb).1
  unfold del
  cases ha : at_ k l with
  | none =>
    refine ⟨.map es clock, ?_, _, _, block_set _ _ _ hlt, hes⟩
    simp [Builtin.delete_, run_underlying ht, MapKept.run_getObj_map hb, run_check hK, run_find hK k hes, ha, MapKept.run_setObj_map _ hb, Result.andThen, setBlock]
  | some x =>
    obtain ⟨i, u⟩ := x
    have hl := at_lt ha
    have hjs : i < es.size := by
      have h1 : i < l.length := (List.getElem?_eq_some_iff.1 hl).1
      have h2 := congrArg List.length hes
      simp at h2
      omega
    refine ⟨.map (es.eraseIdxIfInBounds i) clock, ?_, _, _, block_set _ _ _ hlt, ?_⟩
    · simp [Builtin.delete_, run_underlying ht, MapKept.run_getObj_map hb, run_check hK, run_find hK k hes, ha, MapKept.run_setObj_map _ hb, Result.andThen, setBlock]
    · have hsub : (es.eraseIdxIfInBounds i).toList = es.toList.eraseIdx i := by
        unfold Array.eraseIdxIfInBounds
        rw [dif_pos hjs]
        simp
      show (es.eraseIdxIfInBounds i).toList.map ev = (l.eraseIdx i).map (iv f)
      rw [hsub, ChangeMaps.map_eraseIdx, ChangeMaps.map_eraseIdx, hes]
theorem Mp.made (w : World) (f : α → Value) : Mp (w.alloc (.map #[] 0)) w.heap.size f [] := ⟨#[], 0, heap_alloc_new w _, rfl⟩
theorem Mp.same {w w' : World} {b : Nat} {l : List (Int × α)} (h : Mp w b f l) (hb : w'.heap[b]? = w.heap[b]?) : Mp w' b f l := by
  obtain ⟨es, clock, h1, h2⟩ := h
  exact ⟨es, clock, hb.trans h1, h2⟩
theorem Mp.far {w : World} {b c : Nat} {l : List (Int × α)} (h : Mp w b f l) (hne : b ≠ c) (o : Obj) : Mp (setBlock w c o) b f l :=
  h.same (by simp [setBlock, Ne.symm hne])
theorem Mp.size {w : World} {b : Nat} {l : List (Int × α)} (h : Mp w b f l) : ∃ es clock, w.heap[b]? = some (.map es clock) ∧ es.size = l.length := by
  obtain ⟨es, clock, h1, h2⟩ := h
  refine ⟨es, clock, h1, ?_⟩
  have := congrArg List.length h2
  simpa using this
end Go.Proofs.Mp
