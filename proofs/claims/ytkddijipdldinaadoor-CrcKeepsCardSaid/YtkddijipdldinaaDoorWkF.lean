import Derived.Test.YtkddijipdldinaaDoorWkE
import Derived.Maps.AppendAt
import Derived.RegionTactic
import Derived.OwnWalk
namespace Go.Proofs.YtkddijipdldinaaDoor
open Go.RowKit Crc

/-! ### append of bytes onto a row of the call's own -/
section
variable {P : Program} (w : World)
theorem run_append_of_nil (base : Nat) (t ty e : TypeId) (i : TypeInfo) (size : Nat) (ht : P.underlying t = some (.slice e)) (hi : P.info? e = some i)
    (v : Value) (n : Nat) (xs : List Value) (hown : w.ownsRow base e size v n xs) (c : Nat) : (Builtin.append_ #[t, t] ty #[v, .slice none 0 c]).run P w = .ok v w := by
  rcases hown.2 with ⟨rfl, rfl⟩ | ⟨g, cap, cur, rfl, _, _, hnc, _⟩
  · simp [Builtin.append_, run_underlying ht, sizeOf, typeInfo, hi, Builtin.lenOf, Builtin.firstCells]
  · simp [Builtin.append_, run_underlying ht, sizeOf, typeInfo, hi, Builtin.lenOf, Builtin.firstCells, hnc, storeCells]
end
theorem vals_get (l : List UInt8) (j : Nat) (u : Value) (h : (vals l)[j]? = some u) : j < l.length ∧ u = .int .u8 ((l.getD j 0).toNat : Int) := by
  unfold vals at h
  rw [List.getElem?_map] at h
  rcases Nat.lt_or_ge j l.length with hj | hj
  · rw [List.getElem?_eq_getElem hj] at h
    refine ⟨hj, ?_⟩
    rw [List.getD_eq_getElem?_getD, List.getElem?_eq_getElem hj]
    simpa using h.symm
  · rw [List.getElem?_eq_none hj] at h; cases h
theorem vals_one (l : List UInt8) : ∀ u ∈ vals l, u.oneCell' = true := by
  intro u hu
  unfold vals at hu
  obtain ⟨b, _, rfl⟩ := List.mem_map.1 hu
  rfl

/-- 'append(v, x...)', x some bytes: at an operation that is wanted. -/
theorem wp_app {w : World} {o : Oper} {a : Act} {K : Act → World → Prop} {Q : Exit → Act → World → Prop} (s x : Operand)
    (ho : o.op = .call { callee := .builtin .append, args := #[s, x], argTypes := #[23, 23] })
    (base : Nat) (v : Value) (l m : List UInt8) (hs : a.eval s = v) (hown : w.ownsRow base 5 1 v l.length (vals l))
    (A : Option Addr) (c : Nat) (hx : a.eval x = .slice A m.length c) (hb : Bytes w A m) (hl : l.length ≤ 500000) (hm : m.length ≤ 500000) (hbase : base ≤ w.heap.size)
    (h : ∀ A' c' w', w'.ownsRow base 5 1 (.slice A' (l.length + m.length) c') (l.length + m.length) (vals (l ++ m)) → w.grownBy w' v.ownBlock → K (a.put o.dst (.slice A' (l.length + m.length) c')) w') : o.wp Tryd.prog a w K Q := by
  obtain ⟨i0, hi, hz0, hz1, hz2⟩ := info_parts info5
  have key : ∃ v' w', (Builtin.append_ #[23, 23] o.type #[v, .slice A m.length c]).run Tryd.prog w = .ok v' w' ∧ w'.ownsRow base 5 1 v' (l.length + m.length) (vals l ++ vals m) ∧ w.grownBy w' v.ownBlock := by
    by_cases hn : m = []
    · subst hn
      cases A with
      | none => exact ⟨v, w, run_append_of_nil w base 23 o.type 5 i0 1 Tryd.underlying23 hi v _ _ hown c, by simpa [vals] using hown, World.grownBy.refl w _⟩
      | some ad =>
        obtain ⟨v', w', hr, h2, h3, _⟩ := run_append_own (P := Tryd.prog) w base 23 o.type 5 i0 (.int .u8 0) 1 1 Tryd.underlying23 hi hz0 hz1 hz2 rfl (by decide) v l.length (vals l) hown ad 0 c [] rfl (by simp) (by simp)
          (by unfold maxLen; omega) (by omega) hbase
        exact ⟨v', w', hr, by simpa [vals] using h2, h3⟩
    · obtain ⟨b, of, rfl, hc⟩ := hb.2 hn
      obtain ⟨v', w', hr, h2, h3, _⟩ := run_append_own (P := Tryd.prog) w base 23 o.type 5 i0 (.int .u8 0) 1 1 Tryd.underlying23 hi hz0 hz1 hz2 rfl (by decide) v l.length (vals l) hown ⟨b, of, none⟩ m.length c (vals m) (by simp [vals])
        (fun j u hu => by
          obtain ⟨hj, rfl⟩ := vals_get m j u hu
          rw [add_at]
          exact hc j hj) (vals_one m) (by unfold maxLen; omega) (by omega) hbase
      exact ⟨v', w', hr, h2, h3⟩
  obtain ⟨v', w', hrun, h2, h3⟩ := key
  have e1 : vals l ++ vals m = vals (l ++ m) := by simp [vals]
  rw [e1] at h2
  have hsh : ∃ A' c', v' = .slice A' (l.length + m.length) c' := by
    rcases h2.2 with ⟨rfl, hn⟩ | ⟨g, cap, cur, rfl, _⟩
    · exact ⟨none, 0, by rw [hn]⟩
    · exact ⟨_, _, rfl⟩
  obtain ⟨A', c', rfl⟩ := hsh
  unfold Oper.wp execOp
  simp only [ho, resolve, invoke, builtin, Sem.run_bind, Sem.run_pure, Result.andThen_ok, List.map_toArray, List.map_cons, List.map_nil, hs, hx, hrun]
  exact h A' c' w' h2 h3
theorem step_app {w : World} {ops : Array Oper} {o : Oper} {a : Act} {K : Act → World → Prop} {Q : Exit → Act → World → Prop} {E : Prop} (hw : Region.wanted o (yielded ops a.tmps) = true) (s x : Operand)
    (ho : o.op = .call { callee := .builtin .append, args := #[s, x], argTypes := #[23, 23] })
    (base : Nat) (v : Value) (l m : List UInt8) (hs : a.eval s = v) (hown : w.ownsRow base 5 1 v l.length (vals l))
    (A : Option Addr) (c : Nat) (hx : a.eval x = .slice A m.length c) (hb : Bytes w A m) (hl : l.length ≤ 500000) (hm : m.length ≤ 500000) (hbase : base ≤ w.heap.size)
    (h : ∀ A' c' w', w'.ownsRow base 5 1 (.slice A' (l.length + m.length) c') (l.length + m.length) (vals (l ++ m)) → w.grownBy w' v.ownBlock → K (a.put o.dst (.slice A' (l.length + m.length) c')) w') :
    if Region.wanted o (yielded ops a.tmps) = true then Oper.wp Tryd.prog o a w K Q else E := by
  rw [if_pos hw]
  exact wp_app s x ho base v l m hs hown A c hx hb hl hm hbase h

theorem wpList_app {w : World} {ops : Array Oper} {rest : List Oper} {o : Oper} {a : Act} {Q : Exit → Act → World → Prop} (hw : Region.wanted o (yielded ops a.tmps) = true) (s x : Operand)
    (ho : o.op = .call { callee := .builtin .append, args := #[s, x], argTypes := #[23, 23] })
    (base : Nat) (v : Value) (l m : List UInt8) (hs : a.eval s = v) (hown : w.ownsRow base 5 1 v l.length (vals l))
    (A : Option Addr) (c : Nat) (hx : a.eval x = .slice A m.length c) (hb : Bytes w A m) (hl : l.length ≤ 500000) (hm : m.length ≤ 500000) (hbase : base ≤ w.heap.size)
    (h : ∀ A' c' w', w'.ownsRow base 5 1 (.slice A' (l.length + m.length) c') (l.length + m.length) (vals (l ++ m)) → w.grownBy w' v.ownBlock → wpList Tryd.prog ops Q rest (a.put o.dst (.slice A' (l.length + m.length) c')) w') :
    wpList Tryd.prog ops Q (o :: rest) a w := by
  unfold wpList
  rw [if_pos hw]
  exact Or.inl (wp_app s x ho base v l m hs hown A c hx hb hl hm hbase h)

/-! ### contracts in the forms that the laws want -/
def OwnIs (w0 wx : World) (l : List UInt8) (e : Ending) (w' : World) : Prop :=
  ∃ A cap, e = .returned (.slice A l.length cap) ∧ Bytes w' A l ∧ Below w0.heap.size w0 w' ∧ Below wx.heap.size wx w' ∧ w'.ownsRow wx.heap.size 5 1 (.slice A l.length cap) l.length (vals l)
theorem own_is {w0 : World} {A : Option Addr} {l : List UInt8} (cap : Nat) (wx : World) (hb : Bytes w0 A l) (hl : l.length ≤ 1000000) (hx : Below w0.heap.size w0 wx) :
    Calls Tryd.prog 11 #[.slice A l.length cap] wx (OwnIs w0 wx l) :=
  (own_any A l cap wx (hb.later hx) hl).mono fun _ w' ⟨_, he, hown, hbel⟩ => by
    obtain ⟨A', c', rfl, hby⟩ := bytes_of_own hown hl
    exact ⟨A', c', he, hby, hx.trans (hbel.mono hx.size), hbel, hown⟩
theorem bytes_n {w : World} {base n : Nat} {A : Option Addr} {cap : Nat} {l : List UInt8} (h : w.ownsRow base 5 1 (.slice A n cap) n (vals l)) (hl : l.length ≤ 1000000) : n = l.length ∧ Bytes w A l := by
  have h1 : n = l.length := by have := h.1; rw [vals_length] at this; omega
  subst h1
  obtain ⟨A', c', hv, hb⟩ := bytes_of_own h hl
  injection hv with e1
  subst e1
  exact ⟨rfl, hb⟩
theorem more_to (c r : BitVec 32) (A : Option Addr) (n : Nat) (l : List UInt8) (cap : Nat) (w : World) (hn : n = l.length) (hr : more c l = r) (hT : Tab w) (hb : Bytes w A l) :
    Calls Tryd.prog 13 #[.int .u32 (v c), .slice A n cap] w fun e w' => e = .returned (.int .u32 (v r)) ∧ w = w' := by
  subst hn; subst hr
  exact more_any c A l cap w hT hb
theorem refsum_to (s : ByteArray) (l : List UInt8) (w : World) (hl : s.data.toList = l) (hs : l.length ≤ 1000000) : Calls Tryd.prog 9 #[.string s] w fun e w' => e = .returned (.int .u32 (v (sum l))) ∧ w = w' := by
  subst hl
  exact refsum_any s w (by unfold maxLen; simp at hs; omega)
theorem text_to (s : ByteArray) (l : List UInt8) (w : World) (hT : Tab w) (hl : s.data.toList = l) (hs : l.length ≤ 1000000) : Calls Tryd.prog 12 #[.string s] w fun e w' => e = .returned (.int .u32 (v (sum l))) ∧ w = w' := by
  subst hl
  exact text_any s w hT (by unfold maxLen; simp at hs; omega)
theorem run_app (c : BitVec 32) (a b : List UInt8) : run c (a ++ b) = run (run c a) b := by unfold run; rw [List.foldl_append]
theorem more_app (c : BitVec 32) (a b : List UInt8) : more (more c a) b = more c (a ++ b) := by
  unfold more; rw [BitVec.not_not, run_app]
theorem sum_parts {w : World} {A : Option Addr} (L : List (List UInt8)) (n cap : Nat) (hn : L.length = n) (r : BitVec 32) (hr : sums 0#32 L = r) (hT : Tab w) (hb : Parts w A L) :
    Calls Tryd.prog 10 #[.slice A n cap] w fun e w' => e = .returned (.int .u32 (v r)) ∧ w = w' := by
  subst hn; subst hr
  exact sum_any A L cap w hT hb
theorem parts_two {w : World} {A1 A2 : Option Addr} {c1 c2 : Nat} {a b : List UInt8} (h1 : Bytes w A1 a) (h2 : Bytes w A2 b) :
    Parts (w.alloc (.cells #[.slice A1 a.length c1, .slice A2 b.length c2] 23 (0, 0))) (some ⟨w.heap.size, 0, none⟩) [a, b] :=
  ⟨by simp, fun _ => ⟨_, _, rfl, fun j hj => by
    have hj' : j < 2 := by simpa using hj
    have hal := (Below.refl w.heap.size w).alloc (Nat.le_refl _) (.cells #[.slice A1 a.length c1, .slice A2 b.length c2] 23 (0, 0))
    match j, hj' with
    | 0, _ => exact ⟨A1, c1, (World.cell?_alloc_mark _ _ _ _ _).trans rfl, h1.later hal⟩
    | 1, _ => exact ⟨A2, c2, (World.cell?_alloc_mark _ _ _ _ _).trans rfl, h2.later hal⟩⟩⟩
theorem parts_three {w : World} {A1 A2 A3 : Option Addr} {c1 c2 c3 : Nat} {a b c : List UInt8} (h1 : Bytes w A1 a) (h2 : Bytes w A2 b) (h3 : Bytes w A3 c) :
    Parts (w.alloc (.cells #[.slice A1 a.length c1, .slice A2 b.length c2, .slice A3 c.length c3] 23 (0, 0))) (some ⟨w.heap.size, 0, none⟩) [a, b, c] :=
  ⟨by simp, fun _ => ⟨_, _, rfl, fun j hj => by
    have hj' : j < 3 := by simpa using hj
    have hal := (Below.refl w.heap.size w).alloc (Nat.le_refl _) (.cells #[.slice A1 a.length c1, .slice A2 b.length c2, .slice A3 c.length c3] 23 (0, 0))
    match j, hj' with
    | 0, _ => exact ⟨A1, c1, (World.cell?_alloc_mark _ _ _ _ _).trans rfl, h1.later hal⟩
    | 1, _ => exact ⟨A2, c2, (World.cell?_alloc_mark _ _ _ _ _).trans rfl, h2.later hal⟩
    | 2, _ => exact ⟨A3, c3, (World.cell?_alloc_mark _ _ _ _ _).trans rfl, h3.later hal⟩⟩⟩
theorem app_below {w0 w1 w2 : World} {base : Nat} {v : Value} {n : Nat} {xs : List Value} (h : Below w0.heap.size w0 w1) (hown : w1.ownsRow base 5 1 v n xs) (hbase : w0.heap.size ≤ base) (hg : w1.grownBy w2 v.ownBlock) : Below w0.heap.size w0 w2 :=
  h.grown hg h.size fun k hk => Nat.le_trans hbase (hown.lt k hk).1
end Go.Proofs.YtkddijipdldinaaDoor
