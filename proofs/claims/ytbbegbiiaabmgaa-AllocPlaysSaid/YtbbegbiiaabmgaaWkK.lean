/- Four rows of fifty beside an allocator. -/
import Derived.Test.YtbbegbiiaabmgaaWkJ
import Derived.Test.YtbbegbiiaabmgaaMp5
import Derived.Laws.Rows
namespace Go.Proofs.Ytbbegbiiaabmgaa
open Go.RowKit Mp

/-- Block b is a row of fifty. -/
def Arr (w : World) (b : Nat) (t : TypeId) (f : Nat → Value) : Prop := Blk w b t (Array.ofFn (n := 50) fun i => f i.val)
theorem Arr.cell {w : World} {b : Nat} {t : TypeId} {f : Nat → Value} (h : Arr w b t f) {n : Nat} (hn : n < 50) {v : Value} (hv : f n = v) : w.cell? ⟨b, n, none⟩ = some v := by
  rw [Blk.cell h n]
  simp [hn, hv]
theorem Arr.free {w : World} {b : Nat} {t : TypeId} {f : Nat → Value} (h : Arr w b t f) (j : Nat) : w.frozen? ⟨b, j, none⟩ = false := Blk.free h j
def upd {α : Type} (f : Nat → α) (n : Nat) (v : α) : Nat → α := fun i => if i = n then v else f i
theorem ofFn_set (f : Nat → Value) (n : Nat) (v : Value) : (Array.ofFn (n := 50) fun i => f i.val).setIfInBounds n v = Array.ofFn (n := 50) fun i => upd f n v i.val := by
  apply Array.ext
  · simp
  · intro i h1 h2
    have h3 : i < 50 := by simpa using h2
    rw [Array.getElem_setIfInBounds (by simpa using h3)]
    by_cases e : n = i
    · subst e; simp [upd]
    · simp [upd, e, Ne.symm e]
theorem Arr.set {w : World} {b : Nat} {t : TypeId} {f : Nat → Value} (h : Arr w b t f) (n : Nat) (v : Value) : Arr (w.setCell ⟨b, n, none⟩ v) b t (upd f n v) := by
  have k := heap_setCell_same w b n _ t v h
  rw [ofFn_set] at k
  exact k
theorem Blk.oth {w : World} {b : Nat} {t : TypeId} {cs : Array Value} (h : Blk w b t cs) {c : Nat} (hne : b ≠ c) (j : Nat) (v : Value) : Blk (w.setCell ⟨c, j, none⟩ v) b t cs := by
  unfold Blk at h ⊢
  rw [heap_setCell_other _ _ _ _ hne]; exact h
theorem Blk.fr {w w' : World} {b hm wm : Nat} {t : TypeId} {cs : Array Value} (h : Blk w b t cs) (k : Fr hm wm w w') (h1 : b ≠ hm) (h2 : b ≠ wm) : Blk w' b t cs :=
  (k.block b (Array.getElem?_eq_some_iff.1 h).1 h1 h2).trans h
theorem Blk.on {w w' : World} {b : Nat} {t : TypeId} {cs : Array Value} (h : Blk w b t cs) (k : Below w.heap.size w w') : Blk w' b t cs :=
  (k.block b (Array.getElem?_eq_some_iff.1 h).1).trans h
theorem Arr.same {w : World} {b : Nat} {t : TypeId} {f g : Nat → Value} (h : Arr w b t f) (he : ∀ i, i < 50 → f i = g i) : Arr w b t g := by
  unfold Arr at h ⊢
  have : (Array.ofFn (n := 50) fun i => f i.val) = Array.ofFn (n := 50) fun i => g i.val := by
    congr 1
    funext i
    exact he i.val i.isLt
  rw [← this]; exact h
theorem Al.oth {w : World} {g hm wm : Nat} {lo hi : Int} {H : Hs} {W : Ws} (h : Al w g hm wm lo hi H W) {c : Nat} (h1 : c ≠ g) (h2 : c ≠ hm) (h3 : c ≠ wm) (j : Nat) (v : Value) : Al (w.setCell ⟨c, j, none⟩ v) g hm wm lo hi H W :=
  ⟨Blk.oth h.blk (Ne.symm h1) j v, h.held.same (heap_setCell_other _ _ _ _ (Ne.symm h2)), h.waits.same (heap_setCell_other _ _ _ _ (Ne.symm h3)), h.ne⟩
theorem Al.drew {w : World} {g hm wm : Nat} {lo hi : Int} {H : Hs} {W : Ws} (h : Al w g hm wm lo hi H W) : Al w.drew g hm wm lo hi H W := ⟨h.blk, h.held.same rfl, h.waits.same rfl, h.ne⟩
/-- The books of AllocOnce: what is held and what waits, since when and until when. -/
structure Books (B : Nat) (w : World) (hd wt : Nat → Bool) (bn un : Nat → Int) : Prop where
  a1 : Arr w B 28 (fun i => .bool (hd i))
  a2 : Arr w (B + 1) 28 (fun i => .bool (wt i))
  a3 : Arr w (B + 1 + 1) 29 (fun i => .int .i64 (bn i))
  a4 : Arr w (B + 1 + 1 + 1) 29 (fun i => .int .i64 (un i))
theorem Books.on {B : Nat} {w w' : World} {hd wt : Nat → Bool} {bn un : Nat → Int} (h : Books B w hd wt bn un) (k : Below w.heap.size w w') : Books B w' hd wt bn un :=
  ⟨Blk.on h.a1 k, Blk.on h.a2 k, Blk.on h.a3 k, Blk.on h.a4 k⟩
theorem Books.fr {B hm wm : Nat} {w w' : World} {hd wt : Nat → Bool} {bn un : Nat → Int} (h : Books B w hd wt bn un) (k : Fr hm wm w w') (h1 : hm < B) (h2 : wm < B) : Books B w' hd wt bn un :=
  ⟨Blk.fr h.a1 k (by omega) (by omega), Blk.fr h.a2 k (by omega) (by omega), Blk.fr h.a3 k (by omega) (by omega), Blk.fr h.a4 k (by omega) (by omega)⟩
/-- The books are right. -/
structure Right (hd wt : Nat → Bool) (bn un : Nat → Int) (H : Hs) (W : Ws) : Prop where
  held : ∀ n : Nat, n < 50 → Mp.get (n : Int) H = if hd n then some (1, bn n) else none
  waits : ∀ n : Nat, n < 50 → Mp.get (n : Int) W = if wt n then some (un n) else none
theorem upd_same {α : Type} (f : Nat → α) (n : Nat) (v : α) : upd f n v n = v := by simp [upd]
theorem upd_other {α : Type} (f : Nat → α) (n : Nat) (v : α) {i : Nat} (h : i ≠ n) : upd f n v i = f i := by simp [upd, h]
theorem Right.take {hd wt : Nat → Bool} {bn un : Nat → Int} {H : Hs} {W : Ws} (h : Right hd wt bn un H W) (n : Nat) (g : Int) : Right (upd hd n true) wt (upd bn n g) un (put (n : Int) (1, g) H) W :=
  ⟨fun i hi => by
    rw [get_put]
    by_cases e : i = n
    · subst e; rw [if_pos rfl, upd_same, upd_same]; rfl
    · rw [if_neg (by omega), upd_other _ _ _ e, upd_other _ _ _ e]; exact h.held i hi, h.waits⟩
theorem Right.drop {hd wt : Nat → Bool} {bn un : Nat → Int} {H : Hs} {W : Ws} (h : Right hd wt bn un H W) (hn : (keys H).Nodup) (n : Nat) (g b : Int) (hw : Mp.get (n : Int) W = none) (_hn50 : n < 50) :
    Right (upd hd n false) (upd wt n (b != g)) bn (upd un n g) (del (n : Int) H) (if b = g then W else put (n : Int) g W) :=
  ⟨fun i hi => by
    rw [get_del hn]
    by_cases e : i = n
    · subst e; rw [if_pos rfl, upd_same]; rfl
    · rw [if_neg (by omega), upd_other _ _ _ e]; exact h.held i hi, fun i hi => by
    by_cases eb : b = g
    · rw [if_pos eb]
      by_cases e : i = n
      · subst e; rw [upd_same, hw, eb]; simp
      · rw [upd_other _ _ _ e, upd_other _ _ _ e]; exact h.waits i hi
    · rw [if_neg eb, get_put]
      by_cases e : i = n
      · subst e; rw [if_pos rfl, upd_same, upd_same]; simp [eb]
      · rw [if_neg (by omega), upd_other _ _ _ e, upd_other _ _ _ e]; exact h.waits i hi⟩
theorem Right.freed {hd wt : Nat → Bool} {bn un : Nat → Int} {H : Hs} {W : Ws} (h : Right hd wt bn un H W) {d : Nat} (hI : Inv 2 (2 + d) H W) (g : Int) :
    Right hd (fun i => wt i && decide (g < un i)) bn un H (freeW g 2 d W) :=
  ⟨h.held, fun i hi => by
    rw [(freeW_keep g 2 W hI.wd d).2, h.waits i hi]
    have hw := h.waits i hi
    cases hwt : wt i with
    | false => simp
    | true =>
      rw [hwt, if_pos rfl] at hw
      have hr := hI.win _ (get_mem hw)
      have r1 : (2 : Int) ≤ i := hr.1
      have r2 : (i : Int) < 2 + d := hr.2.1
      simp only [if_true, over, Bool.true_and]
      by_cases e : un i ≤ g
      · have e2 : ¬ g < un i := by omega
        simp [e, e2, r1, r2]
      · have e2 : g < un i := by omega
        simp [e, e2]⟩
end Go.Proofs.Ytbbegbiiaabmgaa
