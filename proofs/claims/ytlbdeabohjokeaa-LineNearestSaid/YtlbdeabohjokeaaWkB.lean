/- A copy of one's own. -/
import Derived.Test.YtlbdeabohjokeaaWkA
import Derived.OwnWalk
import Derived.Laws.AppendOwnNone
namespace Go.Proofs.Ytlbdeabohjokeaa
open Go.RowKit Mp Ln

theorem info25 : (Try.prog.info? 25).map (fun i => (i.zero, i.size, i.bytes)) = some (some (sv dfl), 4, 40) := by kernel_rfl
theorem own_some (a : Addr) (cap : Nat) (L : List Sn) (w : World) (h : Sl w (some a) L) (hl : L.length ≤ 60) :
    Calls Try.prog 9 #[.slice (some a) L.length cap] w fun e w' => ∃ v, e = .returned v ∧ w'.ownsRow w.heap.size 25 4 v L.length (allCells L) ∧ Below w.heap.size w w' := by
  obtain ⟨i0, hi, hz0, hz1, hz2⟩ := info_parts info25
  have hown : (w.alloc (.cells #[] 25)).ownsRow w.heap.size 25 4 (.slice (some ⟨w.heap.size, 0, none⟩) 0 0) 0 [] := ⟨rfl, .inr ⟨w.heap.size, 0, #[], rfl, Nat.le_refl _, heap_alloc_new w _, Nat.le_refl _, Nat.zero_le _, rfl, rfl⟩⟩
  have hc := (h.on (below_al (o := .cells #[] 25) (Below.refl _ _))).cells
  have HC := Lib.hid hc
  clear hc
  go_enter Try.func9, Try.ntmps9
  go_wp2_with (at_builtin; refine wpList_append_own _ rfl _ _ 22 rfl w.heap.size 25 i0 (sv dfl) 4 40 Try.underlying22 hi hz0 hz1 hz2 rfl (by decide) _ _ _ rfl hown a L.length cap (allCells L) rfl (allCells_len L) HC.out (one_cells L) ?c1 ?c2 ?c3 ?_)
  case c1 => unfold maxLen; omega
  case c2 => omega
  case c3 => simp
  intro v' w1 hown1 hgrow _
  go_wp2
  go_ret
  exact ⟨v', rfl, hown1, ((Below.refl w.heap.size w).alloc (Nat.le_refl _) _).grown hgrow (by simp) (fun k e => by cases e; exact Nat.le_refl _)⟩
theorem own_none (w : World) :
    Calls Try.prog 9 #[.slice none 0 0] w fun e w' => ∃ v, e = .returned v ∧ w'.ownsRow w.heap.size 25 4 v 0 [] ∧ Below w.heap.size w w' := by
  obtain ⟨i0, hi, hz0, hz1, hz2⟩ := info_parts info25
  have hown : (w.alloc (.cells #[] 25)).ownsRow w.heap.size 25 4 (.slice (some ⟨w.heap.size, 0, none⟩) 0 0) 0 [] := ⟨rfl, .inr ⟨w.heap.size, 0, #[], rfl, Nat.le_refl _, heap_alloc_new w _, Nat.le_refl _, Nat.zero_le _, rfl, rfl⟩⟩
  go_enter Try.func9, Try.ntmps9
  go_wp2_with (at_builtin; refine wpList_append_own_none rfl _ _ 22 rfl w.heap.size 25 i0 4 Try.underlying22 hi _ _ _ rfl hown rfl ?_)
  go_ret
  exact ⟨_, rfl, hown, below_al (Below.refl _ _)⟩
/-- A value that reads as a list. -/
def Ls (w : World) (v : Value) (L : List Sn) : Prop := ∃ oa cap, v = .slice oa L.length cap ∧ (oa = none → cap = 0 ∧ L = []) ∧ L.length ≤ cap ∧ cap ≤ maxLen ∧ Sl w oa L
theorem Ls.on {w w' : World} {v : Value} {L : List Sn} (h : Ls w v L) (k : Below w.heap.size w w') : Ls w' v L := by
  obtain ⟨oa, cap, h1, h2, h3, h4, h5⟩ := h
  exact ⟨oa, cap, h1, h2, h3, h4, h5.on k⟩
theorem own_any (v : Value) (L : List Sn) (w : World) (h : Ls w v L) (hl : L.length ≤ 60) :
    Calls Try.prog 9 #[v] w fun e w' => ∃ oa cap, e = .returned (.slice oa L.length cap) ∧ L.length ≤ cap ∧ cap ≤ maxLen ∧ Sl w' oa L ∧ Below w.heap.size w w' := by
  obtain ⟨oa, cap, rfl, h2, h3, h4, h5⟩ := h
  cases oa with
  | none =>
    obtain ⟨rfl, rfl⟩ := h2 rfl
    refine (own_none w).mono fun e w' ⟨v, he, ho, hb⟩ => ?_
    obtain ⟨oa, cap, rfl, k1, k2, k3⟩ := Sl.owned (L := []) ho
    exact ⟨oa, cap, he, k1, k2, k3, hb⟩
  | some a =>
    refine (own_some a cap L w h5 hl).mono fun e w' ⟨v, he, ho, hb⟩ => ?_
    obtain ⟨oa, cap, rfl, k1, k2, k3⟩ := Sl.owned ho
    exact ⟨oa, cap, he, k1, k2, k3, hb⟩
end Go.Proofs.Ytlbdeabohjokeaa
