/- Lists of numbers read; on, Same; the document's Line. -/
import Derived.Test.YtlbdeabohjokeaaWkK
import Derived.Test.YtlbdeabohjokeaaWkF
import Derived.OwnWalk
namespace Go.Proofs.Ytlbdeabohjokeaa
open Go.RowKit Mp Ln

/-- Numbers, as they lie at oa. -/
def Il (w : World) (oa : Option Addr) (xs : List Int) : Prop := ∀ i, i < xs.length → ∃ a, oa = some a ∧ w.cell? (a.add i) = some (.int .i64 (xs.getD i 0)) ∧ (a.add i).block < w.heap.size
theorem Il.on {w w' : World} {oa : Option Addr} {xs : List Int} (h : Il w oa xs) (k : Below w.heap.size w w') : Il w' oa xs := fun i hi => by
  obtain ⟨a, ha, hc, hl⟩ := h i hi
  exact ⟨a, ha, by rw [k.cell hl]; exact hc, Nat.lt_of_lt_of_le hl k.size⟩
theorem own_il {W : World} {base n : Nat} {v : Value} {xs : List Int} (h : W.ownsRow base 3 1 v n (xs.map (.int .i64))) : ∃ oa cap, v = .slice oa xs.length cap ∧ xs.length ≤ cap ∧ cap ≤ maxLen ∧ Il W oa xs := by
  rcases h.2 with ⟨rfl, rfl⟩ | ⟨g, cap, cur, rfl, _⟩
  · have : xs = [] := by have := h.1; simpa using this
    subst this
    exact ⟨none, 0, rfl, Nat.le_refl _, Nat.zero_le _, fun i hi => absurd hi (Nat.not_lt_zero _)⟩
  · obtain ⟨h1, h2, h3, h4, h5⟩ := own_row h
    subst h2
    refine ⟨_, cap, rfl, h3, h4, fun i hi => ⟨_, rfl, ?_, ?_⟩⟩
    · have e : (⟨g, 0, none⟩ : Addr).add i = ⟨g, i, none⟩ := by unfold Addr.add; split <;> simp_all
      rw [e]; exact h1.cell hi
    · rw [add_block']
      obtain ⟨cur, hb, _⟩ := h1
      exact (Array.getElem?_eq_some_iff.1 hb).1
theorem Il.cells {w : World} {a : Addr} {xs : List Int} (h : Il w (some a) xs) : ∀ j u, (xs.map (Value.int .i64))[j]? = some u → w.cell? (a.add j) = some u := by
  intro j u hu
  have hj : j < xs.length := by have := (List.getElem?_eq_some_iff.1 hu).1; simpa using this
  obtain ⟨a', ha, hc, _⟩ := h j hj
  cases ha
  rw [List.getElem?_map, getD_some hj] at hu
  cases hu
  exact hc
theorem on_any (oa : Option Addr) (cap : Nat) (xs : List Int) (x : Int) (w : World) (h : Il w oa xs) (hl : xs.length ≤ 60) (b : Bool) (hb : decide (x ∈ xs) = b) :
    Calls Try.prog 17 #[.slice oa xs.length cap, .int .i64 x] w fun e w' => e = .returned (.bool b) ∧ w = w' := by
  have HB := Lib.hid hb
  clear hb
  go_enter Try.func17, Try.ntmps17
  go_wp2
  go_loopg [5] xs.length (fun q v wr => ∃ i : Nat, i ≤ xs.length ∧ q = xs.length - i ∧ v = .int .i64 i ∧ w = wr ∧ x ∉ xs.take i)
  case atStart => exact ⟨0, by omega, by omega, rfl, rfl, by simp⟩
  case round =>
    obtain ⟨i, hi, rfl, rfl, rfl, hn⟩ := hrel
    have HN := Lib.hid hn
    clear hn
    by_cases hlt : i < xs.length
    · obtain ⟨a, rfl, hc, _⟩ := h i hlt
      obtain ⟨y, hy⟩ : ∃ y, xs.getD i 0 = y := ⟨_, rfl⟩
      rw [hy] at hc
      have HY : Hid (xs[i]? = some y) := by rw [← hy]; exact getD_some hlt
      clear hy
      by_cases e : y = x
      · have he : (y == x) = true := by simpa using e
        have hbt : b = true := by
          rw [← HB.out]
          have := HY.out
          rw [e] at this
          exact decide_eq_true (List.mem_of_getElem? this)
        subst hbt
        clear e
        go_wp2
        go_ret
        exact ⟨rfl, rfl⟩
      · have he : (y == x) = false := by simpa using e
        have HE := Lib.hid e
        clear e
        go_wp2
        go_roundg (xs.length - (i + 1))
        case measure => omega
        case rel =>
          refine ⟨i + 1, by omega, rfl, by go_num, rfl, fun hm => ?_⟩
          rw [List.take_add_one, HY.out] at hm
          rcases List.mem_append.1 hm with hm | hm
          · exact HN.out hm
          · exact HE.out (by simp at hm; exact hm.symm)
    · have e : i = xs.length := by omega
      have hbt : b = false := by
        rw [← HB.out]
        have hn := HN.out
        rw [e, List.take_length] at hn
        exact decide_eq_false hn
      subst hbt
      go_wp2
      go_ret
      exact ⟨rfl, rfl⟩
theorem same_any (oa ob : Option Addr) (ca cb : Nat) (xs ys : List Int) (w : World) (h : Il w oa xs) (h' : Il w ob ys) (hl : xs.length ≤ 60) (_hl' : ys.length ≤ 60) (b : Bool) (hb : decide (xs = ys) = b) :
    Calls Try.prog 21 #[.slice oa xs.length ca, .slice ob ys.length cb] w fun e w' => e = .returned (.bool b) ∧ Below w.heap.size w w' := by
  by_cases hne : xs.length = ys.length
  · have HB := Lib.hid hb
    have hq : ((xs.length : Int) != (ys.length : Int)) = false := by rw [hne]; simp
    have HL := Lib.hid hne
    clear hb hne
    go_enter Try.func21, Try.ntmps21
    go_wp2
    go_loopg [5] xs.length (fun q v wr => ∃ i : Nat, i ≤ xs.length ∧ q = xs.length - i ∧ v = .int .i64 i ∧ Below w.heap.size w wr ∧ xs.take i = ys.take i)
    case atStart => exact ⟨0, by omega, by omega, rfl, Below.refl _ _, by simp⟩
    case round =>
      obtain ⟨i, hi, rfl, rfl, hB, hn⟩ := hrel
      have HN := Lib.hid hn
      clear hn hq
      by_cases hlt : i < xs.length
      · have hlt2 : i < ys.length := by have := HL.out; omega
        obtain ⟨a, rfl, hc, _⟩ := (h.on hB) i hlt
        obtain ⟨a2, rfl, hc2, _⟩ := (h'.on hB) i hlt2
        obtain ⟨y, hy⟩ : ∃ y, xs.getD i 0 = y := ⟨_, rfl⟩
        obtain ⟨z, hz⟩ : ∃ z, ys.getD i 0 = z := ⟨_, rfl⟩
        rw [hy] at hc
        rw [hz] at hc2
        have HY : Hid (xs[i]? = some y ∧ ys[i]? = some z) := ⟨by rw [← hy]; exact getD_some hlt, by rw [← hz]; exact getD_some hlt2⟩
        clear hy hz
        by_cases e : y = z
        · have he : (y != z) = false := by simpa using e
          have HE := Lib.hid e
          clear e
          go_wp2
          go_quiet (fail)
          go_wp2
          go_roundg (xs.length - (i + 1))
          case measure => omega
          case rel =>
            refine ⟨i + 1, by omega, rfl, by go_num, below_drewN hB _, ?_⟩
            rw [List.take_add_one, List.take_add_one, HY.out.1, HY.out.2, HN.out, HE.out]
        · have he : (y != z) = true := by simpa using e
          have hbt : b = false := by
            rw [← HB.out]
            refine decide_eq_false fun e2 => e ?_
            have h1 := HY.out.1
            rw [e2, HY.out.2] at h1
            exact (Option.some.inj h1).symm
          subst hbt
          clear e
          go_wp2
          go_quiet (fail)
          go_wp2
          go_ret
          exact ⟨rfl, below_drewN hB _⟩
      · have e : i = xs.length := by omega
        have hbt : b = true := by
          rw [← HB.out]
          have hn := HN.out
          rw [e, List.take_length] at hn
          rw [hn, HL.out, List.take_length]
          simp
        subst hbt
        go_wp2
        go_ret
        exact ⟨rfl, hB⟩
  · have hq : ((xs.length : Int) != (ys.length : Int)) = true := by rw [bne_iff_ne]; omega
    have hbt : b = false := by
      rw [← hb]
      exact decide_eq_false fun e => hne (by rw [e])
    subst hbt
    clear hb hne
    go_enter Try.func21, Try.ntmps21
    go_wp2
    go_ret
    exact ⟨rfl, Below.refl _ _⟩
end Go.Proofs.Ytlbdeabohjokeaa
