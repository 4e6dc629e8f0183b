/- LineBetween: the walk. Printed by genbt.py. -/
import Derived.Test.YtlbdeabohjokeaaHoLines
import Derived.Deep.QuietTactic
import Derived.BigQuiet
namespace Go.Proofs.Ytlbdeabohjokeaa
open Go.RowKit Mp Ln
theorem btw_split (y : Int) : ∀ A : List Sn, (btw y A = none ∧ ∀ t ∈ A, t.id ≠ y) ∨ ∃ pre s rest, A = pre ++ s :: rest ∧ s.id = y ∧ btw y A = some (pre.map (·.id)).reverse := by
  intro A
  induction A with
  | nil => exact .inl ⟨rfl, fun t h => by cases h⟩
  | cons a A ih =>
    by_cases e : a.id = y
    · exact .inr ⟨[], a, A, rfl, e, btw_some (pre := []) (fun t h => by cases h) e⟩
    · rcases ih with ⟨h1, h2⟩ | ⟨pre, s, rest, h1, h2, h3⟩
      · refine .inl ⟨by unfold btw; rw [if_neg e, h1]; rfl, fun t ht => ?_⟩
        rcases List.mem_cons.1 ht with rfl | ht
        · exact e
        · exact h2 t ht
      · refine .inr ⟨a :: pre, s, rest, by rw [h1]; rfl, h2, ?_⟩
        unfold btw
        rw [if_neg e, h3]
        simp
theorem btw_no {L : List Sn} {y x : Int} (h : (btw y (line L x)).isSome = false) : lbtw y L x = [] ∧ y ∉ lids L x := by
  rcases btw_split y (line L x) with ⟨h1, h2⟩ | ⟨pre, s, rest, _, _, h3⟩
  · refine ⟨by unfold lbtw; rw [h1]; rfl, fun hm => ?_⟩
    unfold lids at hm
    obtain ⟨t, ht, e⟩ := List.mem_map.1 hm
    exact h2 t ht e
  · rw [h3] at h; cases h
theorem btw_yes {L : List Sn} {y x : Int} (h : (btw y (line L x)).isSome = true) : lids L x = (lbtw y L x).reverse ++ lids L y := by
  rcases btw_split y (line L x) with ⟨h1, _⟩ | ⟨pre, s, rest, h1, h2, h3⟩
  · rw [h1] at h; cases h
  · have h4 := (line_from x pre s rest h1).1
    rw [h2] at h4
    unfold lids lbtw
    rw [h3, h1, h4]
    simp
theorem getD_front {p m q : List Int} {i j : Nat} (h : p = m.reverse ++ q) (hj : m.length = i + 1 + j) : p.getD i 0 = m.getD j 0 := by
  have h1 : i < m.reverse.length := by simp; omega
  rw [h, List.getD_eq_getElem?_getD, List.getD_eq_getElem?_getD, List.getElem?_append_left h1, List.getElem?_reverse (by simpa using h1), show m.length - 1 - i = j by omega]
theorem getD_back {p m q : List Int} {i j : Nat} (h : p = m.reverse ++ q) (hj : i = m.length + j) : p.getD i 0 = q.getD j 0 := by
  rw [h, List.getD_eq_getElem?_getD, List.getD_eq_getElem?_getD, List.getElem?_append_right (by simp; omega)]
  simp [hj]
theorem between_out (oa : Option Addr) (la ca : Nat) (x y : Int) (w : World) (h : 60 < (la : Int)) :
    Calls Try.prog 6 #[.slice oa la ca, .int .i64 x, .int .i64 y] w fun e w' => e = .returned (.bool true) ∧ Below w.heap.size w w' := by
  go_enter Try.func6, Try.ntmps6
  go_wp2_with (go_at_call 7; refine (awake_any _).mono ?_; rintro e w1 ⟨rfl, hb1⟩)
  go_ret
  exact ⟨rfl, hb1⟩
set_option maxRecDepth 100000 in
set_option maxHeartbeats 4000000 in
theorem between_in (v : Value) (A : List Sn) (y x : Int) (w : World) (h : Ls w v A) (hl : A.length ≤ 60) :
    Calls Try.prog 6 #[v, .int .i64 y, .int .i64 x] w fun e w' => e = .returned (.bool true) ∧ Below w.heap.size w w' := by
  obtain ⟨oa, ca, rfl, hn, h1, h2, hS⟩ := h
  have hLa : Hid (Ls w (.slice oa A.length ca) A) := ⟨oa, ca, rfl, hn, h1, h2, hS⟩
  clear hn hS
  obtain ⟨m, hm⟩ : ∃ m, lbtw y A x = m := ⟨_, rfl⟩
  obtain ⟨mb, hmb⟩ : ∃ b, (btw y (line A x)).isSome = b := ⟨_, rfl⟩
  obtain ⟨p, hp⟩ : ∃ p, lids A x = p := ⟨_, rfl⟩
  obtain ⟨q, hq⟩ : ∃ q, lids A y = q := ⟨_, rfl⟩
  have hm60 : m.length ≤ 60 := by rw [← hm]; exact Nat.le_trans (lbtw_len y A x) (Nat.le_trans (line_len A x) hl)
  have hp60 : p.length ≤ 60 := by rw [← hp, lids_len]; exact Nat.le_trans (line_len A x) hl
  have hq60 : q.length ≤ 60 := by rw [← hq, lids_len]; exact Nat.le_trans (line_len A y) hl
  have HP := Lib.hid hp
  have HQ := Lib.hid hq
  have tok1 : True := trivial
  have tok2 : True := trivial
  have tok3 : True := trivial
  cases mb with
  | false =>
    obtain ⟨e1, e2⟩ := btw_no hmb
    rw [hp] at e2
    rw [hm] at e1
    subst e1
    have HM : Hid (lbtw y A x = [] ∧ (btw y (line A x)).isSome = false) := ⟨hm, hmb⟩
    clear hm hmb hp hq
    go_enter Try.func6, Try.ntmps6
    go_wp2_with (first
      | (go_at_call 7; refine (awake_any _).mono ?_; rintro e w1 ⟨rfl, B1⟩)
      | (go_at_call 9; have _t := tok1; refine (own_any _ A _ (hLa.out.on B1) hl).mono ?_; clear tok1; rintro e w2 ⟨o2, c2, rfl, _, _, h2, hb⟩; have B2 := B1.trans (hb.mono B1.size); clear hb)
      | (go_at_call 19; refine (between_to [] false o2 c2 A y x _ h2 hl HM.out).mono ?_; rintro e w3 ⟨o3, c3, rfl, M3, hb⟩; have B3 := B2.trans (hb.mono B2.size); clear hb)
      | (go_at_call 9; have _t := tok2; refine (own_any _ A _ (hLa.out.on B3) hl).mono ?_; clear tok2; rintro e w4 ⟨o4, c4, rfl, _, _, h4, hb⟩; have M4 := M3.on hb; have B4 := B3.trans (hb.mono B3.size); clear hb M3)
      | (go_at_call 16; have _t := tok3; refine (line_to p o4 c4 A x _ h4 hl HP.out).mono ?_; clear tok3; rintro e w5 ⟨o5, c5, rfl, P5, hb⟩; have M5 := M4.on hb; have B5 := B4.trans (hb.mono B4.size); clear hb M4)
      | (go_at_call 9; refine (own_any _ A _ (hLa.out.on B5) hl).mono ?_; rintro e w6 ⟨o6, c6, rfl, _, _, h6, hb⟩; have M6 := M5.on hb; have P6 := P5.on hb; have B6 := B5.trans (hb.mono B5.size); clear hb M5 P5)
      | (go_at_call 16; refine (line_to q o6 c6 A y _ h6 hl HQ.out).mono ?_; rintro e w7 ⟨o7, c7, rfl, Q7, hb⟩; have M7 := M6.on hb; have P7 := P6.on hb; have B7 := B6.trans (hb.mono B6.size); clear hb M6 P6)
      | (go_at_call 17; refine (on_any o5 c5 p y _ P7 hp60 false (decide_eq_false e2)).mono ?_; rintro e w8 ⟨rfl, rfl⟩))
    go_ret
    exact ⟨by simp, B7⟩
  | true =>
    have e1 := btw_yes hmb
    rw [hp, hm, hq] at e1
    have hlen : p.length = m.length + q.length := by rw [e1]; simp
    have hne : ((p.length : Int) != (m.length : Int) + (q.length : Int)) = false := by rw [hlen]; simp
    have HM : Hid (lbtw y A x = m ∧ (btw y (line A x)).isSome = true) := ⟨hm, hmb⟩
    have HE := Lib.hid e1
    have HLEN := Lib.hid hlen
    clear hm hmb hp hq e1 hlen
    go_enter Try.func6, Try.ntmps6
    go_wp2_with (first
      | (go_at_call 7; refine (awake_any _).mono ?_; rintro e w1 ⟨rfl, B1⟩)
      | (go_at_call 9; have _t := tok1; refine (own_any _ A _ (hLa.out.on B1) hl).mono ?_; clear tok1; rintro e w2 ⟨o2, c2, rfl, _, _, h2, hb⟩; have B2 := B1.trans (hb.mono B1.size); clear hb)
      | (go_at_call 19; refine (between_to m true o2 c2 A y x _ h2 hl HM.out).mono ?_; rintro e w3 ⟨o3, c3, rfl, M3, hb⟩; have B3 := B2.trans (hb.mono B2.size); clear hb)
      | (go_at_call 9; have _t := tok2; refine (own_any _ A _ (hLa.out.on B3) hl).mono ?_; clear tok2; rintro e w4 ⟨o4, c4, rfl, _, _, h4, hb⟩; have M4 := M3.on hb; have B4 := B3.trans (hb.mono B3.size); clear hb M3)
      | (go_at_call 16; have _t := tok3; refine (line_to p o4 c4 A x _ h4 hl HP.out).mono ?_; clear tok3; rintro e w5 ⟨o5, c5, rfl, P5, hb⟩; have M5 := M4.on hb; have B5 := B4.trans (hb.mono B4.size); clear hb M4)
      | (go_at_call 9; refine (own_any _ A _ (hLa.out.on B5) hl).mono ?_; rintro e w6 ⟨o6, c6, rfl, _, _, h6, hb⟩; have M6 := M5.on hb; have P6 := P5.on hb; have B6 := B5.trans (hb.mono B5.size); clear hb M5 P5)
      | (go_at_call 16; refine (line_to q o6 c6 A y _ h6 hl HQ.out).mono ?_; rintro e w7 ⟨o7, c7, rfl, Q7, hb⟩; have M7 := M6.on hb; have P7 := P6.on hb; have B7 := B6.trans (hb.mono B6.size); clear hb M6 P6))
    clear hne
    go_loopg [11] p.length (fun q v wr => ∃ i : Nat, i ≤ p.length ∧ q = p.length - i ∧ v = .int .i64 i ∧ Below w7.heap.size w7 wr)
    case atStart => exact ⟨0, by omega, by omega, rfl, Below.refl _ _⟩
    case round =>
      obtain ⟨i, hi, rfl, rfl, hB⟩ := hrel
      have hlen := HLEN.out
      by_cases hlt : i < p.length
      · by_cases hlm : i < m.length
        · obtain ⟨j, hj⟩ : ∃ j, m.length = i + 1 + j := ⟨m.length - i - 1, by omega⟩
          obtain ⟨a, rfl, hc, _⟩ := (P7.on hB) i hlt
          obtain ⟨a2, rfl, hc2, _⟩ := (M7.on hB) j (by omega)
          obtain ⟨u, hu⟩ : ∃ u, m.getD j 0 = u := ⟨_, rfl⟩
          rw [getD_front HE.out hj, hu] at hc
          rw [hu] at hc2
          clear hu hlen
          have g1 : (i : Int) < (m.length : Int) := by omega
          have g2 : decide ((m.length : Int) ≤ (i : Int)) = false := decide_eq_false (by omega)
          have g4 : ¬ (m.length ≤ i) := by omega
          have g5 : j < m.length := by omega
          have g3 : (m.length : Int) - 1 - (i : Int) = (j : Int) := by omega
          clear hj
          go_wp2
          go_quiet (fail)
          go_wp2
          go_roundg (p.length - (i + 1))
          case measure => omega
          case rel => exact ⟨i + 1, by omega, rfl, by go_num, below_drewN hB _⟩
        · obtain ⟨j, hj⟩ : ∃ j, i = m.length + j := ⟨i - m.length, by omega⟩
          obtain ⟨a, rfl, hc, _⟩ := (P7.on hB) i hlt
          obtain ⟨a2, rfl, hc2, _⟩ := (Q7.on hB) j (by omega)
          obtain ⟨u, hu⟩ : ∃ u, q.getD j 0 = u := ⟨_, rfl⟩
          rw [getD_back HE.out hj, hu] at hc
          rw [hu] at hc2
          clear hu hlen
          have g1 : decide ((i : Int) < (m.length : Int)) = false := decide_eq_false (by omega)
          have g2 : (m.length : Int) ≤ (i : Int) := by omega
          have g5 : j < q.length := by have := HLEN.out; omega
          have g3 : (i : Int) - (m.length : Int) = (j : Int) := by omega
          clear hj
          go_wp2
          go_quiet (fail)
          go_wp2
          go_roundg (p.length - (i + 1))
          case measure => omega
          case rel => exact ⟨i + 1, by omega, rfl, by go_num, below_drewN hB _⟩
      · go_wp2
        go_ret
        exact ⟨rfl, B7.trans (hB.mono B7.size)⟩
theorem lineBetween_row (v : Value) (A : List Sn) (y x : Int) (w : World) (h : Ls w v A) (_ : -9223372036854775808 ≤ y ∧ y ≤ 9223372036854775807) (_ : -9223372036854775808 ≤ x ∧ x ≤ 9223372036854775807) :
    Calls Try.prog 6 #[v, .int .i64 y, .int .i64 x] w fun e w' => e = .returned (.bool true) ∧ Below w.heap.size w w' := by
  by_cases hl : A.length ≤ 60
  · exact between_in v A y x w h hl
  · obtain ⟨oa, ca, rfl, _⟩ := h
    exact between_out oa A.length ca y x w (by omega)
end Go.Proofs.Ytlbdeabohjokeaa
