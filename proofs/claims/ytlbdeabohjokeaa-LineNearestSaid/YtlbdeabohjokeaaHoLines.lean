/- LineLines: the walk. Printed by genll.py. -/
import Derived.Test.YtlbdeabohjokeaaWkO
namespace Go.Proofs.Ytlbdeabohjokeaa
open Go.RowKit Mp Ln
theorem common_to (ci : Int) (cb : Bool) (oa ob : Option Addr) (ca cc : Nat) (A B : List Sn) (x y : Int) (w : World) (h : Sl w oa A) (hl : A.length ≤ 60) (h' : Sl w ob B) (hl' : B.length ≤ 60) (hs : comV (line A x) (line B y) = (ci, cb)) :
    Calls Try.prog 15 #[.slice oa A.length ca, .int .i64 x, .slice ob B.length cc, .int .i64 y] w fun e w' => e = .returned (.tuple #[.int .i64 ci, .bool cb]) ∧ Below w.heap.size w w' := by
  have := common_any oa ob ca cc A B x y w h hl h' hl'
  rw [hs] at this
  exact this
theorem rcommon_to (ci : Int) (cb : Bool) (oa ob : Option Addr) (ca cc : Nat) (A B : List Sn) (x y : Int) (w : World) (h : Sl w oa A) (hl : A.length ≤ 60) (h' : Sl w ob B) (hl' : B.length ≤ 60) (hs : comV (line A x) (line B y) = (ci, cb)) :
    Calls Try.prog 18 #[.slice oa A.length ca, .int .i64 x, .slice ob B.length cc, .int .i64 y] w fun e w' => e = .returned (.tuple #[.int .i64 ci, .bool cb]) ∧ Below w.heap.size w w' := by
  have := rcommon_any oa ob ca cc A B x y w h hl h' hl'
  rw [hs] at this
  exact this
theorem between_to (m : List Int) (b : Bool) (oa : Option Addr) (cap : Nat) (L : List Sn) (y x : Int) (w : World) (h : Sl w oa L) (hl : L.length ≤ 60) (hs : lbtw y L x = m ∧ (btw y (line L x)).isSome = b) :
    Calls Try.prog 19 #[.slice oa L.length cap, .int .i64 y, .int .i64 x] w fun e w' => ∃ oc c, e = .returned (.tuple #[.slice oc m.length c, .bool b]) ∧ Il w' oc m ∧ Below w.heap.size w w' := by
  have := between_il oa cap L y x w h hl
  rw [hs.1, hs.2] at this
  exact this
theorem rbetween_to (m : List Int) (b : Bool) (oa : Option Addr) (cap : Nat) (L : List Sn) (y x : Int) (w : World) (h : Sl w oa L) (hl : L.length ≤ 60) (hs : lbtw y L x = m ∧ (btw y (line L x)).isSome = b) :
    Calls Try.prog 20 #[.slice oa L.length cap, .int .i64 y, .int .i64 x] w fun e w' => ∃ oc c, e = .returned (.tuple #[.slice oc m.length c, .bool b]) ∧ Il w' oc m ∧ Below w.heap.size w w' := by
  have := rbetween_any oa cap L y x w h hl
  rw [hs.1, hs.2] at this
  exact this
theorem line_to (m : List Int) (oa : Option Addr) (cap : Nat) (L : List Sn) (x : Int) (w : World) (h : Sl w oa L) (hl : L.length ≤ 60) (hs : lids L x = m) :
    Calls Try.prog 16 #[.slice oa L.length cap, .int .i64 x] w fun e w' => ∃ oc c, e = .returned (.slice oc m.length c) ∧ Il w' oc m ∧ Below w.heap.size w w' := by
  have := line_il oa cap L x w h hl
  rw [hs] at this
  exact this
theorem rline_to (m : List Int) (oa : Option Addr) (cap : Nat) (L : List Sn) (x : Int) (w : World) (h : Sl w oa L) (hl : L.length ≤ 60) (hs : lids L x = m) :
    Calls Try.prog 22 #[.slice oa L.length cap, .int .i64 x] w fun e w' => ∃ oc c, e = .returned (.slice oc m.length c) ∧ Il w' oc m ∧ Below w.heap.size w w' := by
  have := rline_il oa cap L x w h hl
  rw [hs] at this
  exact this
theorem lines_outA (oa ob : Option Addr) (la ca lb cb : Nat) (x y : Int) (w : World) (h : (60 < (la : Int)) = True) :
    Calls Try.prog 5 #[.slice oa la ca, .slice ob lb cb, .int .i64 x, .int .i64 y] w fun e w' => e = .returned (.bool true) ∧ Below w.heap.size w w' := by
  go_enter Try.func5, Try.ntmps5
  go_wp2_with (go_at_call 7; refine (awake_any _).mono ?_; rintro e w1 ⟨rfl, hb1⟩)
  go_ret
  exact ⟨rfl, hb1⟩
theorem lines_outB (oa ob : Option Addr) (la ca lb cb : Nat) (x y : Int) (w : World) (h : (60 < (la : Int)) = False) (h' : (60 < (lb : Int)) = True) :
    Calls Try.prog 5 #[.slice oa la ca, .slice ob lb cb, .int .i64 x, .int .i64 y] w fun e w' => e = .returned (.bool true) ∧ Below w.heap.size w w' := by
  go_enter Try.func5, Try.ntmps5
  go_wp2_with (go_at_call 7; refine (awake_any _).mono ?_; rintro e w1 ⟨rfl, hb1⟩)
  go_ret
  exact ⟨rfl, hb1⟩
set_option maxHeartbeats 4000000 in
theorem lines_in (v u : Value) (A B : List Sn) (x y : Int) (w : World) (h : Ls w v A) (h' : Ls w u B) (hl : A.length ≤ 60) (hl' : B.length ≤ 60) :
    Calls Try.prog 5 #[v, u, .int .i64 x, .int .i64 y] w fun e w' => e = .returned (.bool true) ∧ Below w.heap.size w w' := by
  obtain ⟨oa, ca, rfl, hn, h1, h2, hS⟩ := h
  obtain ⟨ob, cb, rfl, hn', h1', h2', hS'⟩ := h'
  have hLa : Hid (Ls w (.slice oa A.length ca) A) := ⟨oa, ca, rfl, hn, h1, h2, hS⟩
  have hLb : Hid (Ls w (.slice ob B.length cb) B) := ⟨ob, cb, rfl, hn', h1', h2', hS'⟩
  have HSa := Lib.hid hS
  have HSb := Lib.hid hS'
  clear hn hS hn' hS'
  obtain ⟨ci, cc, hc⟩ : ∃ i b, comV (line A x) (line B y) = (i, b) := ⟨_, _, rfl⟩
  obtain ⟨m, hm⟩ : ∃ m, lbtw x A y = m := ⟨_, rfl⟩
  obtain ⟨mb, hmb⟩ : ∃ b, (btw x (line A y)).isSome = b := ⟨_, rfl⟩
  obtain ⟨p, hp⟩ : ∃ p, lids A x = p := ⟨_, rfl⟩
  have hm60 : m.length ≤ 60 := by rw [← hm]; exact Nat.le_trans (lbtw_len x A y) (Nat.le_trans (line_len A y) hl)
  have hp60 : p.length ≤ 60 := by rw [← hp, lids_len]; exact Nat.le_trans (line_len A x) hl
  have HC := Lib.hid hc
  have HM : Hid (lbtw x A y = m ∧ (btw x (line A y)).isSome = mb) := ⟨hm, hmb⟩
  have HP := Lib.hid hp
  have hAf : (60 < (A.length : Int)) = False := by simp; omega
  have hBf : (60 < (B.length : Int)) = False := by simp; omega
  clear hc hm hmb hp
  have tok1 : True := trivial
  have tok2 : True := trivial
  have tok3 : True := trivial
  go_enter Try.func5, Try.ntmps5
  go_wp2_with (first
      | (go_at_call 7; refine (awake_any _).mono ?_; rintro e w1 ⟨rfl, B1⟩)
      | (go_at_call 9; have _t := tok1; refine (own_any _ A _ (hLa.out.on B1) hl).mono ?_; clear tok1; rintro e w2 ⟨o2, c2, rfl, _, _, h2, hb⟩; have B2 := B1.trans (hb.mono B1.size); clear hb)
      | (go_at_call 9; refine (own_any _ B _ (hLb.out.on B2) hl').mono ?_; rintro e w3 ⟨o3, c3, rfl, _, _, h3, hb⟩; have h23 := h2.on hb; have B3 := B2.trans (hb.mono B2.size); clear hb)
      | (go_at_call 15; refine (common_to ci cc o2 o3 c2 c3 A B x y _ h23 hl h3 hl' HC.out).mono ?_; rintro e w4 ⟨rfl, hb⟩; have B4 := B3.trans (hb.mono B3.size); clear hb)
      | (go_at_call 18; refine (rcommon_to ci cc oa ob ca cb A B x y _ (HSa.out.on B4) hl (HSb.out.on B4) hl' HC.out).mono ?_; rintro e w5 ⟨rfl, hb⟩; have B5 := B4.trans (hb.mono B4.size); clear hb)
      | (go_at_call 9; have _t := tok2; refine (own_any _ A _ (hLa.out.on B5) hl).mono ?_; clear tok2; rintro e w6 ⟨o6, c6, rfl, _, _, h6, hb⟩; have B6 := B5.trans (hb.mono B5.size); clear hb)
      | (go_at_call 19; refine (between_to m mb o6 c6 A x y _ h6 hl HM.out).mono ?_; rintro e w7 ⟨o7, c7, rfl, M7, hb⟩; have B7 := B6.trans (hb.mono B6.size); clear hb)
      | (go_at_call 20; refine (rbetween_to m mb oa ca A x y _ (HSa.out.on B7) hl HM.out).mono ?_; rintro e w8 ⟨o8, c8, rfl, M8, hb⟩; have M78 := M7.on hb; have B8 := B7.trans (hb.mono B7.size); clear hb)
      | (go_at_call 21; have _t := tok3; refine (same_any o7 o8 c7 c8 m m _ M78 M8 hm60 hm60 true (by simp)).mono ?_; clear tok3; rintro e w9 ⟨rfl, hb⟩; have B9 := B8.trans (hb.mono B8.size); clear hb)
      | (go_at_call 9; refine (own_any _ A _ (hLa.out.on B9) hl).mono ?_; rintro e w10 ⟨o10, c10, rfl, _, _, h10, hb⟩; have B10 := B9.trans (hb.mono B9.size); clear hb)
      | (go_at_call 16; refine (line_to p o10 c10 A x _ h10 hl HP.out).mono ?_; rintro e w11 ⟨o11, c11, rfl, M11, hb⟩; have B11 := B10.trans (hb.mono B10.size); clear hb)
      | (go_at_call 22; refine (rline_to p oa ca A x _ (HSa.out.on B11) hl HP.out).mono ?_; rintro e w12 ⟨o12, c12, rfl, M12, hb⟩; have M112 := M11.on hb; have B12 := B11.trans (hb.mono B11.size); clear hb)
      | (go_at_call 21; refine (same_any o11 o12 c11 c12 p p _ M112 M12 hp60 hp60 true (by simp)).mono ?_; rintro e w13 ⟨rfl, hb⟩; have B13 := B12.trans (hb.mono B12.size); clear hb))
  go_ret
  exact ⟨by simp, B13⟩
theorem lineLines_row (v : Value) (A : List Sn) (u : Value) (B : List Sn) (x y : Int) (w : World) (h : Ls w v A) (h' : Ls w u B) (_ : -9223372036854775808 ≤ x ∧ x ≤ 9223372036854775807) (_ : -9223372036854775808 ≤ y ∧ y ≤ 9223372036854775807) :
    Calls Try.prog 5 #[v, u, .int .i64 x, .int .i64 y] w fun e w' => e = .returned (.bool true) ∧ Below w.heap.size w w' := by
  by_cases hl : A.length ≤ 60
  · by_cases hl' : B.length ≤ 60
    · exact lines_in v u A B x y w h h' hl hl'
    · obtain ⟨oa, ca, rfl, _⟩ := h
      obtain ⟨ob, cb, rfl, _⟩ := h'
      exact lines_outB oa ob A.length ca B.length cb x y w (by simp; omega) (by simp; omega)
  · obtain ⟨oa, ca, rfl, _⟩ := h
    obtain ⟨ob, cb, rfl, _⟩ := h'
    exact lines_outA oa ob A.length ca B.length cb x y w (by simp; omega)
end Go.Proofs.Ytlbdeabohjokeaa
