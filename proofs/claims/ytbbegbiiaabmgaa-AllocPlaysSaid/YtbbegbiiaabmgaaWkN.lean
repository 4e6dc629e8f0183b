/- The document's answer: Hold, Drop, Take, Free, Room, Waiting. -/
import Derived.Test.YtbbegbiiaabmgaaWkM
import Derived.Deep.LoopGhost
import Derived.ChangeAlike
namespace Go.Proofs.Ytbbegbiiaabmgaa
open Go.RowKit Mp

theorem rmark_any (r lb : Nat) (lo n gen : Int) (d : Nat) (S : Ss) (w : World) (h : Rf w r lb lo d S) (hb : 0 ≤ lo ∧ lo + d ≤ 4096) (hm : n ≤ 9223372036854775807) (hc : ∀ i, i < d → 0 ≤ (S i).c) (x : Int) (S' : Ss) (hx : rMark lo d n gen S = (x, S')) :
    Calls Try.prog 20 #[.pointer (some ⟨r, 0, none⟩), .int .i64 n, .int .i64 gen] w fun e w' => e = .returned (.int .i64 x) ∧ Rf w' r lb lo d S' ∧ Only lb w w' := by
  unfold rMark at hx
  cases hr : rAt lo d n with
  | none => rw [hr] at hx; cases hx; exact rmark_out r lb lo n gen d S w h hb (rAt_none hr) hm
  | some i =>
    rw [hr] at hx
    obtain ⟨rfl, hi⟩ := rAt_some hr
    have hci := hc i hi
    cases hf : (S i).fr with
    | true =>
      simp only [hf, if_true] at hx
      cases hx
      unfold Sec.fr at hf
      simp at hf
      exact rmark_ok r lb lo gen i d S w h hb hi hf.1 hf.2
    | false =>
      simp only [hf] at hx
      cases hx
      unfold Sec.fr at hf
      refine rmark_there r lb lo gen i d S w h hb hi ?_
      by_cases e : 0 < (S i).c
      · exact .inl e
      · have : (S i).c = 0 := by omega
        simp [this] at hf
        exact .inr ⟨e, hf⟩
theorem rhold_out (r lb : Nat) (lo n : Int) (d : Nat) (S : Ss) (w : World) (h : Rf w r lb lo d S) (hb : 0 ≤ lo ∧ lo + d ≤ 4096) (hn : n < lo ∨ lo + d ≤ n) (hm : n ≤ 9223372036854775807) :
    Calls Try.prog 21 #[.pointer (some ⟨r, 0, none⟩), .int .i64 n] w fun e w' => e = .returned (.int .i64 51) ∧ Rf w' r lb lo d S ∧ Only lb w w' := by
  go_enter Try.func21, Try.ntmps21
  go_wp2_with (go_at_call 28; refine (at_out r lb lo n d S _ h hb hn hm).mono ?_; rintro e w1 ⟨rfl, h1, o1⟩)
  go_ret
  exact ⟨rfl, h1, o1⟩
theorem rhold_free (r lb : Nat) (lo : Int) (i d : Nat) (S : Ss) (w : World) (h : Rf w r lb lo d S) (hb : 0 ≤ lo ∧ lo + d ≤ 4096) (hi : i < d) (hc : (S i).c = 0) :
    Calls Try.prog 21 #[.pointer (some ⟨r, 0, none⟩), .int .i64 (lo + i)] w fun e w' => e = .returned (.int .i64 51) ∧ Rf w' r lb lo d S ∧ Only lb w w' := by
  have HC := Lib.hid hc
  clear hc
  go_enter Try.func21, Try.ntmps21
  go_wp2_with (go_at_call 28; refine (at_in r lb lo i d S _ h hb hi).mono ?_; rintro e w1 ⟨rfl, h1, o1⟩; have g1 := h1.blk.cell 1; have R := h1.at hi; have e0 := R.e0.trans (congrArg (fun x => some (Value.int .i64 x)) HC.out))
  go_ret
  exact ⟨rfl, h1, o1⟩
theorem rhold_many (r lb : Nat) (lo : Int) (i d : Nat) (S : Ss) (w : World) (h : Rf w r lb lo d S) (hb : 0 ≤ lo ∧ lo + d ≤ 4096) (hi : i < d) (hc : (S i).c = 5000) :
    Calls Try.prog 21 #[.pointer (some ⟨r, 0, none⟩), .int .i64 (lo + i)] w fun e w' => e = .returned (.int .i64 52) ∧ Rf w' r lb lo d S ∧ Only lb w w' := by
  have HC := Lib.hid hc
  clear hc
  go_enter Try.func21, Try.ntmps21
  go_wp2_with (go_at_call 28; refine (at_in r lb lo i d S _ h hb hi).mono ?_; rintro e w1 ⟨rfl, h1, o1⟩; have g1 := h1.blk.cell 1; have R := h1.at hi; have e0 := R.e0.trans (congrArg (fun x => some (Value.int .i64 x)) HC.out))
  go_ret
  exact ⟨rfl, h1, o1⟩
theorem rhold_ok (r lb : Nat) (lo : Int) (i d : Nat) (S : Ss) (w : World) (h : Rf w r lb lo d S) (hb : 0 ≤ lo ∧ lo + d ≤ 4096) (hi : i < d) (hc : 0 < (S i).c) (hc5 : (S i).c < 5000) :
    Calls Try.prog 21 #[.pointer (some ⟨r, 0, none⟩), .int .i64 (lo + i)] w fun e w' => e = .returned (.int .i64 0) ∧ Rf w' r lb lo d (set S i { S i with c := (S i).c + 1 }) ∧ Only lb w w' := by
  obtain ⟨c, hcc⟩ : ∃ c, (S i).c = c := ⟨_, rfl⟩
  rw [hcc] at hc hc5
  have HC := Lib.hid hcc
  have n1 : (c == 0) = false := by rw [beq_eq_false_iff_ne]; omega
  have n2 : (c == 5000) = false := by rw [beq_eq_false_iff_ne]; omega
  clear hcc
  go_enter Try.func21, Try.ntmps21
  go_wp2_with (go_at_call 28; refine (at_in r lb lo i d S _ h hb hi).mono ?_; rintro e w1 ⟨rfl, h1, o1⟩; have g1 := h1.blk.cell 1; have R := h1.at hi; have e0 := R.e0.trans (congrArg (fun x => some (Value.int .i64 x)) HC.out); have f0 := R.f0)
  go_ret
  exact ⟨rfl, by rw [HC.out]; exact h1.setc hi (c + 1), o1.set _ _⟩
theorem rhold_any (r lb : Nat) (lo n : Int) (d : Nat) (S : Ss) (w : World) (h : Rf w r lb lo d S) (hb : 0 ≤ lo ∧ lo + d ≤ 4096) (hm : n ≤ 9223372036854775807) (hc : ∀ i, i < d → 0 ≤ (S i).c ∧ (S i).c ≤ 5000) (x : Int) (S' : Ss) (hx : rHold lo d n S = (x, S')) :
    Calls Try.prog 21 #[.pointer (some ⟨r, 0, none⟩), .int .i64 n] w fun e w' => e = .returned (.int .i64 x) ∧ Rf w' r lb lo d S' ∧ Only lb w w' := by
  unfold rHold at hx
  cases hr : rAt lo d n with
  | none => rw [hr] at hx; cases hx; exact rhold_out r lb lo n d S w h hb (rAt_none hr) hm
  | some i =>
    rw [hr] at hx
    obtain ⟨rfl, hi⟩ := rAt_some hr
    have hci := hc i hi
    by_cases h0 : (S i).c = 0
    · simp only [if_pos h0] at hx
      cases hx
      exact rhold_free r lb lo i d S w h hb hi h0
    · by_cases h5 : (S i).c = 5000
      · simp only [if_neg h0, if_pos h5] at hx
        cases hx
        exact rhold_many r lb lo i d S w h hb hi h5
      · simp only [if_neg h0, if_neg h5] at hx
        cases hx
        exact rhold_ok r lb lo i d S w h hb hi (by omega) (by omega)
theorem rdrop_out (r lb : Nat) (lo n gen : Int) (d : Nat) (S : Ss) (w : World) (h : Rf w r lb lo d S) (hb : 0 ≤ lo ∧ lo + d ≤ 4096) (hn : n < lo ∨ lo + d ≤ n) (hm : n ≤ 9223372036854775807) :
    Calls Try.prog 22 #[.pointer (some ⟨r, 0, none⟩), .int .i64 n, .int .i64 gen] w fun e w' => e = .returned (.int .i64 51) ∧ Rf w' r lb lo d S ∧ Only lb w w' := by
  go_enter Try.func22, Try.ntmps22
  go_wp2_with (go_at_call 28; refine (at_out r lb lo n d S _ h hb hn hm).mono ?_; rintro e w1 ⟨rfl, h1, o1⟩)
  go_ret
  exact ⟨rfl, h1, o1⟩
theorem rdrop_free (r lb : Nat) (lo gen : Int) (i d : Nat) (S : Ss) (w : World) (h : Rf w r lb lo d S) (hb : 0 ≤ lo ∧ lo + d ≤ 4096) (hi : i < d) (hc : (S i).c = 0) :
    Calls Try.prog 22 #[.pointer (some ⟨r, 0, none⟩), .int .i64 (lo + i), .int .i64 gen] w fun e w' => e = .returned (.int .i64 51) ∧ Rf w' r lb lo d S ∧ Only lb w w' := by
  have HC := Lib.hid hc
  clear hc
  go_enter Try.func22, Try.ntmps22
  go_wp2_with (go_at_call 28; refine (at_in r lb lo i d S _ h hb hi).mono ?_; rintro e w1 ⟨rfl, h1, o1⟩; have g1 := h1.blk.cell 1; have R := h1.at hi; have e0 := R.e0.trans (congrArg (fun x => some (Value.int .i64 x)) HC.out))
  go_ret
  exact ⟨rfl, h1, o1⟩
theorem rdrop_more (r lb : Nat) (lo gen : Int) (i d : Nat) (S : Ss) (w : World) (h : Rf w r lb lo d S) (hb : 0 ≤ lo ∧ lo + d ≤ 4096) (hi : i < d) (hc : 1 < (S i).c) (hc5 : (S i).c ≤ 5000) :
    Calls Try.prog 22 #[.pointer (some ⟨r, 0, none⟩), .int .i64 (lo + i), .int .i64 gen] w fun e w' => e = .returned (.int .i64 0) ∧ Rf w' r lb lo d (set S i { S i with c := (S i).c - 1 }) ∧ Only lb w w' := by
  obtain ⟨c, hcc⟩ : ∃ c, (S i).c = c := ⟨_, rfl⟩
  rw [hcc] at hc hc5
  have HC := Lib.hid hcc
  have n1 : (c == 0) = false := by rw [beq_eq_false_iff_ne]; omega
  have n2 : (c - 1 == 0) = false := by rw [beq_eq_false_iff_ne]; omega
  clear hcc
  go_enter Try.func22, Try.ntmps22
  go_wp2_with (go_at_call 28; refine (at_in r lb lo i d S _ h hb hi).mono ?_; rintro e w1 ⟨rfl, h1, o1⟩; have g1 := h1.blk.cell 1; have R := h1.at hi; have e0 := R.e0.trans (congrArg (fun x => some (Value.int .i64 x)) HC.out); have f0 := R.f0; have hne := h1.ne; have hen := Ne.symm h1.ne)
  go_ret
  exact ⟨rfl, by rw [HC.out]; exact h1.setc hi (c - 1), o1.set _ _⟩
theorem rdrop_last (r lb : Nat) (lo gen : Int) (i d : Nat) (S : Ss) (w : World) (h : Rf w r lb lo d S) (hb : 0 ≤ lo ∧ lo + d ≤ 4096) (hi : i < d) (hc : (S i).c = 1) :
    Calls Try.prog 22 #[.pointer (some ⟨r, 0, none⟩), .int .i64 (lo + i), .int .i64 gen] w fun e w' => e = .returned (.int .i64 0) ∧ Rf w' r lb lo d (set S i ⟨0, 0, gen, (S i).b != gen⟩) ∧ Only lb w w' := by
  have HC := Lib.hid hc
  clear hc
  obtain ⟨b, hbb⟩ : ∃ b, (S i).b = b := ⟨_, rfl⟩
  have HB := Lib.hid hbb
  clear hbb
  go_enter Try.func22, Try.ntmps22
  go_wp2_with (go_at_call 28; refine (at_in r lb lo i d S _ h hb hi).mono ?_; rintro e w1 ⟨rfl, h1, o1⟩; have g1 := h1.blk.cell 1; have R := h1.at hi; have e0 := R.e0.trans (congrArg (fun x => some (Value.int .i64 x)) HC.out); have f0 := R.f0; have hne := h1.ne; have hen := Ne.symm h1.ne)
  obtain ⟨w2, hw2⟩ : ∃ w2, w1.setCell ⟨lb, i * 4, none⟩ (.int .i64 0) = w2 := ⟨_, rfl⟩
  have h2 := h1.setc hi 0
  have o2 := o1.set (i * 4) (.int .i64 0)
  rw [hw2] at h2 o2 ⊢
  clear hw2 o1 h1 g1 e0 f0 R
  have g1 := h2.blk.cell 1
  have R := h2.at hi
  rw [set_at] at R
  have e0 := R.e0
  have e1 := R.e1.trans (congrArg (fun x => some (Value.int .i64 x)) HB.out)
  obtain ⟨_, _, e2, e3, f0, f1, f2, f3⟩ := R
  go_region
  all_goals
    go_wp2
    go_ret
    refine ⟨rfl, ?_, ?_⟩
    · have := h2.set4 hi ⟨0, 0, gen, b != gen⟩
      rw [set_set] at this
      rw [HB.out]
      first | exact this | exact this.drew
    · first | exact (((o2.set _ _).set _ _).set _ _).set _ _ | exact ((((o2.set _ _).set _ _).set _ _).set _ _).drew
theorem rdrop_any (r lb : Nat) (lo n gen : Int) (d : Nat) (S : Ss) (w : World) (h : Rf w r lb lo d S) (hb : 0 ≤ lo ∧ lo + d ≤ 4096) (hm : n ≤ 9223372036854775807) (hc : ∀ i, i < d → 0 ≤ (S i).c ∧ (S i).c ≤ 5000) (x : Int) (S' : Ss) (hx : rDrop lo d n gen S = (x, S')) :
    Calls Try.prog 22 #[.pointer (some ⟨r, 0, none⟩), .int .i64 n, .int .i64 gen] w fun e w' => e = .returned (.int .i64 x) ∧ Rf w' r lb lo d S' ∧ Only lb w w' := by
  unfold rDrop at hx
  cases hr : rAt lo d n with
  | none => rw [hr] at hx; cases hx; exact rdrop_out r lb lo n gen d S w h hb (rAt_none hr) hm
  | some i =>
    rw [hr] at hx
    obtain ⟨rfl, hi⟩ := rAt_some hr
    have hci := hc i hi
    by_cases h0 : (S i).c = 0
    · simp only [if_pos h0] at hx
      cases hx
      exact rdrop_free r lb lo gen i d S w h hb hi h0
    · by_cases h5 : (S i).c = 1
      · simp only [if_neg h0, if_pos h5] at hx
        cases hx
        exact rdrop_last r lb lo gen i d S w h hb hi h5
      · simp only [if_neg h0, if_neg h5] at hx
        cases hx
        exact rdrop_more r lb lo gen i d S w h hb hi (by omega) (by omega)
theorem fr_true {s : Sec} (h : s.fr = true) : s.c = 0 ∧ s.wt = false := by unfold Sec.fr at h; simpa using h
theorem fr_false {s : Sec} (h : s.fr = false) : (s.c == 0) = false ∨ s.c = 0 ∧ s.wt = true := by
  unfold Sec.fr at h
  by_cases e : s.c = 0
  · simp [e] at h; exact .inr ⟨e, h⟩
  · exact .inl (by simpa using e)

theorem fst1_hit {p : Nat → Bool} {i : Nat} : ∀ {d : Nat}, i < d → fst1 p i = none → p i = true → fst1 p d = some i
  | 0, h, _, _ => absurd h (Nat.not_lt_zero i)
  | d + 1, h, h1, h2 => by
    unfold fst1
    by_cases e : i = d
    · subst e; rw [h1, h2]; rfl
    · rw [fst1_hit (by omega) h1 h2]
set_option maxHeartbeats 400000 in
theorem rtake_any (r lb : Nat) (lo gen : Int) (d : Nat) (S : Ss) (w : World) (h : Rf w r lb lo d S) (hb : 0 ≤ lo ∧ lo + d ≤ 4096) (x y : Int) (S' : Ss) (hx : rTake lo d gen S = (x, y, S')) :
    Calls Try.prog 18 #[.pointer (some ⟨r, 0, none⟩), .int .i64 gen] w fun e w' => e = .returned (.tuple #[.int .i64 x, .int .i64 y]) ∧ Rf w' r lb lo d S' ∧ Only lb w w' := by
  have HX := Lib.hid hx
  clear hx
  go_enter Try.func18, Try.ntmps18
  go_wp2
  go_loopg [4, 5, 6] d (fun q _ _ v wr => ∃ i : Nat, i ≤ d ∧ q = d - i ∧ v = .int .i64 i ∧ w = wr ∧ fst1 (fun i => (S i).fr) i = none)
  case atStart => exact ⟨0, by omega, by omega, rfl, rfl, rfl⟩
  case round =>
    obtain ⟨i, hi, rfl, rfl, rfl, hf⟩ := hrel
    have HF := Lib.hid hf
    clear hf
    have g0 := h.blk.cell 0
    have g1 := h.blk.cell 1
    by_cases hlt : i < d
    · have R := h.at hlt
      have e1 := R.e1
      have e2 := R.e2
      have f0 := R.f0
      have f1 := R.f1
      have f2 := R.f2
      have f3 := R.f3
      cases hfr : (S i).fr with
      | true =>
        obtain ⟨hc, hw⟩ := fr_true hfr
        have e0 := R.e0
        have e3 := R.e3
        rw [hc] at e0
        rw [hw] at e3
        have HR := Lib.hid hfr
        clear hfr hc hw R
        have hne := h.ne
        have hen := Ne.symm h.ne
        go_wp2
        go_ret2
        have hx := HX.out
        unfold rTake at hx
        rw [fst1_hit hlt HF.out HR.out] at hx
        cases hx
        exact ⟨rfl, h.set4 hlt ⟨1, gen, 0, false⟩, ((((Only.refl _ _).set _ _).set _ _).set _ _).set _ _⟩
      | false =>
        have HR := Lib.hid hfr
        rcases fr_false hfr with hc | ⟨hc, hw⟩
        · have e0 := R.e0
          have e3 := R.e3
          clear hfr R
          go_wp2
          go_roundg (d - (i + 1))
          case measure => omega
          case rel => exact ⟨i + 1, by omega, rfl, by go_num, rfl, by unfold fst1; rw [HF.out, HR.out]; rfl⟩
        · have e0 := R.e0
          have e3 := R.e3
          rw [hc] at e0
          rw [hw] at e3
          clear hfr hc hw R
          go_wp2
          go_roundg (d - (i + 1))
          case measure => omega
          case rel => exact ⟨i + 1, by omega, rfl, by go_num, rfl, by unfold fst1; rw [HF.out, HR.out]; rfl⟩
    · have e : i = d := by omega
      subst e
      have hx := HX.out
      unfold rTake at hx
      rw [HF.out] at hx
      cases hx
      clear HX
      go_wp2
      go_ret2
      exact ⟨rfl, h, Only.refl _ _⟩
theorem cntB_succ (p : Nat → Bool) (i : Nat) : cntB (i + 1) p = cntB i p + if p i then 1 else 0 := rfl
theorem cnt_yes {p : Nat → Bool} {i : Nat} (h : p i = true) : (cntB (i + 1) p : Int) = cntB i p + 1 := by rw [cntB_succ, h]; rfl
theorem cnt_no {p : Nat → Bool} {i : Nat} (h : p i = false) : (cntB (i + 1) p : Int) = cntB i p := by rw [cntB_succ, h]; rfl
set_option maxHeartbeats 400000 in
theorem rroom_any (r lb : Nat) (lo : Int) (d : Nat) (S : Ss) (w : World) (h : Rf w r lb lo d S) (hb : 0 ≤ lo ∧ lo + d ≤ 4096) (x : Int) (hx : cntB d (fun i => (S i).fr) = x) :
    Calls Try.prog 25 #[.pointer (some ⟨r, 0, none⟩)] w fun e w' => e = .returned (.int .i64 x) ∧ w = w' := by
  have HX := Lib.hid hx
  clear hx
  go_enter Try.func25, Try.ntmps25
  go_wp2
  go_loopg [3, 4] d (fun q n v wr => ∃ i : Nat, ∃ c : Int, i ≤ d ∧ q = d - i ∧ v = .int .i64 i ∧ w = wr ∧ n = .int .i64 c ∧ 0 ≤ c ∧ c ≤ i ∧ c = cntB i (fun i => (S i).fr))
  case atStart => exact ⟨0, 0, by omega, by omega, rfl, rfl, rfl, by omega, by omega, rfl⟩
  case round =>
    obtain ⟨i, c, hi, rfl, rfl, rfl, rfl, hc0, hci, hcc⟩ := hrel
    have HC := Lib.hid hcc
    clear hcc
    have g1 := h.blk.cell 1
    by_cases hlt : i < d
    · have R := h.at hlt
      have e0 := R.e0
      have e3 := R.e3
      cases hfr : (S i).fr with
      | true =>
        obtain ⟨hc, hw⟩ := fr_true hfr
        rw [hc] at e0
        rw [hw] at e3
        have HR := Lib.hid hfr
        clear hfr hc hw R
        go_wp2
        go_roundg (d - (i + 1))
        case measure => omega
        case rel => exact ⟨i + 1, c + 1, by omega, rfl, by go_num, rfl, rfl, by omega, by omega, by rw [cnt_yes (p := fun i => (S i).fr) HR.out, ← HC.out]⟩
      | false =>
        have HR := Lib.hid hfr
        rcases fr_false hfr with hc | ⟨hc, hw⟩
        · clear hfr R
          go_wp2
          go_roundg (d - (i + 1))
          case measure => omega
          case rel => exact ⟨i + 1, c, by omega, rfl, by go_num, rfl, rfl, by omega, by omega, by rw [cnt_no (p := fun i => (S i).fr) HR.out, ← HC.out]⟩
        · rw [hc] at e0
          rw [hw] at e3
          clear hfr hc hw R
          go_wp2
          go_roundg (d - (i + 1))
          case measure => omega
          case rel => exact ⟨i + 1, c, by omega, rfl, by go_num, rfl, rfl, by omega, by omega, by rw [cnt_no (p := fun i => (S i).fr) HR.out, ← HC.out]⟩
    · have e : i = d := by omega
      subst e
      go_wp2
      go_ret
      exact ⟨by rw [HC.out, HX.out]; rfl, rfl⟩
theorem rwait_any (r lb : Nat) (lo : Int) (d : Nat) (S : Ss) (w : World) (h : Rf w r lb lo d S) (hb : 0 ≤ lo ∧ lo + d ≤ 4096) (x : Int) (hx : cntB d (fun i => (S i).wt) = x) :
    Calls Try.prog 26 #[.pointer (some ⟨r, 0, none⟩)] w fun e w' => e = .returned (.int .i64 x) ∧ w = w' := by
  have HX := Lib.hid hx
  clear hx
  go_enter Try.func26, Try.ntmps26
  go_wp2
  go_loopg [3, 4] d (fun q n v wr => ∃ i : Nat, ∃ c : Int, i ≤ d ∧ q = d - i ∧ v = .int .i64 i ∧ w = wr ∧ n = .int .i64 c ∧ 0 ≤ c ∧ c ≤ i ∧ c = cntB i (fun i => (S i).wt))
  case atStart => exact ⟨0, 0, by omega, by omega, rfl, rfl, rfl, by omega, by omega, rfl⟩
  case round =>
    obtain ⟨i, c, hi, rfl, rfl, rfl, rfl, hc0, hci, hcc⟩ := hrel
    have HC := Lib.hid hcc
    clear hcc
    have g1 := h.blk.cell 1
    by_cases hlt : i < d
    · have e3 := (h.at hlt).e3
      cases hw : (S i).wt with
      | true =>
        rw [hw] at e3
        have HR := Lib.hid hw
        clear hw
        go_wp2
        go_roundg (d - (i + 1))
        case measure => omega
        case rel => exact ⟨i + 1, c + 1, by omega, rfl, by go_num, rfl, rfl, by omega, by omega, by rw [cnt_yes (p := fun i => (S i).wt) HR.out, ← HC.out]⟩
      | false =>
        rw [hw] at e3
        have HR := Lib.hid hw
        clear hw
        go_wp2
        go_roundg (d - (i + 1))
        case measure => omega
        case rel => exact ⟨i + 1, c, by omega, rfl, by go_num, rfl, rfl, by omega, by omega, by rw [cnt_no (p := fun i => (S i).wt) HR.out, ← HC.out]⟩
    · have e : i = d := by omega
      subst e
      go_wp2
      go_ret
      exact ⟨by rw [HC.out, HX.out]; rfl, rfl⟩
/-- The sectors when the first so many have been freed. -/
def halfS (gen : Int) (S : Ss) (i : Nat) : Ss := fun j => if j < i then rFree gen S j else S j
theorem halfS_zero (gen : Int) (S : Ss) : halfS gen S 0 = S := by funext j; simp [halfS]
theorem halfS_at (gen : Int) (S : Ss) (i : Nat) : halfS gen S i i = S i := by simp [halfS]
theorem halfS_yes {gen : Int} {S : Ss} {i : Nat} (h : gone gen (S i) = true) : set (halfS gen S i) i ⟨0, 0, 0, false⟩ = halfS gen S (i + 1) := by
  funext j
  unfold set halfS
  by_cases e : j = i
  · subst e; simp [rFree, h]
  · by_cases l : j < i
    · have : j < i + 1 := by omega
      simp [e, l, this]
    · have : ¬ j < i + 1 := by omega
      simp [e, l, this]
theorem halfS_no {gen : Int} {S : Ss} {i : Nat} (h : gone gen (S i) = false) : halfS gen S i = halfS gen S (i + 1) := by
  funext j
  unfold halfS
  by_cases e : j = i
  · subst e; simp [rFree, h]
  · by_cases l : j < i
    · have : j < i + 1 := by omega
      simp [l, this]
    · have : ¬ j < i + 1 := by omega
      simp [l, this]
theorem Rf.same {w : World} {r lb d : Nat} {lo : Int} {S S' : Ss} (h : Rf w r lb lo d S) (he : ∀ i, i < d → S i = S' i) : Rf w r lb lo d S' := by
  obtain ⟨h1, ⟨cs, k1, k2, k3⟩, h3⟩ := h
  exact ⟨h1, ⟨cs, k1, k2, fun i hi => by rw [← he i hi]; exact k3 i hi⟩, h3⟩
set_option maxHeartbeats 400000 in
theorem rfree_any (r lb : Nat) (lo gen : Int) (d : Nat) (S : Ss) (w : World) (h : Rf w r lb lo d S) (hb : 0 ≤ lo ∧ lo + d ≤ 4096) (x : Int) (hx : cntB d (fun i => gone gen (S i)) = x) :
    Calls Try.prog 23 #[.pointer (some ⟨r, 0, none⟩), .int .i64 gen] w fun e w' => e = .returned (.int .i64 x) ∧ Rf w' r lb lo d (rFree gen S) ∧ Only lb w w' := by
  have HX := Lib.hid hx
  clear hx
  go_enter Try.func23, Try.ntmps23
  go_wp2
  go_loopg [5, 6] d (fun q n v wr => ∃ i : Nat, ∃ c : Int, i ≤ d ∧ q = d - i ∧ v = .int .i64 i ∧ Rf wr r lb lo d (halfS gen S i) ∧ Only lb w wr ∧ n = .int .i64 c ∧ 0 ≤ c ∧ c ≤ i ∧ c = cntB i (fun i => gone gen (S i)))
  case atStart => exact ⟨0, 0, by omega, by omega, rfl, by rw [halfS_zero]; exact h, Only.refl _ _, rfl, by omega, by omega, rfl⟩
  case round =>
    obtain ⟨i, c, hi, rfl, rfl, hR, hO, rfl, hc0, hci, hcc⟩ := hrel
    have HC := Lib.hid hcc
    clear hcc
    have g1 := hR.blk.cell 1
    have hne := hR.ne
    have hen := Ne.symm hR.ne
    by_cases hlt : i < d
    · have R := hR.at hlt
      rw [halfS_at] at R
      obtain ⟨e0, e1, e2, e3, f0, f1, f2, f3⟩ := R
      cases hw : (S i).wt with
      | true =>
        rw [hw] at e3
        by_cases hf : (S i).f ≤ gen
        · have HR : Hid (gone gen (S i) = true) := by show _ = _; unfold gone; rw [hw]; simpa using hf
          clear hw
          go_wp2
          go_roundg (d - (i + 1))
          case measure => omega
          case rel =>
            have h4 := hR.set4 hlt ⟨0, 0, 0, false⟩
            rw [halfS_yes HR.out] at h4
            exact ⟨i + 1, c + 1, by omega, rfl, by go_num, h4, (((hO.set _ _).set _ _).set _ _).set _ _, rfl, by omega, by omega, by rw [cnt_yes (p := fun i => gone gen (S i)) HR.out, ← HC.out]⟩
        · have HR : Hid (gone gen (S i) = false) := by show _ = _; unfold gone; rw [hw]; simpa using hf
          clear hw
          go_wp2
          go_roundg (d - (i + 1))
          case measure => omega
          case rel => exact ⟨i + 1, c, by omega, rfl, by go_num, by rw [← halfS_no HR.out]; exact hR, hO, rfl, by omega, by omega, by rw [cnt_no (p := fun i => gone gen (S i)) HR.out, ← HC.out]⟩
      | false =>
        rw [hw] at e3
        have HR : Hid (gone gen (S i) = false) := by show _ = _; unfold gone; rw [hw]; rfl
        clear hw
        go_wp2
        go_roundg (d - (i + 1))
        case measure => omega
        case rel => exact ⟨i + 1, c, by omega, rfl, by go_num, by rw [← halfS_no HR.out]; exact hR, hO, rfl, by omega, by omega, by rw [cnt_no (p := fun i => gone gen (S i)) HR.out, ← HC.out]⟩
    · have e : i = d := by omega
      subst e
      go_wp2
      go_ret
      exact ⟨by rw [HC.out, HX.out]; rfl, hR.same fun j hj => by unfold halfS; rw [if_pos hj], hO⟩
end Go.Proofs.Ytbbegbiiaabmgaa
