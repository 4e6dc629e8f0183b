/- LineNearest: the walk. Printed by gennr.py. -/
import Derived.Test.YtlbdeabohjokeaaHoLines
import Derived.Test.YtlbdeabohjokeaaHoChecks
import Derived.Deep.QuietTactic
import Derived.BigQuiet
namespace Go.Proofs.Ytlbdeabohjokeaa
open Go.RowKit Mp Ln
theorem same_src {L : List Sn} {x y : Int} {s t : Sn} (hs : s ∈ line L x) (ht : t ∈ line L y) (e : s.src = t.src) : s = t := by
  obtain ⟨hr, ⟨i, hi, rfl⟩, _⟩ := line_mem x s hs
  obtain ⟨_, ⟨j, hj, rfl⟩, _⟩ := line_mem y t ht
  rw [src_inj hr hi hj e]
theorem same_id {L : List Sn} {x y : Int} {s t : Sn} (hs : s ∈ line L x) (ht : t ∈ line L y) (e : s.id = t.id) : s = t := by
  obtain ⟨hr, ⟨i, hi, rfl⟩, _⟩ := line_mem x s hs
  obtain ⟨_, ⟨j, hj, rfl⟩, _⟩ := line_mem y t ht
  rw [id_inj hr hi hj e]
theorem has_yes {B : List Sn} {t : Sn} (h : t ∈ B) : has B t.src = true := by
  unfold has
  exact List.any_eq_true.2 ⟨t, h, by simp⟩
theorem has_mem {B : List Sn} {k : Int} (h : has B k = true) : ∃ t ∈ B, t.src = k := by
  unfold has at h
  obtain ⟨t, ht, e⟩ := List.any_eq_true.1 h
  exact ⟨t, ht, by simpa using e⟩
theorem behind {L : List Sn} {x : Int} {pre rest : List Sn} {s t : Sn} (h : line L x = pre ++ s :: rest) (ht : t ∈ rest) : t.id < s.id := by
  obtain ⟨r1, r2, rfl⟩ := List.append_of_mem ht
  exact (line_from x (pre ++ s :: r1) t r2 (by rw [h]; simp)).2 s (by simp)
/-- The first that stands on the other line, too. -/
theorem first_on (A B : List Sn) : (comV A B = (0, false) ∧ ∀ t ∈ A, has B t.src = false) ∨ ∃ pre s rest, A = pre ++ s :: rest ∧ (∀ t ∈ pre, has B t.src = false) ∧ has B s.src = true ∧ comV A B = (s.src, true) := by
  cases hf : A.find? (fun s => has B s.src) with
  | none =>
    have h : ∀ t ∈ A, has B t.src = false := fun t ht => by simpa using List.find?_eq_none.1 hf t ht
    exact .inl ⟨com_none h, h⟩
  | some s =>
    obtain ⟨h1, pre, rest, rfl, h2⟩ := List.find?_eq_some_iff_append.1 hf
    have h3 : ∀ t ∈ pre, has B t.src = false := fun t ht => by simpa using h2 t ht
    exact .inr ⟨pre, s, rest, rfl, h3, h1, com_some (pre0 := pre) ⟨rest, by simp⟩ h3 h1⟩
theorem near (L : List Sn) (x y : Int) : (comV (line L x) (line L y) = (0, false) ∧ comV (line L y) (line L x) = (0, false) ∧ ∀ k ∈ lids L x, k ∉ lids L y) ∨
    ∃ pre s rest, line L x = pre ++ s :: rest ∧ comV (line L x) (line L y) = (s.src, true) ∧ comV (line L y) (line L x) = (s.src, true) ∧ source L s.src = some s ∧ (∀ t ∈ pre, t.id ≠ s.id ∧ t.id ∉ lids L y) ∧ s.id ∈ lids L x ∧ s.id ∈ lids L y := by
  rcases first_on (line L x) (line L y) with ⟨h1, h2⟩ | ⟨pre, s, rest, h1, h2, h3, h4⟩
  · refine .inl ⟨h1, ?_, fun k hk hk' => ?_⟩
    · refine com_none fun t ht => ?_
      cases hh : has (line L x) t.src with
      | false => rfl
      | true =>
        obtain ⟨u, hu, e⟩ := has_mem hh
        have := h2 u hu
        rw [e, has_yes ht] at this
        cases this
    · unfold lids at hk hk'
      obtain ⟨t, ht, rfl⟩ := List.mem_map.1 hk
      obtain ⟨u, hu, e⟩ := List.mem_map.1 hk'
      have := same_id hu ht e
      subst this
      have := h2 u ht
      rw [has_yes hu] at this
      cases this
  · have hsA : s ∈ line L x := by rw [h1]; simp
    obtain ⟨s', hsB, e⟩ := has_mem h3
    have := same_src hsB hsA e
    subst this
    have hA : ∀ t ∈ line L y, t ∈ pre → False := fun t ht hp => by
      have := h2 t hp
      rw [has_yes ht] at this
      cases this
    refine .inr ⟨pre, s', rest, h1, h4, ?_, ?_, fun t ht => ⟨?_, fun hm => ?_⟩, ?_, ?_⟩
    · rcases first_on (line L y) (line L x) with ⟨k1, k2⟩ | ⟨pre', t, rest', k1, k2, k3, k4⟩
      · have := k2 s' hsB
        rw [has_yes hsA] at this
        cases this
      · obtain ⟨t', htA, e'⟩ := has_mem k3
        have htB : t ∈ line L y := by rw [k1]; simp
        have := same_src htA htB e'
        subst this
        rw [k4]
        by_cases e2 : t' = s'
        · rw [e2]
        · exfalso
          have m1 : t' ∈ rest := by
            rw [h1] at htA
            rcases List.mem_append.1 htA with m | m
            · exact (hA t' htB m).elim
            · rcases List.mem_cons.1 m with m | m
              · exact (e2 m).elim
              · exact m
          have m2 : s' ∈ rest' := by
            rw [k1] at hsB
            rcases List.mem_append.1 hsB with m | m
            · have := k2 s' m
              rw [has_yes hsA] at this
              cases this
            · rcases List.mem_cons.1 m with m | m
              · exact (e2 m.symm).elim
              · exact m
          have := behind h1 m1
          have := behind k1 m2
          omega
    · obtain ⟨hr, ⟨i, hi, rfl⟩, _⟩ := line_mem x s' hsA
      exact source_at hr hi
    · have := (line_from x pre s' rest h1).2 t ht
      omega
    · unfold lids at hm
      obtain ⟨u, hu, e3⟩ := List.mem_map.1 hm
      have := same_id hu (show t ∈ line L x by rw [h1]; simp [ht]) e3
      subst this
      exact hA u hu ht
    · unfold lids; exact List.mem_map_of_mem hsA
    · unfold lids; exact List.mem_map_of_mem hsB
theorem nearest_out (oa : Option Addr) (la ca : Nat) (x y : Int) (w : World) (h : 60 < (la : Int)) :
    Calls Try.prog 4 #[.slice oa la ca, .int .i64 x, .int .i64 y] w fun e w' => e = .returned (.bool true) ∧ Below w.heap.size w w' := by
  go_enter Try.func4, Try.ntmps4
  go_wp2_with (go_at_call 7; refine (awake_any _).mono ?_; rintro e w1 ⟨rfl, hb1⟩)
  go_ret
  exact ⟨rfl, hb1⟩

set_option maxRecDepth 100000 in
set_option maxHeartbeats 4000000 in
theorem nearest_none (v : Value) (L : List Sn) (x y : Int) (w : World) (h : Ls w v L) (hl : L.length ≤ 60) (hc : comV (line L x) (line L y) = (0, false) ∧ comV (line L y) (line L x) = (0, false)) (hno : ∀ k ∈ lids L x, k ∉ lids L y) :
    Calls Try.prog 4 #[v, .int .i64 x, .int .i64 y] w fun e w' => e = .returned (.bool true) ∧ Below w.heap.size w w' := by
  obtain ⟨oa, ca, rfl, hn, h1, h2, hS⟩ := h
  have hLa : Hid (Ls w (.slice oa L.length ca) L) := ⟨oa, ca, rfl, hn, h1, h2, hS⟩
  clear hn hS h1 h2
  obtain ⟨p, hp⟩ : ∃ p, lids L x = p := ⟨_, rfl⟩
  obtain ⟨q, hq⟩ : ∃ q, lids L y = q := ⟨_, rfl⟩
  have hp60 : p.length ≤ 60 := by rw [← hp, lids_len]; exact Nat.le_trans (line_len L x) hl
  have hq60 : q.length ≤ 60 := by rw [← hq, lids_len]; exact Nat.le_trans (line_len L y) hl
  have HP := Lib.hid hp
  have HQ := Lib.hid hq
  have HN : Hid (∀ k ∈ p, k ∉ q) := by rw [← hp, ← hq]; exact hno
  obtain ⟨s, hs⟩ : ∃ s, optV (source L 0) = s := ⟨_, rfl⟩
  obtain ⟨sb, hsb⟩ : ∃ b, (source L 0).isSome = b := ⟨_, rfl⟩
  have HS : Hid (optV (source L 0) = s ∧ (source L 0).isSome = sb) := ⟨hs, hsb⟩
  have HC := Lib.hid hc
  clear hp hq hno hc hs hsb
  have tok1 : True := trivial
  have tok2 : True := trivial
  have tok3 : True := trivial
  have tok4 : True := trivial
  have tok5 : True := trivial
  have tok6 : True := trivial
  have tok7 : True := trivial
  have tok8 : True := trivial
  have tok9 : True := trivial
  go_enter Try.func4, Try.ntmps4
  go_wp2_with (first
      | (go_at_call 7; refine (awake_any _).mono ?_; rintro e w1 ⟨rfl, B1⟩)
      | (go_at_call 9; have _t := tok1; refine (own_any _ L _ (hLa.out.on B1) hl).mono ?_; clear tok1; rintro e w2 ⟨o2, c2, rfl, _, _, h2, hb⟩; have B2 := B1.trans (hb.mono B1.size); clear hb)
      | (go_at_call 9; have _t := tok2; refine (own_any _ L _ (hLa.out.on B2) hl).mono ?_; clear tok2; rintro e w3 ⟨o3, c3, rfl, _, _, h3, hb⟩; have g2 := h2.on hb; have B3 := B2.trans (hb.mono B2.size); clear hb)
      | (go_at_call 15; have _t := tok7; refine (common_to (0) false o2 o3 c2 c3 L L x y _ g2 hl h3 hl HC.out.1).mono ?_; clear tok7; rintro e w4 ⟨rfl, hb⟩; have B4 := B3.trans (hb.mono B3.size); clear hb)
      | (go_at_call 9; have _t := tok3; refine (own_any _ L _ (hLa.out.on B4) hl).mono ?_; clear tok3; rintro e w5 ⟨o5, c5, rfl, _, _, h5, hb⟩; have B5 := B4.trans (hb.mono B4.size); clear hb)
      | (go_at_call 9; have _t := tok4; refine (own_any _ L _ (hLa.out.on B5) hl).mono ?_; clear tok4; rintro e w6 ⟨o6, c6, rfl, _, _, h6, hb⟩; have g5 := h5.on hb; have B6 := B5.trans (hb.mono B5.size); clear hb)
      | (go_at_call 15; refine (common_to (0) false o5 o6 c5 c6 L L y x _ g5 hl h6 hl HC.out.2).mono ?_; rintro e w7 ⟨rfl, hb⟩; have B7 := B6.trans (hb.mono B6.size); clear hb)
      | (go_at_call 9; have _t := tok5; refine (own_any _ L _ (hLa.out.on B7) hl).mono ?_; clear tok5; rintro e w8 ⟨o8, c8, rfl, _, _, h8, hb⟩; have B8 := B7.trans (hb.mono B7.size); clear hb)
      | (go_at_call 16; have _t := tok8; refine (line_to p o8 c8 L x _ h8 hl HP.out).mono ?_; clear tok8; rintro e w9 ⟨o9, c9, rfl, P9, hb⟩; have B9 := B8.trans (hb.mono B8.size); clear hb)
      | (go_at_call 9; have _t := tok6; refine (own_any _ L _ (hLa.out.on B9) hl).mono ?_; clear tok6; rintro e w10 ⟨o10, c10, rfl, _, _, h10, hb⟩; have P10 := P9.on hb; have B10 := B9.trans (hb.mono B9.size); clear hb)
      | (go_at_call 16; refine (line_to q o10 c10 L y _ h10 hl HQ.out).mono ?_; rintro e w11 ⟨o11, c11, rfl, Q11, hb⟩; have P11 := P10.on hb; have B11 := B10.trans (hb.mono B10.size); clear hb)
      | (go_at_call 9; refine (own_any _ L _ (hLa.out.on B11) hl).mono ?_; rintro e w12 ⟨o12, c12, rfl, _, _, h12, hb⟩; have P12 := P11.on hb; have Q12 := Q11.on hb; have B12 := B11.trans (hb.mono B11.size); clear hb)
      | (go_at_call 11; refine (source_to s sb (0) o12 c12 L _ h12 hl HS.out).mono ?_; rintro e w13 ⟨rfl, hb⟩; have P13 := (P12.on hb).on (below_al (o := .cells #[.string s.nm, .int .i64 s.id, .int .i64 s.p, .int .i64 s.src] 25) (Below.refl _ _)); have Q13 := (Q12.on hb).on (below_al (o := .cells #[.string s.nm, .int .i64 s.id, .int .i64 s.p, .int .i64 s.src] 25) (Below.refl _ _)); have B13 := below_al (o := .cells #[.string s.nm, .int .i64 s.id, .int .i64 s.p, .int .i64 s.src] 25) (B12.trans (hb.mono B12.size)); have G13 : Blk (w13.alloc (.cells #[.string s.nm, .int .i64 s.id, .int .i64 s.p, .int .i64 s.src] 25)) w13.heap.size 25 (cell4 s) := Blk.new' _ _ rfl; clear hb))
  go_loopg [15] p.length (fun n v wr => ∃ i : Nat, i ≤ p.length ∧ n = p.length - i ∧ v = .int .i64 i ∧ Below (w13.alloc (.cells #[.string s.nm, .int .i64 s.id, .int .i64 s.p, .int .i64 s.src] 25)).heap.size (w13.alloc (.cells #[.string s.nm, .int .i64 s.id, .int .i64 s.p, .int .i64 s.src] 25)) wr)
  case atStart => exact ⟨0, by omega, by omega, rfl, Below.refl _ _⟩
  case round =>
    obtain ⟨i, hi, rfl, rfl, hB⟩ := hrel
    by_cases hlt : i < p.length
    · obtain ⟨a, rfl, hc, _⟩ := (P13.on hB) i hlt
      obtain ⟨u, hu⟩ : ∃ u, p.getD i 0 = u := ⟨_, rfl⟩
      have HU : Hid (decide (u ∈ q) = false) := decide_eq_false (HN.out u (by rw [← hu]; exact List.mem_of_getElem? (getD_some hlt)))
      rw [hu] at hc
      clear hu
      go_wp2_with (go_at_call 17; refine (on_any o11 c11 q u _ (Q13.on hB) hq60 false HU.out).mono ?_; rintro e w14 ⟨rfl, rfl⟩)
      go_roundg (p.length - (i + 1))
      case measure => omega
      case rel => exact ⟨i + 1, by omega, rfl, by go_num, hB⟩
    · go_wp2
      go_ret
      exact ⟨rfl, B13.trans (hB.mono B13.size)⟩
set_option maxRecDepth 100000 in
set_option maxHeartbeats 4000000 in
theorem nearest_some (v : Value) (L : List Sn) (x y : Int) (w : World) (h : Ls w v L) (hl : L.length ≤ 60) (pre rest : List Sn) (s : Sn) (hpr : line L x = pre ++ s :: rest) (hc : comV (line L x) (line L y) = (s.src, true) ∧ comV (line L y) (line L x) = (s.src, true)) (hso : source L s.src = some s) (hno : ∀ t ∈ pre, t.id ≠ s.id ∧ t.id ∉ lids L y) (hsp : s.id ∈ lids L x) (hsq : s.id ∈ lids L y) :
    Calls Try.prog 4 #[v, .int .i64 x, .int .i64 y] w fun e w' => e = .returned (.bool true) ∧ Below w.heap.size w w' := by
  obtain ⟨oa, ca, rfl, hn, h1, h2, hS⟩ := h
  have hLa : Hid (Ls w (.slice oa L.length ca) L) := ⟨oa, ca, rfl, hn, h1, h2, hS⟩
  clear hn hS h1 h2
  obtain ⟨p, hp⟩ : ∃ p, lids L x = p := ⟨_, rfl⟩
  obtain ⟨q, hq⟩ : ∃ q, lids L y = q := ⟨_, rfl⟩
  have hp60 : p.length ≤ 60 := by rw [← hp, lids_len]; exact Nat.le_trans (line_len L x) hl
  have hq60 : q.length ≤ 60 := by rw [← hq, lids_len]; exact Nat.le_trans (line_len L y) hl
  have HP := Lib.hid hp
  have HQ := Lib.hid hq
  have hpi : p = pre.map (·.id) ++ s.id :: rest.map (·.id) := by rw [← hp]; unfold lids; rw [hpr]; simp
  have HL : Hid (p.length = pre.length + (1 + rest.length)) := by show p.length = _; rw [hpi]; simp; omega
  have HA : Hid (∀ i u, i < pre.length → p[i]? = some u → u ≠ s.id ∧ decide (u ∈ q) = false) := fun i u hi hu => by
    rw [hpi, List.getElem?_append_left (by simpa using hi), List.getElem?_map, List.getElem?_eq_getElem hi] at hu
    cases hu
    have := hno pre[i] (List.getElem_mem hi)
    rw [hq] at this
    exact ⟨this.1, decide_eq_false this.2⟩
  have HB : Hid (p[pre.length]? = some s.id) := by show p[pre.length]? = _; rw [hpi, List.getElem?_append_right (by simp)]; simp
  have HSP : Hid (decide (s.id ∈ p) = true) := by rw [← hp]; exact decide_eq_true hsp
  have HSQ : Hid (decide (s.id ∈ q) = true) := by rw [← hq]; exact decide_eq_true hsq
  have HS : Hid (optV (source L s.src) = s ∧ (source L s.src).isSome = true) := by rw [hso]; exact ⟨rfl, rfl⟩
  have HC := Lib.hid hc
  clear hp hq hpr hno hc hso hpi hsp hsq
  have tok1 : True := trivial
  have tok2 : True := trivial
  have tok3 : True := trivial
  have tok4 : True := trivial
  have tok5 : True := trivial
  have tok6 : True := trivial
  have tok7 : True := trivial
  have tok8 : True := trivial
  have tok9 : True := trivial
  go_enter Try.func4, Try.ntmps4
  go_wp2_with (first
      | (go_at_call 7; refine (awake_any _).mono ?_; rintro e w1 ⟨rfl, B1⟩)
      | (go_at_call 9; have _t := tok1; refine (own_any _ L _ (hLa.out.on B1) hl).mono ?_; clear tok1; rintro e w2 ⟨o2, c2, rfl, _, _, h2, hb⟩; have B2 := B1.trans (hb.mono B1.size); clear hb)
      | (go_at_call 9; have _t := tok2; refine (own_any _ L _ (hLa.out.on B2) hl).mono ?_; clear tok2; rintro e w3 ⟨o3, c3, rfl, _, _, h3, hb⟩; have g2 := h2.on hb; have B3 := B2.trans (hb.mono B2.size); clear hb)
      | (go_at_call 15; have _t := tok7; refine (common_to (s.src) true o2 o3 c2 c3 L L x y _ g2 hl h3 hl HC.out.1).mono ?_; clear tok7; rintro e w4 ⟨rfl, hb⟩; have B4 := B3.trans (hb.mono B3.size); clear hb)
      | (go_at_call 9; have _t := tok3; refine (own_any _ L _ (hLa.out.on B4) hl).mono ?_; clear tok3; rintro e w5 ⟨o5, c5, rfl, _, _, h5, hb⟩; have B5 := B4.trans (hb.mono B4.size); clear hb)
      | (go_at_call 9; have _t := tok4; refine (own_any _ L _ (hLa.out.on B5) hl).mono ?_; clear tok4; rintro e w6 ⟨o6, c6, rfl, _, _, h6, hb⟩; have g5 := h5.on hb; have B6 := B5.trans (hb.mono B5.size); clear hb)
      | (go_at_call 15; refine (common_to (s.src) true o5 o6 c5 c6 L L y x _ g5 hl h6 hl HC.out.2).mono ?_; rintro e w7 ⟨rfl, hb⟩; have B7 := B6.trans (hb.mono B6.size); clear hb)
      | (go_at_call 9; have _t := tok5; refine (own_any _ L _ (hLa.out.on B7) hl).mono ?_; clear tok5; rintro e w8 ⟨o8, c8, rfl, _, _, h8, hb⟩; have B8 := B7.trans (hb.mono B7.size); clear hb)
      | (go_at_call 16; have _t := tok8; refine (line_to p o8 c8 L x _ h8 hl HP.out).mono ?_; clear tok8; rintro e w9 ⟨o9, c9, rfl, P9, hb⟩; have B9 := B8.trans (hb.mono B8.size); clear hb)
      | (go_at_call 9; have _t := tok6; refine (own_any _ L _ (hLa.out.on B9) hl).mono ?_; clear tok6; rintro e w10 ⟨o10, c10, rfl, _, _, h10, hb⟩; have P10 := P9.on hb; have B10 := B9.trans (hb.mono B9.size); clear hb)
      | (go_at_call 16; refine (line_to q o10 c10 L y _ h10 hl HQ.out).mono ?_; rintro e w11 ⟨o11, c11, rfl, Q11, hb⟩; have P11 := P10.on hb; have B11 := B10.trans (hb.mono B10.size); clear hb)
      | (go_at_call 9; refine (own_any _ L _ (hLa.out.on B11) hl).mono ?_; rintro e w12 ⟨o12, c12, rfl, _, _, h12, hb⟩; have P12 := P11.on hb; have Q12 := Q11.on hb; have B12 := B11.trans (hb.mono B11.size); clear hb)
      | (go_at_call 11; refine (source_to s true (s.src) o12 c12 L _ h12 hl HS.out).mono ?_; rintro e w13 ⟨rfl, hb⟩; have P13 := (P12.on hb).on (below_al (o := .cells #[.string s.nm, .int .i64 s.id, .int .i64 s.p, .int .i64 s.src] 25) (Below.refl _ _)); have Q13 := (Q12.on hb).on (below_al (o := .cells #[.string s.nm, .int .i64 s.id, .int .i64 s.p, .int .i64 s.src] 25) (Below.refl _ _)); have B13 := below_al (o := .cells #[.string s.nm, .int .i64 s.id, .int .i64 s.p, .int .i64 s.src] 25) (B12.trans (hb.mono B12.size)); have G13 : Blk (w13.alloc (.cells #[.string s.nm, .int .i64 s.id, .int .i64 s.p, .int .i64 s.src] 25)) w13.heap.size 25 (cell4 s) := Blk.new' _ _ rfl; clear hb))
  go_loopg [16] pre.length (fun n v wr => ∃ i : Nat, i ≤ pre.length ∧ n = pre.length - i ∧ v = .int .i64 i ∧ Below (w13.alloc (.cells #[.string s.nm, .int .i64 s.id, .int .i64 s.p, .int .i64 s.src] 25)).heap.size (w13.alloc (.cells #[.string s.nm, .int .i64 s.id, .int .i64 s.p, .int .i64 s.src] 25)) wr)
  case atStart => exact ⟨0, by omega, by omega, rfl, Below.refl _ _⟩
  case round =>
    obtain ⟨i, hi, rfl, rfl, hB⟩ := hrel
    have hlt : i < p.length := by have := HL.out; omega
    have hlt' : (i : Int) < (p.length : Int) := by omega
    have R := (Blk.on G13 hB).box4
    have r1 := R.e1
    clear R
    obtain ⟨a, rfl, hc, _⟩ := (P13.on hB) i hlt
    obtain ⟨u, hu⟩ : ∃ u, p.getD i 0 = u := ⟨_, rfl⟩
    have HU : Hid (p[i]? = some u) := by rw [← hu]; exact getD_some hlt
    rw [hu] at hc
    clear hu
    by_cases hip : i < pre.length
    · have HV := Lib.hid (HA.out i u hip HU.out)
      have he : (u != s.id) = true := by simpa using HV.out.1
      go_wp2
      go_quiet (fail)
      go_wp2_with (go_at_call 17; refine (on_any o11 c11 q u _ (Q13.on (below_drewN hB _)) hq60 false HV.out.2).mono ?_; rintro e w14 ⟨rfl, rfl⟩)
      go_roundg (pre.length - (i + 1))
      case measure => omega
      case rel => exact ⟨i + 1, by omega, rfl, by go_num, below_drewN hB _⟩
    · have hue : u = s.id := by
        have h1 := HU.out
        rw [show i = pre.length by omega, HB.out] at h1
        exact (Option.some.inj h1).symm
      subst hue
      clear hip
      go_wp2
      go_quiet (fail)
      go_wp2_with (first
        | (go_at_call 17; have _t := tok9; refine (on_any (some a) c9 p s.id _ (P13.on (below_drewN hB _)) hp60 true HSP.out).mono ?_; clear tok9; rintro e w14 ⟨rfl, rfl⟩)
        | (go_at_call 17; refine (on_any o11 c11 q s.id _ (Q13.on (below_drewN hB _)) hq60 true HSQ.out).mono ?_; rintro e w14 ⟨rfl, rfl⟩))
      go_ret
      exact ⟨rfl, B13.trans ((below_drewN hB _).mono B13.size)⟩
theorem lineNearest_row (v : Value) (L : List Sn) (x y : Int) (w : World) (h : Ls w v L) (_ : -9223372036854775808 ≤ x ∧ x ≤ 9223372036854775807) (_ : -9223372036854775808 ≤ y ∧ y ≤ 9223372036854775807) :
    Calls Try.prog 4 #[v, .int .i64 x, .int .i64 y] w fun e w' => e = .returned (.bool true) ∧ Below w.heap.size w w' := by
  by_cases hl : L.length ≤ 60
  · rcases near L x y with ⟨h1, h2, h3⟩ | ⟨pre, s, rest, h1, h2, h3, h4, h5, h6, h7⟩
    · exact nearest_none v L x y w h hl ⟨h1, h2⟩ h3
    · exact nearest_some v L x y w h hl pre rest s h1 ⟨h2, h3⟩ h4 h5 h6 h7
  · obtain ⟨oa, ca, rfl, _⟩ := h
    exact nearest_out oa L.length ca x y w (by omega)
end Go.Proofs.Ytlbdeabohjokeaa
