/- LineChecks: the walk. Printed by gench.py. -/
import Derived.Test.YtlbdeabohjokeaaWkO
namespace Go.Proofs.Ytlbdeabohjokeaa
open Go.RowKit Mp Ln

theorem find_to (s : Sn) (b : Bool) (x : Int) (oa : Option Addr) (cap : Nat) (L : List Sn) (w : World) (h : Sl w oa L) (hl : L.length ≤ 60) (hs : optV (find L x) = s ∧ (find L x).isSome = b) :
    Calls Try.prog 8 #[.slice oa L.length cap, .int .i64 x] w fun e w' => e = .returned (.tuple #[.agg #[.string s.nm, .int .i64 s.id, .int .i64 s.p, .int .i64 s.src], .bool b]) ∧ Below w.heap.size w w' := by
  have := find_any x oa cap L w h hl
  rw [hs.1, hs.2] at this
  exact this
theorem source_to (s : Sn) (b : Bool) (x : Int) (oa : Option Addr) (cap : Nat) (L : List Sn) (w : World) (h : Sl w oa L) (hl : L.length ≤ 60) (hs : optV (source L x) = s ∧ (source L x).isSome = b) :
    Calls Try.prog 11 #[.slice oa L.length cap, .int .i64 x] w fun e w' => e = .returned (.tuple #[.agg #[.string s.nm, .int .i64 s.id, .int .i64 s.p, .int .i64 s.src], .bool b]) ∧ Below w.heap.size w w' := by
  have := source_any x oa cap L w h hl
  rw [hs.1, hs.2] at this
  exact this
theorem rfind_to (s : Sn) (b : Bool) (x : Int) (oa : Option Addr) (cap : Nat) (L : List Sn) (w : World) (h : Sl w oa L) (hl : L.length ≤ 60) (hs : optV (find L x) = s ∧ (find L x).isSome = b) :
    Calls Try.prog 10 #[.slice oa L.length cap, .int .i64 x] w fun e w' => e = .returned (.tuple #[.agg #[.string s.nm, .int .i64 s.id, .int .i64 s.p, .int .i64 s.src], .bool b]) ∧ Below w.heap.size w w' := by
  have := rfind_any x oa cap L w h hl
  rw [hs.1, hs.2] at this
  exact this
theorem rsource_to (s : Sn) (b : Bool) (x : Int) (oa : Option Addr) (cap : Nat) (L : List Sn) (w : World) (h : Sl w oa L) (hl : L.length ≤ 60) (hs : optV (source L x) = s ∧ (source L x).isSome = b) :
    Calls Try.prog 12 #[.slice oa L.length cap, .int .i64 x] w fun e w' => e = .returned (.tuple #[.agg #[.string s.nm, .int .i64 s.id, .int .i64 s.p, .int .i64 s.src], .bool b]) ∧ Below w.heap.size w w' := by
  have := rsource_any x oa cap L w h hl
  rw [hs.1, hs.2] at this
  exact this
theorem checks_out (oa : Option Addr) (len cap : Nat) (n : Int) (w : World) (h : 60 < (len : Int)) :
    Calls Try.prog 3 #[.slice oa len cap, .int .i64 n] w fun e w' => e = .returned (.bool true) ∧ Below w.heap.size w w' := by
  go_enter Try.func3, Try.ntmps3
  go_wp2_with (go_at_call 7; refine (awake_any _).mono ?_; rintro e w1 ⟨rfl, hb1⟩)
  go_ret
  exact ⟨rfl, hb1⟩
set_option maxHeartbeats 4000000 in
theorem checks_in (v : Value) (L : List Sn) (n : Int) (w : World) (h : Ls w v L) (hl : L.length ≤ 60) :
    Calls Try.prog 3 #[v, .int .i64 n] w fun e w' => e = .returned (.bool true) ∧ Below w.heap.size w w' := by
  obtain ⟨oa, cap, rfl, hn, h1, h2, hS⟩ := h
  have hLs : Hid (Ls w (.slice oa L.length cap) L) := ⟨oa, cap, rfl, hn, h1, h2, hS⟩
  have HSl := Lib.hid hS
  clear hn hS
  obtain ⟨a, ha⟩ : ∃ a, optV (find L n) = a := ⟨_, rfl⟩
  obtain ⟨ab, hab⟩ : ∃ b, (find L n).isSome = b := ⟨_, rfl⟩
  obtain ⟨c, hc⟩ : ∃ c, optV (source L n) = c := ⟨_, rfl⟩
  obtain ⟨cb, hcb⟩ : ∃ b, (source L n).isSome = b := ⟨_, rfl⟩
  have HA : Hid (optV (find L n) = a ∧ (find L n).isSome = ab) := ⟨ha, hab⟩
  have HC : Hid (optV (source L n) = c ∧ (source L n).isSome = cb) := ⟨hc, hcb⟩
  clear ha hab hc hcb
  have tok1 : True := trivial
  have tok2 : True := trivial
  have tok3 : True := trivial
  have tok4 : True := trivial
  have tok5 : True := trivial
  cases hr : right L with
  | true =>
    have HK : Hid (chk L = 0) := chk_yes hr
    have HR := Lib.hid hr
    clear hr
    go_enter Try.func3, Try.ntmps3
    go_wp2_with (first
      | (go_at_call 7; refine (awake_any _).mono ?_; rintro e w1 ⟨rfl, B1⟩)
      | (go_at_call 9; have _t := tok1; refine (own_any _ L _ (hLs.out.on B1) hl).mono ?_; clear tok1; rintro e w2 ⟨o2, c2, rfl, _, _, h2, hb⟩; have B2 := B1.trans (hb.mono B1.size); clear hb)
      | (go_at_call 8; refine (find_to a ab n o2 c2 L _ h2 hl HA.out).mono ?_; rintro e w3 ⟨rfl, hb⟩; have B3 := below_al (o := .cells #[.string a.nm, .int .i64 a.id, .int .i64 a.p, .int .i64 a.src] 25) (B2.trans (hb.mono B2.size)); have G1 : Blk (w3.alloc (.cells #[.string a.nm, .int .i64 a.id, .int .i64 a.p, .int .i64 a.src] 25)) w3.heap.size 25 (cell4 a) := Blk.new' _ _ rfl; clear hb)
      | (go_at_call 10; refine (rfind_to a ab n oa cap L _ (HSl.out.on B3) hl HA.out).mono ?_; rintro e w4 ⟨rfl, hb⟩; have B4 := below_al (o := .cells #[.string a.nm, .int .i64 a.id, .int .i64 a.p, .int .i64 a.src] 25) (B3.trans (hb.mono B3.size)); have G1' := Blk.on (Blk.on G1 hb) (below_al (o := .cells #[.string a.nm, .int .i64 a.id, .int .i64 a.p, .int .i64 a.src] 25) (Below.refl _ _)); have G2 : Blk (w4.alloc (.cells #[.string a.nm, .int .i64 a.id, .int .i64 a.p, .int .i64 a.src] 25)) w4.heap.size 25 (cell4 a) := Blk.new' _ _ rfl; clear hb)
      | (go_at_call 9; have _t := tok2; refine (own_any _ L _ (hLs.out.on B4) hl).mono ?_; clear tok2; rintro e w5 ⟨o5, c5, rfl, _, _, h5, hb⟩; have B5 := B4.trans (hb.mono B4.size); have X1 := Blk.on G1' hb; have X2 := Blk.on G2 hb; clear hb G1 G1' G2)
      | (go_at_call 11; refine (source_to c cb n o5 c5 L _ h5 hl HC.out).mono ?_; rintro e w6 ⟨rfl, hb⟩; have B6 := below_al (o := .cells #[.string c.nm, .int .i64 c.id, .int .i64 c.p, .int .i64 c.src] 25) (B5.trans (hb.mono B5.size)); have Y1 := Blk.on (Blk.on X1 hb) (below_al (o := .cells #[.string c.nm, .int .i64 c.id, .int .i64 c.p, .int .i64 c.src] 25) (Below.refl _ _)); have Y2 := Blk.on (Blk.on X2 hb) (below_al (o := .cells #[.string c.nm, .int .i64 c.id, .int .i64 c.p, .int .i64 c.src] 25) (Below.refl _ _)); have Y3 : Blk (w6.alloc (.cells #[.string c.nm, .int .i64 c.id, .int .i64 c.p, .int .i64 c.src] 25)) w6.heap.size 25 (cell4 c) := Blk.new' _ _ rfl; clear hb X1 X2)
      | (go_at_call 12; refine (rsource_to c cb n oa cap L _ (HSl.out.on B6) hl HC.out).mono ?_; rintro e w7 ⟨rfl, hb⟩; have B7 := below_al (o := .cells #[.string c.nm, .int .i64 c.id, .int .i64 c.p, .int .i64 c.src] 25) (B6.trans (hb.mono B6.size)); have Z1 := Blk.on (Blk.on Y1 hb) (below_al (o := .cells #[.string c.nm, .int .i64 c.id, .int .i64 c.p, .int .i64 c.src] 25) (Below.refl _ _)); have Z2 := Blk.on (Blk.on Y2 hb) (below_al (o := .cells #[.string c.nm, .int .i64 c.id, .int .i64 c.p, .int .i64 c.src] 25) (Below.refl _ _)); have Z3 := Blk.on (Blk.on Y3 hb) (below_al (o := .cells #[.string c.nm, .int .i64 c.id, .int .i64 c.p, .int .i64 c.src] 25) (Below.refl _ _)); have Z4 : Blk (w7.alloc (.cells #[.string c.nm, .int .i64 c.id, .int .i64 c.p, .int .i64 c.src] 25)) w7.heap.size 25 (cell4 c) := Blk.new' _ _ rfl; clear hb Y1 Y2 Y3)
      | (go_at_call 9; have _t := tok3; refine (own_any _ L _ (hLs.out.on B7) hl).mono ?_; clear tok3; rintro e w8 ⟨o8, c8, rfl, _, _, h8, hb⟩; have B8 := B7.trans (hb.mono B7.size); have T1 := Blk.on Z1 hb; have T2 := Blk.on Z2 hb; have T3 := Blk.on Z3 hb; have T4 := Blk.on Z4 hb; clear hb Z1 Z2 Z3 Z4)
      | (go_at_call 13; have _t := tok4; refine (check_to 0 o8 c8 L _ h8 hl HK.out).mono ?_; clear tok4; rintro e w9 ⟨rfl, hb⟩; have B9 := B8.trans (hb.mono B8.size); have U1 := Blk.on T1 hb; have U2 := Blk.on T2 hb; have U3 := Blk.on T3 hb; have U4 := Blk.on T4 hb; clear hb T1 T2 T3 T4)
      | (go_at_call 14; have _t := tok5; refine (rright_to true oa cap L _ (HSl.out.on B9) hl HR.out).mono ?_; clear tok5; rintro e w10 ⟨rfl, hb⟩; have B10 := B9.trans (hb.mono B9.size); have V1 := Blk.on U1 hb; have V2 := Blk.on U2 hb; have V3 := Blk.on U3 hb; have V4 := Blk.on U4 hb; clear hb U1 U2 U3 U4)
      | (go_at_call 9; refine (own_any _ L _ (hLs.out.on B10) hl).mono ?_; rintro e w11 ⟨o11, c11, rfl, _, _, h11, hb⟩; have B11 := B10.trans (hb.mono B10.size); have P1 := Blk.on V1 hb; have P2 := Blk.on V2 hb; have P3 := Blk.on V3 hb; have P4 := Blk.on V4 hb; clear hb V1 V2 V3 V4)
      | (go_at_call 13; refine (check_to 0 o11 c11 L _ h11 hl HK.out).mono ?_; rintro e w12 ⟨rfl, hb⟩; have B12 := B11.trans (hb.mono B11.size); have Q1 := Blk.on P1 hb; have Q2 := Blk.on P2 hb; have Q3 := Blk.on P3 hb; have Q4 := Blk.on P4 hb; clear hb P1 P2 P3 P4)
      | (go_at_call 14; refine (rright_to true oa cap L _ (HSl.out.on B12) hl HR.out).mono ?_; rintro e w13 ⟨rfl, hb⟩; have B13 := B12.trans (hb.mono B12.size); have S1 := Blk.on Q1 hb; have S2 := Blk.on Q2 hb; have S3 := Blk.on Q3 hb; have S4 := Blk.on Q4 hb; clear hb Q1 Q2 Q3 Q4; have R := S1.box4; have p0 := R.e0; have p1 := R.e1; have p2 := R.e2; have p3 := R.e3; clear R; have R := S2.box4; have q0 := R.e0; have q1 := R.e1; have q2 := R.e2; have q3 := R.e3; clear R; have R := S3.box4; have r0 := R.e0; have r1 := R.e1; have r2 := R.e2; have r3 := R.e3; clear R; have R := S4.box4; have s0 := R.e0; have s1 := R.e1; have s2 := R.e2; have s3 := R.e3; clear R))
    go_ret
    exact ⟨by simp, B13⟩
  | false =>
    have HK : Hid (chk L = 170) := chk_no hr
    have HR := Lib.hid hr
    clear hr
    go_enter Try.func3, Try.ntmps3
    go_wp2_with (first
      | (go_at_call 7; refine (awake_any _).mono ?_; rintro e w1 ⟨rfl, B1⟩)
      | (go_at_call 9; have _t := tok1; refine (own_any _ L _ (hLs.out.on B1) hl).mono ?_; clear tok1; rintro e w2 ⟨o2, c2, rfl, _, _, h2, hb⟩; have B2 := B1.trans (hb.mono B1.size); clear hb)
      | (go_at_call 8; refine (find_to a ab n o2 c2 L _ h2 hl HA.out).mono ?_; rintro e w3 ⟨rfl, hb⟩; have B3 := below_al (o := .cells #[.string a.nm, .int .i64 a.id, .int .i64 a.p, .int .i64 a.src] 25) (B2.trans (hb.mono B2.size)); have G1 : Blk (w3.alloc (.cells #[.string a.nm, .int .i64 a.id, .int .i64 a.p, .int .i64 a.src] 25)) w3.heap.size 25 (cell4 a) := Blk.new' _ _ rfl; clear hb)
      | (go_at_call 10; refine (rfind_to a ab n oa cap L _ (HSl.out.on B3) hl HA.out).mono ?_; rintro e w4 ⟨rfl, hb⟩; have B4 := below_al (o := .cells #[.string a.nm, .int .i64 a.id, .int .i64 a.p, .int .i64 a.src] 25) (B3.trans (hb.mono B3.size)); have G1' := Blk.on (Blk.on G1 hb) (below_al (o := .cells #[.string a.nm, .int .i64 a.id, .int .i64 a.p, .int .i64 a.src] 25) (Below.refl _ _)); have G2 : Blk (w4.alloc (.cells #[.string a.nm, .int .i64 a.id, .int .i64 a.p, .int .i64 a.src] 25)) w4.heap.size 25 (cell4 a) := Blk.new' _ _ rfl; clear hb)
      | (go_at_call 9; have _t := tok2; refine (own_any _ L _ (hLs.out.on B4) hl).mono ?_; clear tok2; rintro e w5 ⟨o5, c5, rfl, _, _, h5, hb⟩; have B5 := B4.trans (hb.mono B4.size); have X1 := Blk.on G1' hb; have X2 := Blk.on G2 hb; clear hb G1 G1' G2)
      | (go_at_call 11; refine (source_to c cb n o5 c5 L _ h5 hl HC.out).mono ?_; rintro e w6 ⟨rfl, hb⟩; have B6 := below_al (o := .cells #[.string c.nm, .int .i64 c.id, .int .i64 c.p, .int .i64 c.src] 25) (B5.trans (hb.mono B5.size)); have Y1 := Blk.on (Blk.on X1 hb) (below_al (o := .cells #[.string c.nm, .int .i64 c.id, .int .i64 c.p, .int .i64 c.src] 25) (Below.refl _ _)); have Y2 := Blk.on (Blk.on X2 hb) (below_al (o := .cells #[.string c.nm, .int .i64 c.id, .int .i64 c.p, .int .i64 c.src] 25) (Below.refl _ _)); have Y3 : Blk (w6.alloc (.cells #[.string c.nm, .int .i64 c.id, .int .i64 c.p, .int .i64 c.src] 25)) w6.heap.size 25 (cell4 c) := Blk.new' _ _ rfl; clear hb X1 X2)
      | (go_at_call 12; refine (rsource_to c cb n oa cap L _ (HSl.out.on B6) hl HC.out).mono ?_; rintro e w7 ⟨rfl, hb⟩; have B7 := below_al (o := .cells #[.string c.nm, .int .i64 c.id, .int .i64 c.p, .int .i64 c.src] 25) (B6.trans (hb.mono B6.size)); have Z1 := Blk.on (Blk.on Y1 hb) (below_al (o := .cells #[.string c.nm, .int .i64 c.id, .int .i64 c.p, .int .i64 c.src] 25) (Below.refl _ _)); have Z2 := Blk.on (Blk.on Y2 hb) (below_al (o := .cells #[.string c.nm, .int .i64 c.id, .int .i64 c.p, .int .i64 c.src] 25) (Below.refl _ _)); have Z3 := Blk.on (Blk.on Y3 hb) (below_al (o := .cells #[.string c.nm, .int .i64 c.id, .int .i64 c.p, .int .i64 c.src] 25) (Below.refl _ _)); have Z4 : Blk (w7.alloc (.cells #[.string c.nm, .int .i64 c.id, .int .i64 c.p, .int .i64 c.src] 25)) w7.heap.size 25 (cell4 c) := Blk.new' _ _ rfl; clear hb Y1 Y2 Y3)
      | (go_at_call 9; have _t := tok3; refine (own_any _ L _ (hLs.out.on B7) hl).mono ?_; clear tok3; rintro e w8 ⟨o8, c8, rfl, _, _, h8, hb⟩; have B8 := B7.trans (hb.mono B7.size); have T1 := Blk.on Z1 hb; have T2 := Blk.on Z2 hb; have T3 := Blk.on Z3 hb; have T4 := Blk.on Z4 hb; clear hb Z1 Z2 Z3 Z4)
      | (go_at_call 13; have _t := tok4; refine (check_to 170 o8 c8 L _ h8 hl HK.out).mono ?_; clear tok4; rintro e w9 ⟨rfl, hb⟩; have B9 := B8.trans (hb.mono B8.size); have U1 := Blk.on T1 hb; have U2 := Blk.on T2 hb; have U3 := Blk.on T3 hb; have U4 := Blk.on T4 hb; clear hb T1 T2 T3 T4)
      | (go_at_call 14; have _t := tok5; refine (rright_to false oa cap L _ (HSl.out.on B9) hl HR.out).mono ?_; clear tok5; rintro e w10 ⟨rfl, hb⟩; have B10 := B9.trans (hb.mono B9.size); have V1 := Blk.on U1 hb; have V2 := Blk.on U2 hb; have V3 := Blk.on U3 hb; have V4 := Blk.on U4 hb; clear hb U1 U2 U3 U4)
      | (go_at_call 9; refine (own_any _ L _ (hLs.out.on B10) hl).mono ?_; rintro e w11 ⟨o11, c11, rfl, _, _, h11, hb⟩; have B11 := B10.trans (hb.mono B10.size); have P1 := Blk.on V1 hb; have P2 := Blk.on V2 hb; have P3 := Blk.on V3 hb; have P4 := Blk.on V4 hb; clear hb V1 V2 V3 V4)
      | (go_at_call 13; refine (check_to 170 o11 c11 L _ h11 hl HK.out).mono ?_; rintro e w12 ⟨rfl, hb⟩; have B12 := B11.trans (hb.mono B11.size); have Q1 := Blk.on P1 hb; have Q2 := Blk.on P2 hb; have Q3 := Blk.on P3 hb; have Q4 := Blk.on P4 hb; clear hb P1 P2 P3 P4)
      | (go_at_call 14; refine (rright_to false oa cap L _ (HSl.out.on B12) hl HR.out).mono ?_; rintro e w13 ⟨rfl, hb⟩; have B13 := B12.trans (hb.mono B12.size); have S1 := Blk.on Q1 hb; have S2 := Blk.on Q2 hb; have S3 := Blk.on Q3 hb; have S4 := Blk.on Q4 hb; clear hb Q1 Q2 Q3 Q4; have R := S1.box4; have p0 := R.e0; have p1 := R.e1; have p2 := R.e2; have p3 := R.e3; clear R; have R := S2.box4; have q0 := R.e0; have q1 := R.e1; have q2 := R.e2; have q3 := R.e3; clear R; have R := S3.box4; have r0 := R.e0; have r1 := R.e1; have r2 := R.e2; have r3 := R.e3; clear R; have R := S4.box4; have s0 := R.e0; have s1 := R.e1; have s2 := R.e2; have s3 := R.e3; clear R))
    go_ret
    exact ⟨by simp, B13⟩
theorem lineChecks_row (v : Value) (L : List Sn) (n : Int) (w : World) (h : Ls w v L) (_ : -9223372036854775808 ≤ n ∧ n ≤ 9223372036854775807) :
    Calls Try.prog 3 #[v, .int .i64 n] w fun e w' => e = .returned (.bool true) ∧ Below w.heap.size w w' := by
  by_cases hl : L.length ≤ 60
  · exact checks_in v L n w h hl
  · obtain ⟨oa, cap, rfl, _⟩ := h
    exact checks_out oa L.length cap n w (by omega)
end Go.Proofs.Ytlbdeabohjokeaa
