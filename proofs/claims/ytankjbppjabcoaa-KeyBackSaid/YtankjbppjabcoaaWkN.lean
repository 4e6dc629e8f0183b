/- Printed by genparse14.py: the cases of the reference Parse's walk. -/
import Derived.Test.YtankjbppjabcoaaWkK
import Derived.Test.YtankjbppjabcoaaWkM
import Derived.Test.YtankjbppjabcoaaWkG
namespace Go.Proofs.Ytankjbppjabcoaa
open Go.RowKit Ky

theorem size1 (w : World) (o : Obj) : (w.alloc o).heap.size = w.heap.size + 1 := by simp
theorem rmake_to {kd : Int} (k : K) (kind : UInt8) (ino : Int) (nm : Bs) (ix : Int) (s : ByteArray) (t : Bs) (z : Int) (w : World) (hk : k = ⟨kind, ino, nm, ix⟩) (hkd : (kind.toNat : Int) = kd) (hs : S nm = s) (hnm : nm.length ≤ 140737488351232) (hm : made k = (t, z)) :
    Calls Try.prog 10 #[.agg #[.int .u8 kd, .int .i64 ino, .string s, .int .i64 ix]] w fun e w' => e = .returned (.tuple #[.string (S t), .int .i64 z]) ∧ Below w.heap.size w w' := by
  subst hk; subst hs; subst hkd
  have := rmake_any ⟨kind, ino, nm, ix⟩ w hnm
  rwa [hm] at this

set_option maxHeartbeats 1000000 in
set_option maxRecDepth 4000 in
theorem rparse_other (s : Bs) (kind : UInt8) (u : Bs) (t : Bs) (z : Int) (w : World) (hs : s.length ≤ 140737488351232) (hn : 9 ≤ s.length) (h1 : Hid ((s.drop 0).take 1 = [kind])) (hu : Hid ((s.drop 1).take 8 = u)) (hv : (val u : Int) ≤ 1099511627776) (k3 : decide (kind = 100 ∨ kind = 120) = false) (k2 : ((kind.toNat : Int) == 112) = false) (HM : Hid (made ⟨kind, (val u : Int), [], 0⟩ = (t, z))) :
    Calls Try.prog 14 #[.string (S s)] w fun e w' => e = rval (res ⟨kind, (val u : Int), [], 0⟩ s) ∧ Below w.heap.size w w' := by
  have hsz := S_size
  have htl := S_tl
  have h110 : (s == [110]) = false := by
    rw [beq_eq_false_iff_ne]; intro e; rw [e] at hn; exact absurd hn (by decide)
  have hnl : ¬ s.length < 9 := by omega
  have hx1 : (S s).extract 1 s.length = S s.tail := by rw [S_extract, List.take_of_length_le (by simp), List.drop_one]
  have hut : Hid (s.tail.take 8 = u) := by have h := hu.out; rw [List.drop_one] at h; exact h
  have hx9 : (S s).extract 9 s.length = S (s.drop 9) := by rw [S_extract, List.take_of_length_le (by simp)]
  have hg : (S s)[0]'(by rw [S_size]; omega) = kind := by
    have h := h1.out
    cases s with
    | nil => exact absurd hn (by decide)
    | cons x l => simp at h; exact h
  rcases split3 z t s with hz | ⟨hz, ht⟩ | ⟨hz, ht⟩
  all_goals
    go_enter Try.func14, Try.ntmps14
    go_wp2_with (first
      | (go_at_call 25; refine (rr_ok (w.heap.size + 1) s.tail u _ (Blk.new' #[.string (S s.tail), .int .i64 0] 53 (size1 w _)) (by rw [List.length_tail]; omega) (by rw [List.length_tail]; omega) hut.out).mono ?_; rintro e w1 ⟨rfl, hR0, hB1⟩
         have hR1 : Rr w1 (w.heap.size + 1) (s.drop 9) 0 := by rwa [← List.drop_one, List.drop_drop] at hR0
         have hS1 : w1.heap.size = w.heap.size + 2 := by rw [hB1.2.1]; simp
         have hH1 : Blk w1 w.heap.size 23 #[.int .u8 0, .int .i64 0, .string (S []), .int .i64 0] := hB1.on (Blk.on (Blk.new w _ _) (below_al (Below.refl _ _))) (by omega)
         have hL1 : Below w.heap.size w w1 := (below_al (below_al (Below.refl _ _))).trans (hB1.1.mono (by omega))
         obtain ⟨a0, a1, a2, a3, b0, b1, b2, b3⟩ := four hH1)
      | (go_at_call 19; refine (named_to kind _ k3).mono ?_; rintro e w9 ⟨rfl, rfl⟩)
      | (go_at_call 10; refine (rmake_to _ kind (val u : Int) [] 0 _ t z _ rfl rfl rfl (by first | exact hnm | simp) HM.out).mono ?_; rintro e w4 ⟨rfl, hb4⟩
         have hK4 := (Blk.new' #[.int .u8 (kind.toNat : Int), .int .i64 (val u : Int), .string (S []), .int .i64 0] 23 hS1).on hb4
         have hH4 := (hH1.on (below_al (Below.refl _ _))).on hb4
         have hL4 : Below w.heap.size w w4 := (hL1.trans (Below.mono (below_al (Below.refl _ _)) (by omega))).trans (hb4.mono (by first | (simp; done) | (simp; omega)))
         obtain ⟨z0, z1, z2, z3, q0, q1, q2, q3⟩ := four hK4
         obtain ⟨r0, r1, r2, r3, p0, p1, p2, p3⟩ := four hH4))
  · refine bodyPost_ret (v := .tuple #[kval zero, .int .i64 81]) (by rw [results_cell_tmp rfl]; unfold kval zero; go_simp; rfl) rfl ⟨by rw [res_no1 HM.out hz]; rfl, ?_⟩
    repeat (first | exact hL4 | apply below_st (hp := Nat.le_refl _) | exact Below.mono (below_al (Below.refl _ _)) (Nat.le_refl _) | apply below_al)
  · refine bodyPost_ret (v := .tuple #[kval zero, .int .i64 81]) (by rw [results_cell_tmp rfl]; unfold kval zero; go_simp; rfl) rfl ⟨by rw [res_no2 HM.out ht]; rfl, ?_⟩
    repeat (first | exact hL4 | apply below_st (hp := Nat.le_refl _) | exact Below.mono (below_al (Below.refl _ _)) (Nat.le_refl _) | apply below_al)
  · refine bodyPost_ret (v := .tuple #[kval ⟨kind, (val u : Int), [], 0⟩, .int .i64 0]) (by rw [results_cell_tmp rfl]; unfold kval; go_simp) rfl ⟨by rw [res_yes HM.out hz ht]; rfl, ?_⟩
    repeat (first | exact hL4 | apply below_st (hp := Nat.le_refl _) | exact Below.mono (below_al (Below.refl _ _)) (Nat.le_refl _) | apply below_al)

set_option maxHeartbeats 1000000 in
set_option maxRecDepth 4000 in
theorem rparse_named (s : Bs) (kind : UInt8) (u : Bs) (t : Bs) (z : Int) (w : World) (hs : s.length ≤ 140737488351232) (hn : 9 ≤ s.length) (h1 : Hid ((s.drop 0).take 1 = [kind])) (hu : Hid ((s.drop 1).take 8 = u)) (hv : (val u : Int) ≤ 1099511627776) (k3 : decide (kind = 100 ∨ kind = 120) = true) (k2 : ((kind.toNat : Int) == 112) = false) (HM : Hid (made ⟨kind, (val u : Int), s.drop 9, 0⟩ = (t, z))) :
    Calls Try.prog 14 #[.string (S s)] w fun e w' => e = rval (res ⟨kind, (val u : Int), s.drop 9, 0⟩ s) ∧ Below w.heap.size w w' := by
  have hsz := S_size
  have htl := S_tl
  have h110 : (s == [110]) = false := by
    rw [beq_eq_false_iff_ne]; intro e; rw [e] at hn; exact absurd hn (by decide)
  have hnl : ¬ s.length < 9 := by omega
  have hx1 : (S s).extract 1 s.length = S s.tail := by rw [S_extract, List.take_of_length_le (by simp), List.drop_one]
  have hut : Hid (s.tail.take 8 = u) := by have h := hu.out; rw [List.drop_one] at h; exact h
  have hx9 : (S s).extract 9 s.length = S (s.drop 9) := by rw [S_extract, List.take_of_length_le (by simp)]
  have hg : (S s)[0]'(by rw [S_size]; omega) = kind := by
    have h := h1.out
    cases s with
    | nil => exact absurd hn (by decide)
    | cons x l => simp at h; exact h
  have hnm : (s.drop 9).length ≤ 140737488351232 := by rw [List.length_drop]; omega
  rcases split3 z t s with hz | ⟨hz, ht⟩ | ⟨hz, ht⟩
  all_goals
    go_enter Try.func14, Try.ntmps14
    go_wp2_with (first
      | (go_at_call 25; refine (rr_ok (w.heap.size + 1) s.tail u _ (Blk.new' #[.string (S s.tail), .int .i64 0] 53 (size1 w _)) (by rw [List.length_tail]; omega) (by rw [List.length_tail]; omega) hut.out).mono ?_; rintro e w1 ⟨rfl, hR0, hB1⟩
         have hR1 : Rr w1 (w.heap.size + 1) (s.drop 9) 0 := by rwa [← List.drop_one, List.drop_drop] at hR0
         have hS1 : w1.heap.size = w.heap.size + 2 := by rw [hB1.2.1]; simp
         have hH1 : Blk w1 w.heap.size 23 #[.int .u8 0, .int .i64 0, .string (S []), .int .i64 0] := hB1.on (Blk.on (Blk.new w _ _) (below_al (Below.refl _ _))) (by omega)
         have hL1 : Below w.heap.size w w1 := (below_al (below_al (Below.refl _ _))).trans (hB1.1.mono (by omega))
         obtain ⟨a0, a1, a2, a3, b0, b1, b2, b3⟩ := four hH1)
      | (go_at_call 19; refine (named_to kind _ k3).mono ?_; rintro e w9 ⟨rfl, rfl⟩)
      | (go_at_call 10; refine (rmake_to _ kind (val u : Int) (s.drop 9) 0 _ t z _ rfl rfl rfl (by first | exact hnm | simp) HM.out).mono ?_; rintro e w4 ⟨rfl, hb4⟩
         have hK4 := (Blk.new' #[.int .u8 (kind.toNat : Int), .int .i64 (val u : Int), .string (S (s.drop 9)), .int .i64 0] 23 hS1).on hb4
         have hH4 := (hH1.on (below_al (Below.refl _ _))).on hb4
         have hL4 : Below w.heap.size w w4 := (hL1.trans (Below.mono (below_al (Below.refl _ _)) (by omega))).trans (hb4.mono (by first | (simp; done) | (simp; omega)))
         obtain ⟨z0, z1, z2, z3, q0, q1, q2, q3⟩ := four hK4
         obtain ⟨r0, r1, r2, r3, p0, p1, p2, p3⟩ := four hH4))
  · refine bodyPost_ret (v := .tuple #[kval zero, .int .i64 81]) (by rw [results_cell_tmp rfl]; unfold kval zero; go_simp; rfl) rfl ⟨by rw [res_no1 HM.out hz]; rfl, ?_⟩
    repeat (first | exact hL4 | apply below_st (hp := Nat.le_refl _) | exact Below.mono (below_al (Below.refl _ _)) (Nat.le_refl _) | apply below_al)
  · refine bodyPost_ret (v := .tuple #[kval zero, .int .i64 81]) (by rw [results_cell_tmp rfl]; unfold kval zero; go_simp; rfl) rfl ⟨by rw [res_no2 HM.out ht]; rfl, ?_⟩
    repeat (first | exact hL4 | apply below_st (hp := Nat.le_refl _) | exact Below.mono (below_al (Below.refl _ _)) (Nat.le_refl _) | apply below_al)
  · refine bodyPost_ret (v := .tuple #[kval ⟨kind, (val u : Int), s.drop 9, 0⟩, .int .i64 0]) (by rw [results_cell_tmp rfl]; unfold kval; go_simp) rfl ⟨by rw [res_yes HM.out hz ht]; rfl, ?_⟩
    repeat (first | exact hL4 | apply below_st (hp := Nat.le_refl _) | exact Below.mono (below_al (Below.refl _ _)) (Nat.le_refl _) | apply below_al)

set_option maxHeartbeats 1000000 in
set_option maxRecDepth 4000 in
theorem rparse_piece (s : Bs) (kind : UInt8) (u u2 : Bs) (t : Bs) (z : Int) (w : World) (hs : s.length ≤ 140737488351232) (hn : 9 ≤ s.length) (h1 : Hid ((s.drop 0).take 1 = [kind])) (hu : Hid ((s.drop 1).take 8 = u)) (hl : 17 ≤ s.length) (hu2 : Hid ((s.drop 9).take 8 = u2)) (hv : (val u : Int) ≤ 1099511627776) (hv2 : decide (72057594037927936 ≤ (val u2 : Int)) = false) (k3 : decide (kind = 100 ∨ kind = 120) = false) (k2 : ((kind.toNat : Int) == 112) = true) (HM : Hid (made ⟨kind, (val u : Int), [], wrap64 (val u2)⟩ = (t, z))) :
    Calls Try.prog 14 #[.string (S s)] w fun e w' => e = rval (res ⟨kind, (val u : Int), [], wrap64 (val u2)⟩ s) ∧ Below w.heap.size w w' := by
  have hsz := S_size
  have htl := S_tl
  have h110 : (s == [110]) = false := by
    rw [beq_eq_false_iff_ne]; intro e; rw [e] at hn; exact absurd hn (by decide)
  have hnl : ¬ s.length < 9 := by omega
  have hx1 : (S s).extract 1 s.length = S s.tail := by rw [S_extract, List.take_of_length_le (by simp), List.drop_one]
  have hut : Hid (s.tail.take 8 = u) := by have h := hu.out; rw [List.drop_one] at h; exact h
  have hx9 : (S s).extract 9 s.length = S (s.drop 9) := by rw [S_extract, List.take_of_length_le (by simp)]
  have hg : (S s)[0]'(by rw [S_size]; omega) = kind := by
    have h := h1.out
    cases s with
    | nil => exact absurd hn (by decide)
    | cons x l => simp at h; exact h
  rcases split3 z t s with hz | ⟨hz, ht⟩ | ⟨hz, ht⟩
  all_goals
    go_enter Try.func14, Try.ntmps14
    go_wp2_with (first
      | (go_at_call 25; refine (rr_ok (w.heap.size + 1) (s.drop 9) u2 _ (hR1.on (below_al (Below.refl _ _))) (by rw [List.length_drop]; omega) (by rw [List.length_drop]; omega) hu2.out).mono ?_; rintro e w2 ⟨rfl, hR2, hB2⟩
         have hK2 := hB2.on (Blk.new' #[.int .u8 (kind.toNat : Int), .int .i64 (val u : Int), .string (S []), .int .i64 0] 23 hS1) (by omega)
         have hH2 := hB2.on (hH1.on (below_al (Below.refl _ _))) (by omega)
         have hS2 : w2.heap.size = w.heap.size + 3 := by rw [hB2.2.1]; simp; omega
         have hL2 : Below w.heap.size w w2 := (hL1.trans (Below.mono (below_al (Below.refl _ _)) (by omega))).trans (hB2.1.mono (by omega))
         have g2 := hR2.cell 1
         obtain ⟨c0, c1, c2, c3, d0, d1, d2, d3⟩ := four hH2
         obtain ⟨x0, x1, x2, x3, y0, y1, y2, y3⟩ := four hK2)
      | (go_at_call 25; refine (rr_ok (w.heap.size + 1) s.tail u _ (Blk.new' #[.string (S s.tail), .int .i64 0] 53 (size1 w _)) (by rw [List.length_tail]; omega) (by rw [List.length_tail]; omega) hut.out).mono ?_; rintro e w1 ⟨rfl, hR0, hB1⟩
         have hR1 : Rr w1 (w.heap.size + 1) (s.drop 9) 0 := by rwa [← List.drop_one, List.drop_drop] at hR0
         have hS1 : w1.heap.size = w.heap.size + 2 := by rw [hB1.2.1]; simp
         have hH1 : Blk w1 w.heap.size 23 #[.int .u8 0, .int .i64 0, .string (S []), .int .i64 0] := hB1.on (Blk.on (Blk.new w _ _) (below_al (Below.refl _ _))) (by omega)
         have hL1 : Below w.heap.size w w1 := (below_al (below_al (Below.refl _ _))).trans (hB1.1.mono (by omega))
         obtain ⟨a0, a1, a2, a3, b0, b1, b2, b3⟩ := four hH1)
      | (go_at_call 19; refine (named_to kind _ k3).mono ?_; rintro e w9 ⟨rfl, rfl⟩)
      | (go_at_call 10; refine (rmake_to _ kind (val u : Int) [] (wrap64 (val u2)) _ t z _ rfl rfl rfl (by first | exact hnm | simp) HM.out).mono ?_; rintro e w4 ⟨rfl, hb4⟩
         have hK4 := (hK2.set3 _).on hb4
         have hH4 := (hH2.far (by omega) 3 _).on hb4
         have hL4 : Below w.heap.size w w4 := (below_st hL2 (by simp)).trans (hb4.mono (by first | (simp; done) | (simp; omega)))
         obtain ⟨z0, z1, z2, z3, q0, q1, q2, q3⟩ := four hK4
         obtain ⟨r0, r1, r2, r3, p0, p1, p2, p3⟩ := four hH4))
  · refine bodyPost_ret (v := .tuple #[kval zero, .int .i64 81]) (by rw [results_cell_tmp rfl]; unfold kval zero; go_simp; rfl) rfl ⟨by rw [res_no1 HM.out hz]; rfl, ?_⟩
    repeat (first | exact hL4 | apply below_st (hp := Nat.le_refl _) | exact Below.mono (below_al (Below.refl _ _)) (Nat.le_refl _) | apply below_al)
  · refine bodyPost_ret (v := .tuple #[kval zero, .int .i64 81]) (by rw [results_cell_tmp rfl]; unfold kval zero; go_simp; rfl) rfl ⟨by rw [res_no2 HM.out ht]; rfl, ?_⟩
    repeat (first | exact hL4 | apply below_st (hp := Nat.le_refl _) | exact Below.mono (below_al (Below.refl _ _)) (Nat.le_refl _) | apply below_al)
  · refine bodyPost_ret (v := .tuple #[kval ⟨kind, (val u : Int), [], wrap64 (val u2)⟩, .int .i64 0]) (by rw [results_cell_tmp rfl]; unfold kval; go_simp) rfl ⟨by rw [res_yes HM.out hz ht]; rfl, ?_⟩
    repeat (first | exact hL4 | apply below_st (hp := Nat.le_refl _) | exact Below.mono (below_al (Below.refl _ _)) (Nat.le_refl _) | apply below_al)

set_option maxHeartbeats 1000000 in
set_option maxRecDepth 4000 in
theorem rparse_far (s : Bs) (kind : UInt8) (u : Bs) (w : World) (hs : s.length ≤ 140737488351232) (hn : 9 ≤ s.length) (h1 : Hid ((s.drop 0).take 1 = [kind])) (hu : Hid ((s.drop 1).take 8 = u)) (hv : 1099511627776 < (val u : Int)) :
    Calls Try.prog 14 #[.string (S s)] w fun e w' => e = rval (zero, 81) ∧ Below w.heap.size w w' := by
  have hsz := S_size
  have htl := S_tl
  have h110 : (s == [110]) = false := by
    rw [beq_eq_false_iff_ne]; intro e; rw [e] at hn; exact absurd hn (by decide)
  have hnl : ¬ s.length < 9 := by omega
  have hx1 : (S s).extract 1 s.length = S s.tail := by rw [S_extract, List.take_of_length_le (by simp), List.drop_one]
  have hut : Hid (s.tail.take 8 = u) := by have h := hu.out; rw [List.drop_one] at h; exact h
  have hx9 : (S s).extract 9 s.length = S (s.drop 9) := by rw [S_extract, List.take_of_length_le (by simp)]
  have hg : (S s)[0]'(by rw [S_size]; omega) = kind := by
    have h := h1.out
    cases s with
    | nil => exact absurd hn (by decide)
    | cons x l => simp at h; exact h
  all_goals
    go_enter Try.func14, Try.ntmps14
    go_wp2_with (first
      | (go_at_call 25; refine (rr_ok (w.heap.size + 1) s.tail u _ (Blk.new' #[.string (S s.tail), .int .i64 0] 53 (size1 w _)) (by rw [List.length_tail]; omega) (by rw [List.length_tail]; omega) hut.out).mono ?_; rintro e w1 ⟨rfl, hR0, hB1⟩
         have hR1 : Rr w1 (w.heap.size + 1) (s.drop 9) 0 := by rwa [← List.drop_one, List.drop_drop] at hR0
         have hS1 : w1.heap.size = w.heap.size + 2 := by rw [hB1.2.1]; simp
         have hH1 : Blk w1 w.heap.size 23 #[.int .u8 0, .int .i64 0, .string (S []), .int .i64 0] := hB1.on (Blk.on (Blk.new w _ _) (below_al (Below.refl _ _))) (by omega)
         have hL1 : Below w.heap.size w w1 := (below_al (below_al (Below.refl _ _))).trans (hB1.1.mono (by omega))
         obtain ⟨a0, a1, a2, a3, b0, b1, b2, b3⟩ := four hH1))
  all_goals
    refine bodyPost_ret (v := .tuple #[kval zero, .int .i64 81]) (by rw [results_cell_tmp rfl]; unfold kval zero; go_simp; rfl) rfl ⟨rfl, ?_⟩
    repeat (first | exact hL1 | apply below_st (hp := Nat.le_refl _) | exact Below.mono (below_al (Below.refl _ _)) (Nat.le_refl _) | apply below_al)

set_option maxHeartbeats 1000000 in
set_option maxRecDepth 4000 in
theorem rparse_shortq (s : Bs) (kind : UInt8) (u : Bs) (w : World) (hs : s.length ≤ 140737488351232) (hn : 9 ≤ s.length) (h1 : Hid ((s.drop 0).take 1 = [kind])) (hu : Hid ((s.drop 1).take 8 = u)) (hl : s.length < 17) (hv : (val u : Int) ≤ 1099511627776) (k3 : decide (kind = 100 ∨ kind = 120) = false) (k2 : ((kind.toNat : Int) == 112) = true) :
    Calls Try.prog 14 #[.string (S s)] w fun e w' => e = rval (zero, 81) ∧ Below w.heap.size w w' := by
  have hsz := S_size
  have htl := S_tl
  have h110 : (s == [110]) = false := by
    rw [beq_eq_false_iff_ne]; intro e; rw [e] at hn; exact absurd hn (by decide)
  have hnl : ¬ s.length < 9 := by omega
  have hx1 : (S s).extract 1 s.length = S s.tail := by rw [S_extract, List.take_of_length_le (by simp), List.drop_one]
  have hut : Hid (s.tail.take 8 = u) := by have h := hu.out; rw [List.drop_one] at h; exact h
  have hx9 : (S s).extract 9 s.length = S (s.drop 9) := by rw [S_extract, List.take_of_length_le (by simp)]
  have hg : (S s)[0]'(by rw [S_size]; omega) = kind := by
    have h := h1.out
    cases s with
    | nil => exact absurd hn (by decide)
    | cons x l => simp at h; exact h
  all_goals
    go_enter Try.func14, Try.ntmps14
    go_wp2_with (first
      | (go_at_call 25; refine (rr_short (w.heap.size + 1) (s.drop 9) _ (hR1.on (below_al (Below.refl _ _))) (by rw [List.length_drop]; omega)).mono ?_; rintro e w2 ⟨rfl, hR2, hB2⟩
         have hK2 := hB2.on (Blk.new' #[.int .u8 (kind.toNat : Int), .int .i64 (val u : Int), .string (S []), .int .i64 0] 23 hS1) (by omega)
         have hH2 := hB2.on (hH1.on (below_al (Below.refl _ _))) (by omega)
         have hS2 : w2.heap.size = w.heap.size + 3 := by rw [hB2.2.1]; simp; omega
         have hL2 : Below w.heap.size w w2 := (hL1.trans (Below.mono (below_al (Below.refl _ _)) (by omega))).trans (hB2.1.mono (by omega))
         have g2 := hR2.cell 1
         obtain ⟨c0, c1, c2, c3, d0, d1, d2, d3⟩ := four hH2
         obtain ⟨x0, x1, x2, x3, y0, y1, y2, y3⟩ := four hK2)
      | (go_at_call 25; refine (rr_ok (w.heap.size + 1) s.tail u _ (Blk.new' #[.string (S s.tail), .int .i64 0] 53 (size1 w _)) (by rw [List.length_tail]; omega) (by rw [List.length_tail]; omega) hut.out).mono ?_; rintro e w1 ⟨rfl, hR0, hB1⟩
         have hR1 : Rr w1 (w.heap.size + 1) (s.drop 9) 0 := by rwa [← List.drop_one, List.drop_drop] at hR0
         have hS1 : w1.heap.size = w.heap.size + 2 := by rw [hB1.2.1]; simp
         have hH1 : Blk w1 w.heap.size 23 #[.int .u8 0, .int .i64 0, .string (S []), .int .i64 0] := hB1.on (Blk.on (Blk.new w _ _) (below_al (Below.refl _ _))) (by omega)
         have hL1 : Below w.heap.size w w1 := (below_al (below_al (Below.refl _ _))).trans (hB1.1.mono (by omega))
         obtain ⟨a0, a1, a2, a3, b0, b1, b2, b3⟩ := four hH1)
      | (go_at_call 19; refine (named_to kind _ k3).mono ?_; rintro e w9 ⟨rfl, rfl⟩))
  all_goals
    refine bodyPost_ret (v := .tuple #[kval zero, .int .i64 81]) (by rw [results_cell_tmp rfl]; unfold kval zero; go_simp; rfl) rfl ⟨rfl, ?_⟩
    repeat (first | exact hL2 | apply below_st (hp := Nat.le_refl _) | exact Below.mono (below_al (Below.refl _ _)) (Nat.le_refl _) | apply below_al)

set_option maxHeartbeats 1000000 in
set_option maxRecDepth 4000 in
theorem rparse_farq (s : Bs) (kind : UInt8) (u u2 : Bs) (w : World) (hs : s.length ≤ 140737488351232) (hn : 9 ≤ s.length) (h1 : Hid ((s.drop 0).take 1 = [kind])) (hu : Hid ((s.drop 1).take 8 = u)) (hl : 17 ≤ s.length) (hu2 : Hid ((s.drop 9).take 8 = u2)) (hv : (val u : Int) ≤ 1099511627776) (hv2 : 72057594037927936 ≤ (val u2 : Int)) (k3 : decide (kind = 100 ∨ kind = 120) = false) (k2 : ((kind.toNat : Int) == 112) = true) :
    Calls Try.prog 14 #[.string (S s)] w fun e w' => e = rval (zero, 81) ∧ Below w.heap.size w w' := by
  have hsz := S_size
  have htl := S_tl
  have h110 : (s == [110]) = false := by
    rw [beq_eq_false_iff_ne]; intro e; rw [e] at hn; exact absurd hn (by decide)
  have hnl : ¬ s.length < 9 := by omega
  have hx1 : (S s).extract 1 s.length = S s.tail := by rw [S_extract, List.take_of_length_le (by simp), List.drop_one]
  have hut : Hid (s.tail.take 8 = u) := by have h := hu.out; rw [List.drop_one] at h; exact h
  have hx9 : (S s).extract 9 s.length = S (s.drop 9) := by rw [S_extract, List.take_of_length_le (by simp)]
  have hg : (S s)[0]'(by rw [S_size]; omega) = kind := by
    have h := h1.out
    cases s with
    | nil => exact absurd hn (by decide)
    | cons x l => simp at h; exact h
  all_goals
    go_enter Try.func14, Try.ntmps14
    go_wp2_with (first
      | (go_at_call 25; refine (rr_ok (w.heap.size + 1) (s.drop 9) u2 _ (hR1.on (below_al (Below.refl _ _))) (by rw [List.length_drop]; omega) (by rw [List.length_drop]; omega) hu2.out).mono ?_; rintro e w2 ⟨rfl, hR2, hB2⟩
         have hK2 := hB2.on (Blk.new' #[.int .u8 (kind.toNat : Int), .int .i64 (val u : Int), .string (S []), .int .i64 0] 23 hS1) (by omega)
         have hH2 := hB2.on (hH1.on (below_al (Below.refl _ _))) (by omega)
         have hS2 : w2.heap.size = w.heap.size + 3 := by rw [hB2.2.1]; simp; omega
         have hL2 : Below w.heap.size w w2 := (hL1.trans (Below.mono (below_al (Below.refl _ _)) (by omega))).trans (hB2.1.mono (by omega))
         have g2 := hR2.cell 1
         obtain ⟨c0, c1, c2, c3, d0, d1, d2, d3⟩ := four hH2
         obtain ⟨x0, x1, x2, x3, y0, y1, y2, y3⟩ := four hK2)
      | (go_at_call 25; refine (rr_ok (w.heap.size + 1) s.tail u _ (Blk.new' #[.string (S s.tail), .int .i64 0] 53 (size1 w _)) (by rw [List.length_tail]; omega) (by rw [List.length_tail]; omega) hut.out).mono ?_; rintro e w1 ⟨rfl, hR0, hB1⟩
         have hR1 : Rr w1 (w.heap.size + 1) (s.drop 9) 0 := by rwa [← List.drop_one, List.drop_drop] at hR0
         have hS1 : w1.heap.size = w.heap.size + 2 := by rw [hB1.2.1]; simp
         have hH1 : Blk w1 w.heap.size 23 #[.int .u8 0, .int .i64 0, .string (S []), .int .i64 0] := hB1.on (Blk.on (Blk.new w _ _) (below_al (Below.refl _ _))) (by omega)
         have hL1 : Below w.heap.size w w1 := (below_al (below_al (Below.refl _ _))).trans (hB1.1.mono (by omega))
         obtain ⟨a0, a1, a2, a3, b0, b1, b2, b3⟩ := four hH1)
      | (go_at_call 19; refine (named_to kind _ k3).mono ?_; rintro e w9 ⟨rfl, rfl⟩))
  all_goals
    refine bodyPost_ret (v := .tuple #[kval zero, .int .i64 81]) (by rw [results_cell_tmp rfl]; unfold kval zero; go_simp; rfl) rfl ⟨rfl, ?_⟩
    repeat (first | exact hL2 | apply below_st (hp := Nat.le_refl _) | exact Below.mono (below_al (Below.refl _ _)) (Nat.le_refl _) | apply below_al)

set_option maxHeartbeats 1000000 in
set_option maxRecDepth 4000 in
theorem rparse_small (s : Bs) (w : World) (h110 : (s == [110]) = false) (hn : s.length < 9) :
    Calls Try.prog 14 #[.string (S s)] w fun e w' => e = rval (zero, 81) ∧ Below w.heap.size w w' := by
  have hsz := S_size
  have htl := S_tl
  all_goals
    go_enter Try.func14, Try.ntmps14
    go_wp2
  all_goals
    refine bodyPost_ret (v := .tuple #[kval zero, .int .i64 81]) (by rw [results_cell_tmp rfl]; unfold kval zero; go_simp; rfl) rfl ⟨rfl, ?_⟩
    repeat (first | exact (Below.refl _ _) | apply below_st (hp := Nat.le_refl _) | exact Below.mono (below_al (Below.refl _ _)) (Nat.le_refl _) | apply below_al)


set_option maxHeartbeats 1000000 in
theorem rparse_next (w : World) : Calls Try.prog 14 #[.string (S [110])] w fun e w' => e = rval (⟨110, 0, [], 0⟩, 0) ∧ Below w.heap.size w w' := by
  have htl := S_tl
  have hsz := S_size
  go_enter Try.func14, Try.ntmps14
  go_wp2
  refine bodyPost_ret (v := .tuple #[kval ⟨110, 0, [], 0⟩, .int .i64 0]) (by rw [results_cell_tmp rfl]; unfold kval; go_simp; rfl) rfl ⟨rfl, ?_⟩
  repeat (first | exact Below.refl _ _ | apply below_st (hp := Nat.le_refl _) | apply below_al)
end Go.Proofs.Ytankjbppjabcoaa
