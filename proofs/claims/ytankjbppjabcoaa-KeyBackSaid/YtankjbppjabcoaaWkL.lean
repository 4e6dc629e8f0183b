/- Printed by genparse.py: the cases of key.Parse's walk. -/
import Derived.Test.YtankjbppjabcoaaWkK
namespace Go.Proofs.Ytankjbppjabcoaa
open Go.RowKit Ky

set_option maxHeartbeats 1000000 in
theorem parse_other (s : Bs) (kind : UInt8) (u : Bs) (t : Bs) (z : Int) (w : World) (hs : s.length ≤ 140737488351232) (hn : 9 ≤ s.length) (h1 : Hid ((s.drop 0).take 1 = [kind])) (hu : Hid ((s.drop 1).take 8 = u)) (k1 : ((kind.toNat : Int) != 110) = true) (k2 : ((kind.toNat : Int) == 112) = false) (k3 : ((kind.toNat : Int) == 100) = false) (k4 : ((kind.toNat : Int) == 120) = false) (HM : Hid (made ⟨kind, wrap64 (val u), [], 0⟩ = (t, z))) :
    Calls Try.prog 13 #[.string (S s)] w fun e w' => e = rval (res ⟨kind, wrap64 (val u), [], 0⟩ s) ∧ Below w.heap.size w w' := by
  have hsz := S_size
  have htl := S_tl
  rcases split3 z t s with hz | ⟨hz, ht⟩ | ⟨hz, ht⟩
  all_goals
    go_enter Try.func13, Try.ntmps13
    go_wp2_with (first
      | (go_at_call 20; refine (read_at s _ (w.heap.size + 1) (by simp)).mono ?_; rintro e w1 ⟨rfl, hR1, hS1, hb1⟩; have hH1 : Blk w1 w.heap.size 23 #[.int .u8 0, .int .i64 0, .string (S []), .int .i64 0] := Blk.on (Blk.new w _ _) hb1; have hL1 : Below w.heap.size w w1 := below_tr (below_al (Below.refl _ _)) hb1)
      | (go_at_call 21; refine (byte_ok _ 0 s kind _ hR1 hs (by omega) h1.out).mono ?_; rintro e w2 ⟨rfl, hR2, hB2⟩; have hS2 : w2.heap.size = w.heap.size + 2 := hB2.2.1.trans hS1; have hH2 := hB2.on hH1 (by omega); have hL2 : Below w.heap.size w w2 := hL1.trans (hB2.1.mono (by omega)))
      | (go_at_call 22; refine (fixed_ok _ 1 s u _ (hR2.on (below_al (Below.refl _ _))) hs (by omega) hu.out).mono ?_; rintro e w3 ⟨rfl, hR3, hB3⟩; have hS3 : w3.heap.size = w.heap.size + 3 := by rw [hB3.2.1]; simp; omega
         have hK3 := hB3.on (Blk.new' #[.int .u8 (kind.toNat : Int), .int .i64 0, .string (S []), .int .i64 0] 23 hS2) (by omega); have hH3 := hB3.on (hH2.on (below_al (Below.refl _ _))) (by omega); have hL3 : Below w.heap.size w w3 := (hL2.trans (Below.mono (below_al (Below.refl _ _)) (by omega))).trans (hB3.1.mono (by omega))
         obtain ⟨x0, x1, x2, x3, y0, y1, y2, y3⟩ := four hK3)
      | (go_at_call 9; refine (make_to _ kind (wrap64 (val u)) [] 0 _ t z _ rfl rfl rfl (by first | exact hnm | simp) HM.out).mono ?_; rintro e w4 ⟨rfl, hb4⟩
         have hR4 := (hR3.far (by omega) 1 _).on hb4
         have hK4 := (hK3.set1 _).on hb4
         have hH4 := (hH3.far (by omega) 1 _).on hb4
         have hL4 : Below w.heap.size w w4 := (below_st hL3 (by simp)).trans (hb4.mono (by first | (simp; done) | (simp; omega)))
         obtain ⟨z0, z1, z2, z3, q0, q1, q2, q3⟩ := four hK4
         obtain ⟨r0, r1, r2, r3, p0, p1, p2, p3⟩ := four hH4)
      | (go_at_call 24; refine (err_any _ s _ 0 _ hR4).mono ?_; rintro e w5 ⟨rfl, rfl⟩))
  · refine bodyPost_ret (v := .tuple #[kval zero, .int .i64 81]) (by rw [results_cell_tmp rfl]; unfold kval zero; go_simp; rfl) rfl ⟨by rw [res_no1 HM.out hz]; rfl, ?_⟩
    repeat (first | exact hL4 | apply below_st (hp := Nat.le_refl _))
  · refine bodyPost_ret (v := .tuple #[kval zero, .int .i64 81]) (by rw [results_cell_tmp rfl]; unfold kval zero; go_simp; rfl) rfl ⟨by rw [res_no2 HM.out ht]; rfl, ?_⟩
    repeat (first | exact hL4 | apply below_st (hp := Nat.le_refl _))
  · refine bodyPost_ret (v := .tuple #[kval ⟨kind, wrap64 (val u), [], 0⟩, .int .i64 0]) (by rw [results_cell_tmp rfl]; unfold kval; go_simp) rfl ⟨by rw [res_yes HM.out hz ht]; rfl, ?_⟩
    repeat (first | exact hL4 | apply below_st (hp := Nat.le_refl _))

set_option maxHeartbeats 1000000 in
theorem parse_named100 (s : Bs) (kind : UInt8) (u : Bs) (t : Bs) (z : Int) (w : World) (hs : s.length ≤ 140737488351232) (hn : 9 ≤ s.length) (h1 : Hid ((s.drop 0).take 1 = [kind])) (hu : Hid ((s.drop 1).take 8 = u)) (k1 : ((kind.toNat : Int) != 110) = true) (k2 : ((kind.toNat : Int) == 112) = false) (k3 : ((kind.toNat : Int) == 100) = true) (HM : Hid (made ⟨kind, wrap64 (val u), s.drop 9, 0⟩ = (t, z))) :
    Calls Try.prog 13 #[.string (S s)] w fun e w' => e = rval (res ⟨kind, wrap64 (val u), s.drop 9, 0⟩ s) ∧ Below w.heap.size w w' := by
  have hsz := S_size
  have htl := S_tl
  have hnm : (s.drop 9).length ≤ 140737488351232 := by rw [List.length_drop]; omega
  have hx : (S s).extract (s.length - (s.length - 9)) s.length = S (s.drop 9) := by rw [show s.length - (s.length - 9) = 9 by omega, S_extract, List.take_of_length_le (by simp)]
  rcases split3 z t s with hz | ⟨hz, ht⟩ | ⟨hz, ht⟩
  all_goals
    go_enter Try.func13, Try.ntmps13
    go_wp2_with (first
      | (go_at_call 20; refine (read_at s _ (w.heap.size + 1) (by simp)).mono ?_; rintro e w1 ⟨rfl, hR1, hS1, hb1⟩; have hH1 : Blk w1 w.heap.size 23 #[.int .u8 0, .int .i64 0, .string (S []), .int .i64 0] := Blk.on (Blk.new w _ _) hb1; have hL1 : Below w.heap.size w w1 := below_tr (below_al (Below.refl _ _)) hb1)
      | (go_at_call 21; refine (byte_ok _ 0 s kind _ hR1 hs (by omega) h1.out).mono ?_; rintro e w2 ⟨rfl, hR2, hB2⟩; have hS2 : w2.heap.size = w.heap.size + 2 := hB2.2.1.trans hS1; have hH2 := hB2.on hH1 (by omega); have hL2 : Below w.heap.size w w2 := hL1.trans (hB2.1.mono (by omega)))
      | (go_at_call 22; refine (fixed_ok _ 1 s u _ (hR2.on (below_al (Below.refl _ _))) hs (by omega) hu.out).mono ?_; rintro e w3 ⟨rfl, hR3, hB3⟩; have hS3 : w3.heap.size = w.heap.size + 3 := by rw [hB3.2.1]; simp; omega
         have hK3 := hB3.on (Blk.new' #[.int .u8 (kind.toNat : Int), .int .i64 0, .string (S []), .int .i64 0] 23 hS2) (by omega); have hH3 := hB3.on (hH2.on (below_al (Below.refl _ _))) (by omega); have hL3 : Below w.heap.size w w3 := (hL2.trans (Below.mono (below_al (Below.refl _ _)) (by omega))).trans (hB3.1.mono (by omega))
         obtain ⟨x0, x1, x2, x3, y0, y1, y2, y3⟩ := four hK3)
      | (go_at_call 23; refine (left_to _ s _ 0 ((s.length : Int) - 9) _ (hR3.far (by omega) 1 _) hs (by omega) (by omega) (by simp)).mono ?_; rintro e w6 ⟨rfl, hR6, hB6⟩
         have hS6 : w6.heap.size = w.heap.size + 3 := by rw [hB6.2.1]; simp; omega
         have hK6 := hB6.on (hK3.set1 _) (by omega)
         have hH6 := hB6.on (hH3.far (by omega) 1 _) (by omega)
         have hL6 : Below w.heap.size w w6 := (below_st hL3 (by simp)).trans (hB6.1.mono (by omega))
         obtain ⟨m0, m1, m2, m3, n0, n1, n2, n3⟩ := four hK6)
      | (go_at_call 9; refine (make_to _ kind (wrap64 (val u)) (s.drop 9) 0 _ t z _ rfl rfl rfl (by first | exact hnm | simp) HM.out).mono ?_; rintro e w4 ⟨rfl, hb4⟩
         have hR4 := (hR6.far (by omega) 2 _).on hb4
         have hK4 := (hK6.set2 _).on hb4
         have hH4 := (hH6.far (by omega) 2 _).on hb4
         have hL4 : Below w.heap.size w w4 := (below_st hL6 (by simp)).trans (hb4.mono (by first | (simp; done) | (simp; omega)))
         obtain ⟨z0, z1, z2, z3, q0, q1, q2, q3⟩ := four hK4
         obtain ⟨r0, r1, r2, r3, p0, p1, p2, p3⟩ := four hH4)
      | (go_at_call 24; refine (err_any _ s _ 0 _ hR4).mono ?_; rintro e w5 ⟨rfl, rfl⟩))
  · refine bodyPost_ret (v := .tuple #[kval zero, .int .i64 81]) (by rw [results_cell_tmp rfl]; unfold kval zero; go_simp; rfl) rfl ⟨by rw [res_no1 HM.out hz]; rfl, ?_⟩
    repeat (first | exact hL4 | apply below_st (hp := Nat.le_refl _))
  · refine bodyPost_ret (v := .tuple #[kval zero, .int .i64 81]) (by rw [results_cell_tmp rfl]; unfold kval zero; go_simp; rfl) rfl ⟨by rw [res_no2 HM.out ht]; rfl, ?_⟩
    repeat (first | exact hL4 | apply below_st (hp := Nat.le_refl _))
  · refine bodyPost_ret (v := .tuple #[kval ⟨kind, wrap64 (val u), s.drop 9, 0⟩, .int .i64 0]) (by rw [results_cell_tmp rfl]; unfold kval; go_simp) rfl ⟨by rw [res_yes HM.out hz ht]; rfl, ?_⟩
    repeat (first | exact hL4 | apply below_st (hp := Nat.le_refl _))

set_option maxHeartbeats 1000000 in
theorem parse_named120 (s : Bs) (kind : UInt8) (u : Bs) (t : Bs) (z : Int) (w : World) (hs : s.length ≤ 140737488351232) (hn : 9 ≤ s.length) (h1 : Hid ((s.drop 0).take 1 = [kind])) (hu : Hid ((s.drop 1).take 8 = u)) (k1 : ((kind.toNat : Int) != 110) = true) (k2 : ((kind.toNat : Int) == 112) = false) (k3 : ((kind.toNat : Int) == 100) = false) (k4 : ((kind.toNat : Int) == 120) = true) (HM : Hid (made ⟨kind, wrap64 (val u), s.drop 9, 0⟩ = (t, z))) :
    Calls Try.prog 13 #[.string (S s)] w fun e w' => e = rval (res ⟨kind, wrap64 (val u), s.drop 9, 0⟩ s) ∧ Below w.heap.size w w' := by
  have hsz := S_size
  have htl := S_tl
  have hnm : (s.drop 9).length ≤ 140737488351232 := by rw [List.length_drop]; omega
  have hx : (S s).extract (s.length - (s.length - 9)) s.length = S (s.drop 9) := by rw [show s.length - (s.length - 9) = 9 by omega, S_extract, List.take_of_length_le (by simp)]
  rcases split3 z t s with hz | ⟨hz, ht⟩ | ⟨hz, ht⟩
  all_goals
    go_enter Try.func13, Try.ntmps13
    go_wp2_with (first
      | (go_at_call 20; refine (read_at s _ (w.heap.size + 1) (by simp)).mono ?_; rintro e w1 ⟨rfl, hR1, hS1, hb1⟩; have hH1 : Blk w1 w.heap.size 23 #[.int .u8 0, .int .i64 0, .string (S []), .int .i64 0] := Blk.on (Blk.new w _ _) hb1; have hL1 : Below w.heap.size w w1 := below_tr (below_al (Below.refl _ _)) hb1)
      | (go_at_call 21; refine (byte_ok _ 0 s kind _ hR1 hs (by omega) h1.out).mono ?_; rintro e w2 ⟨rfl, hR2, hB2⟩; have hS2 : w2.heap.size = w.heap.size + 2 := hB2.2.1.trans hS1; have hH2 := hB2.on hH1 (by omega); have hL2 : Below w.heap.size w w2 := hL1.trans (hB2.1.mono (by omega)))
      | (go_at_call 22; refine (fixed_ok _ 1 s u _ (hR2.on (below_al (Below.refl _ _))) hs (by omega) hu.out).mono ?_; rintro e w3 ⟨rfl, hR3, hB3⟩; have hS3 : w3.heap.size = w.heap.size + 3 := by rw [hB3.2.1]; simp; omega
         have hK3 := hB3.on (Blk.new' #[.int .u8 (kind.toNat : Int), .int .i64 0, .string (S []), .int .i64 0] 23 hS2) (by omega); have hH3 := hB3.on (hH2.on (below_al (Below.refl _ _))) (by omega); have hL3 : Below w.heap.size w w3 := (hL2.trans (Below.mono (below_al (Below.refl _ _)) (by omega))).trans (hB3.1.mono (by omega))
         obtain ⟨x0, x1, x2, x3, y0, y1, y2, y3⟩ := four hK3)
      | (go_at_call 23; refine (left_to _ s _ 0 ((s.length : Int) - 9) _ (hR3.far (by omega) 1 _) hs (by omega) (by omega) (by simp)).mono ?_; rintro e w6 ⟨rfl, hR6, hB6⟩
         have hS6 : w6.heap.size = w.heap.size + 3 := by rw [hB6.2.1]; simp; omega
         have hK6 := hB6.on (hK3.set1 _) (by omega)
         have hH6 := hB6.on (hH3.far (by omega) 1 _) (by omega)
         have hL6 : Below w.heap.size w w6 := (below_st hL3 (by simp)).trans (hB6.1.mono (by omega))
         obtain ⟨m0, m1, m2, m3, n0, n1, n2, n3⟩ := four hK6)
      | (go_at_call 9; refine (make_to _ kind (wrap64 (val u)) (s.drop 9) 0 _ t z _ rfl rfl rfl (by first | exact hnm | simp) HM.out).mono ?_; rintro e w4 ⟨rfl, hb4⟩
         have hR4 := (hR6.far (by omega) 2 _).on hb4
         have hK4 := (hK6.set2 _).on hb4
         have hH4 := (hH6.far (by omega) 2 _).on hb4
         have hL4 : Below w.heap.size w w4 := (below_st hL6 (by simp)).trans (hb4.mono (by first | (simp; done) | (simp; omega)))
         obtain ⟨z0, z1, z2, z3, q0, q1, q2, q3⟩ := four hK4
         obtain ⟨r0, r1, r2, r3, p0, p1, p2, p3⟩ := four hH4)
      | (go_at_call 24; refine (err_any _ s _ 0 _ hR4).mono ?_; rintro e w5 ⟨rfl, rfl⟩))
  · refine bodyPost_ret (v := .tuple #[kval zero, .int .i64 81]) (by rw [results_cell_tmp rfl]; unfold kval zero; go_simp; rfl) rfl ⟨by rw [res_no1 HM.out hz]; rfl, ?_⟩
    repeat (first | exact hL4 | apply below_st (hp := Nat.le_refl _))
  · refine bodyPost_ret (v := .tuple #[kval zero, .int .i64 81]) (by rw [results_cell_tmp rfl]; unfold kval zero; go_simp; rfl) rfl ⟨by rw [res_no2 HM.out ht]; rfl, ?_⟩
    repeat (first | exact hL4 | apply below_st (hp := Nat.le_refl _))
  · refine bodyPost_ret (v := .tuple #[kval ⟨kind, wrap64 (val u), s.drop 9, 0⟩, .int .i64 0]) (by rw [results_cell_tmp rfl]; unfold kval; go_simp) rfl ⟨by rw [res_yes HM.out hz ht]; rfl, ?_⟩
    repeat (first | exact hL4 | apply below_st (hp := Nat.le_refl _))

set_option maxHeartbeats 1000000 in
theorem parse_piece (s : Bs) (kind : UInt8) (u u2 : Bs) (t : Bs) (z : Int) (w : World) (hs : s.length ≤ 140737488351232) (hn : 17 ≤ s.length) (h1 : Hid ((s.drop 0).take 1 = [kind])) (hu : Hid ((s.drop 1).take 8 = u)) (hu2 : Hid ((s.drop 9).take 8 = u2)) (k1 : ((kind.toNat : Int) != 110) = true) (k2 : ((kind.toNat : Int) == 112) = true) (HM : Hid (made ⟨kind, wrap64 (val u), [], wrap64 (val u2)⟩ = (t, z))) :
    Calls Try.prog 13 #[.string (S s)] w fun e w' => e = rval (res ⟨kind, wrap64 (val u), [], wrap64 (val u2)⟩ s) ∧ Below w.heap.size w w' := by
  have hsz := S_size
  have htl := S_tl
  rcases split3 z t s with hz | ⟨hz, ht⟩ | ⟨hz, ht⟩
  all_goals
    go_enter Try.func13, Try.ntmps13
    go_wp2_with (first
      | (go_at_call 20; refine (read_at s _ (w.heap.size + 1) (by simp)).mono ?_; rintro e w1 ⟨rfl, hR1, hS1, hb1⟩; have hH1 : Blk w1 w.heap.size 23 #[.int .u8 0, .int .i64 0, .string (S []), .int .i64 0] := Blk.on (Blk.new w _ _) hb1; have hL1 : Below w.heap.size w w1 := below_tr (below_al (Below.refl _ _)) hb1)
      | (go_at_call 21; refine (byte_ok _ 0 s kind _ hR1 hs (by omega) h1.out).mono ?_; rintro e w2 ⟨rfl, hR2, hB2⟩; have hS2 : w2.heap.size = w.heap.size + 2 := hB2.2.1.trans hS1; have hH2 := hB2.on hH1 (by omega); have hL2 : Below w.heap.size w w2 := hL1.trans (hB2.1.mono (by omega)))
      | (go_at_call 22; refine (fixed_ok _ 9 s u2 _ (hR3.far (by omega) 1 _) hs (by omega) hu2.out).mono ?_; rintro e w6 ⟨rfl, hR6, hB6⟩
         have hS6 : w6.heap.size = w.heap.size + 3 := by rw [hB6.2.1]; simp; omega
         have hK6 := hB6.on (hK3.set1 _) (by omega)
         have hH6 := hB6.on (hH3.far (by omega) 1 _) (by omega)
         have hL6 : Below w.heap.size w w6 := (below_st hL3 (by simp)).trans (hB6.1.mono (by omega))
         obtain ⟨m0, m1, m2, m3, n0, n1, n2, n3⟩ := four hK6)
      | (go_at_call 22; refine (fixed_ok _ 1 s u _ (hR2.on (below_al (Below.refl _ _))) hs (by omega) hu.out).mono ?_; rintro e w3 ⟨rfl, hR3, hB3⟩; have hS3 : w3.heap.size = w.heap.size + 3 := by rw [hB3.2.1]; simp; omega
         have hK3 := hB3.on (Blk.new' #[.int .u8 (kind.toNat : Int), .int .i64 0, .string (S []), .int .i64 0] 23 hS2) (by omega); have hH3 := hB3.on (hH2.on (below_al (Below.refl _ _))) (by omega); have hL3 : Below w.heap.size w w3 := (hL2.trans (Below.mono (below_al (Below.refl _ _)) (by omega))).trans (hB3.1.mono (by omega))
         obtain ⟨x0, x1, x2, x3, y0, y1, y2, y3⟩ := four hK3)
      | (go_at_call 9; refine (make_to _ kind (wrap64 (val u)) [] (wrap64 (val u2)) _ t z _ rfl rfl rfl (by first | exact hnm | simp) HM.out).mono ?_; rintro e w4 ⟨rfl, hb4⟩
         have hR4 := (hR6.far (by omega) 3 _).on hb4
         have hK4 := (hK6.set3 _).on hb4
         have hH4 := (hH6.far (by omega) 3 _).on hb4
         have hL4 : Below w.heap.size w w4 := (below_st hL6 (by simp)).trans (hb4.mono (by first | (simp; done) | (simp; omega)))
         obtain ⟨z0, z1, z2, z3, q0, q1, q2, q3⟩ := four hK4
         obtain ⟨r0, r1, r2, r3, p0, p1, p2, p3⟩ := four hH4)
      | (go_at_call 24; refine (err_any _ s _ 0 _ hR4).mono ?_; rintro e w5 ⟨rfl, rfl⟩))
  · refine bodyPost_ret (v := .tuple #[kval zero, .int .i64 81]) (by rw [results_cell_tmp rfl]; unfold kval zero; go_simp; rfl) rfl ⟨by rw [res_no1 HM.out hz]; rfl, ?_⟩
    repeat (first | exact hL4 | apply below_st (hp := Nat.le_refl _))
  · refine bodyPost_ret (v := .tuple #[kval zero, .int .i64 81]) (by rw [results_cell_tmp rfl]; unfold kval zero; go_simp; rfl) rfl ⟨by rw [res_no2 HM.out ht]; rfl, ?_⟩
    repeat (first | exact hL4 | apply below_st (hp := Nat.le_refl _))
  · refine bodyPost_ret (v := .tuple #[kval ⟨kind, wrap64 (val u), [], wrap64 (val u2)⟩, .int .i64 0]) (by rw [results_cell_tmp rfl]; unfold kval; go_simp) rfl ⟨by rw [res_yes HM.out hz ht]; rfl, ?_⟩
    repeat (first | exact hL4 | apply below_st (hp := Nat.le_refl _))

set_option maxHeartbeats 1000000 in
theorem parse_next (s : Bs) (kind : UInt8) (t : Bs) (z : Int) (w : World) (hs : s.length ≤ 140737488351232) (hn : 1 ≤ s.length) (h1 : Hid ((s.drop 0).take 1 = [kind])) (k1 : ((kind.toNat : Int) != 110) = false) (k2 : ((kind.toNat : Int) == 112) = false) (k3 : ((kind.toNat : Int) == 100) = false) (k4 : ((kind.toNat : Int) == 120) = false) (HM : Hid (made ⟨kind, 0, [], 0⟩ = (t, z))) :
    Calls Try.prog 13 #[.string (S s)] w fun e w' => e = rval (res ⟨kind, 0, [], 0⟩ s) ∧ Below w.heap.size w w' := by
  have hsz := S_size
  have htl := S_tl
  rcases split3 z t s with hz | ⟨hz, ht⟩ | ⟨hz, ht⟩
  all_goals
    go_enter Try.func13, Try.ntmps13
    go_wp2_with (first
      | (go_at_call 20; refine (read_at s _ (w.heap.size + 1) (by simp)).mono ?_; rintro e w1 ⟨rfl, hR1, hS1, hb1⟩; have hH1 : Blk w1 w.heap.size 23 #[.int .u8 0, .int .i64 0, .string (S []), .int .i64 0] := Blk.on (Blk.new w _ _) hb1; have hL1 : Below w.heap.size w w1 := below_tr (below_al (Below.refl _ _)) hb1)
      | (go_at_call 21; refine (byte_ok _ 0 s kind _ hR1 hs (by omega) h1.out).mono ?_; rintro e w2 ⟨rfl, hR2, hB2⟩; have hS2 : w2.heap.size = w.heap.size + 2 := hB2.2.1.trans hS1; have hH2 := hB2.on hH1 (by omega); have hL2 : Below w.heap.size w w2 := hL1.trans (hB2.1.mono (by omega)))
      | (go_at_call 9; refine (make_to _ kind 0 [] 0 _ t z _ rfl rfl rfl (by first | exact hnm | simp) HM.out).mono ?_; rintro e w4 ⟨rfl, hb4⟩
         have hR4 := (hR2.on (below_al (Below.refl _ _))).on hb4
         have hK4 := (Blk.new' #[.int .u8 (kind.toNat : Int), .int .i64 0, .string (S []), .int .i64 0] 23 hS2).on hb4
         have hH4 := (hH2.on (below_al (Below.refl _ _))).on hb4
         have hL4 : Below w.heap.size w w4 := (hL2.trans (Below.mono (below_al (Below.refl _ _)) (by omega))).trans (hb4.mono (by first | (simp; done) | (simp; omega)))
         obtain ⟨z0, z1, z2, z3, q0, q1, q2, q3⟩ := four hK4
         obtain ⟨r0, r1, r2, r3, p0, p1, p2, p3⟩ := four hH4)
      | (go_at_call 24; refine (err_any _ s _ 0 _ hR4).mono ?_; rintro e w5 ⟨rfl, rfl⟩))
  · refine bodyPost_ret (v := .tuple #[kval zero, .int .i64 81]) (by rw [results_cell_tmp rfl]; unfold kval zero; go_simp; rfl) rfl ⟨by rw [res_no1 HM.out hz]; rfl, ?_⟩
    repeat (first | exact hL4 | apply below_st (hp := Nat.le_refl _))
  · refine bodyPost_ret (v := .tuple #[kval zero, .int .i64 81]) (by rw [results_cell_tmp rfl]; unfold kval zero; go_simp; rfl) rfl ⟨by rw [res_no2 HM.out ht]; rfl, ?_⟩
    repeat (first | exact hL4 | apply below_st (hp := Nat.le_refl _))
  · refine bodyPost_ret (v := .tuple #[kval ⟨kind, 0, [], 0⟩, .int .i64 0]) (by rw [results_cell_tmp rfl]; unfold kval; go_simp) rfl ⟨by rw [res_yes HM.out hz ht]; rfl, ?_⟩
    repeat (first | exact hL4 | apply below_st (hp := Nat.le_refl _))

set_option maxHeartbeats 1000000 in
theorem parse_short (s : Bs) (kind : UInt8) (t : Bs) (z : Int) (w : World) (hs : s.length ≤ 140737488351232) (hn : 1 ≤ s.length) (hl : s.length < 9) (h1 : Hid ((s.drop 0).take 1 = [kind])) (k1 : ((kind.toNat : Int) != 110) = true) (k2 : ((kind.toNat : Int) == 112) = false) (k3 : ((kind.toNat : Int) == 100) = false) (k4 : ((kind.toNat : Int) == 120) = false) (HM : Hid (made ⟨kind, 0, [], 0⟩ = (t, z))) :
    Calls Try.prog 13 #[.string (S s)] w fun e w' => e = rval (zero, 81) ∧ Below w.heap.size w w' := by
  have hsz := S_size
  have htl := S_tl
  all_goals
    go_enter Try.func13, Try.ntmps13
    go_wp2_with (first
      | (go_at_call 20; refine (read_at s _ (w.heap.size + 1) (by simp)).mono ?_; rintro e w1 ⟨rfl, hR1, hS1, hb1⟩; have hH1 : Blk w1 w.heap.size 23 #[.int .u8 0, .int .i64 0, .string (S []), .int .i64 0] := Blk.on (Blk.new w _ _) hb1; have hL1 : Below w.heap.size w w1 := below_tr (below_al (Below.refl _ _)) hb1)
      | (go_at_call 21; refine (byte_ok _ 0 s kind _ hR1 hs (by omega) h1.out).mono ?_; rintro e w2 ⟨rfl, hR2, hB2⟩; have hS2 : w2.heap.size = w.heap.size + 2 := hB2.2.1.trans hS1; have hH2 := hB2.on hH1 (by omega); have hL2 : Below w.heap.size w w2 := hL1.trans (hB2.1.mono (by omega)))
      | (go_at_call 22; refine (fixed_short _ 1 s _ (hR2.on (below_al (Below.refl _ _))) hs (by omega) (by omega)).mono ?_; rintro e w3 ⟨rfl, hR3, hB3⟩; have hS3 : w3.heap.size = w.heap.size + 3 := by rw [hB3.2.1]; simp; omega
         have hK3 := hB3.on (Blk.new' #[.int .u8 (kind.toNat : Int), .int .i64 0, .string (S []), .int .i64 0] 23 hS2) (by omega); have hH3 := hB3.on (hH2.on (below_al (Below.refl _ _))) (by omega); have hL3 : Below w.heap.size w w3 := (hL2.trans (Below.mono (below_al (Below.refl _ _)) (by omega))).trans (hB3.1.mono (by omega))
         obtain ⟨x0, x1, x2, x3, y0, y1, y2, y3⟩ := four hK3)
      | (go_at_call 9; refine (make_to _ kind 0 [] 0 _ t z _ rfl rfl rfl (by first | exact hnm | simp) HM.out).mono ?_; rintro e w4 ⟨rfl, hb4⟩
         have hR4 := (hR3.far (by omega) 1 _).on hb4
         have hK4 := (hK3.set1 _).on hb4
         have hH4 := (hH3.far (by omega) 1 _).on hb4
         have hL4 : Below w.heap.size w w4 := (below_st hL3 (by simp)).trans (hb4.mono (by first | (simp; done) | (simp; omega)))
         obtain ⟨z0, z1, z2, z3, q0, q1, q2, q3⟩ := four hK4
         obtain ⟨r0, r1, r2, r3, p0, p1, p2, p3⟩ := four hH4)
      | (go_at_call 24; refine (err_any _ s _ 20 _ hR4).mono ?_; rintro e w5 ⟨rfl, rfl⟩))
  all_goals
    refine bodyPost_ret (v := .tuple #[kval zero, .int .i64 81]) (by rw [results_cell_tmp rfl]; unfold kval zero; go_simp; rfl) rfl ⟨rfl, ?_⟩
    repeat (first | exact hL4 | apply below_st (hp := Nat.le_refl _))

set_option maxHeartbeats 1000000 in
theorem parse_shortn100 (s : Bs) (kind : UInt8) (t : Bs) (z : Int) (w : World) (hs : s.length ≤ 140737488351232) (hn : 1 ≤ s.length) (hl : s.length < 9) (h1 : Hid ((s.drop 0).take 1 = [kind])) (k1 : ((kind.toNat : Int) != 110) = true) (k2 : ((kind.toNat : Int) == 112) = false) (k3 : ((kind.toNat : Int) == 100) = true) (HM : Hid (made ⟨kind, 0, [], 0⟩ = (t, z))) :
    Calls Try.prog 13 #[.string (S s)] w fun e w' => e = rval (zero, 81) ∧ Below w.heap.size w w' := by
  have hsz := S_size
  have htl := S_tl
  have hx : (S s).extract s.length s.length = S [] := by rw [S_extract]; simp
  all_goals
    go_enter Try.func13, Try.ntmps13
    go_wp2_with (first
      | (go_at_call 20; refine (read_at s _ (w.heap.size + 1) (by simp)).mono ?_; rintro e w1 ⟨rfl, hR1, hS1, hb1⟩; have hH1 : Blk w1 w.heap.size 23 #[.int .u8 0, .int .i64 0, .string (S []), .int .i64 0] := Blk.on (Blk.new w _ _) hb1; have hL1 : Below w.heap.size w w1 := below_tr (below_al (Below.refl _ _)) hb1)
      | (go_at_call 21; refine (byte_ok _ 0 s kind _ hR1 hs (by omega) h1.out).mono ?_; rintro e w2 ⟨rfl, hR2, hB2⟩; have hS2 : w2.heap.size = w.heap.size + 2 := hB2.2.1.trans hS1; have hH2 := hB2.on hH1 (by omega); have hL2 : Below w.heap.size w w2 := hL1.trans (hB2.1.mono (by omega)))
      | (go_at_call 22; refine (fixed_short _ 1 s _ (hR2.on (below_al (Below.refl _ _))) hs (by omega) (by omega)).mono ?_; rintro e w3 ⟨rfl, hR3, hB3⟩; have hS3 : w3.heap.size = w.heap.size + 3 := by rw [hB3.2.1]; simp; omega
         have hK3 := hB3.on (Blk.new' #[.int .u8 (kind.toNat : Int), .int .i64 0, .string (S []), .int .i64 0] 23 hS2) (by omega); have hH3 := hB3.on (hH2.on (below_al (Below.refl _ _))) (by omega); have hL3 : Below w.heap.size w w3 := (hL2.trans (Below.mono (below_al (Below.refl _ _)) (by omega))).trans (hB3.1.mono (by omega))
         obtain ⟨x0, x1, x2, x3, y0, y1, y2, y3⟩ := four hK3)
      | (go_at_call 23; refine (left_to _ s _ 20 0 _ (hR3.far (by omega) 1 _) hs (by omega) (by omega) (by simp)).mono ?_; rintro e w6 ⟨rfl, hR6, hB6⟩
         have hS6 : w6.heap.size = w.heap.size + 3 := by rw [hB6.2.1]; simp; omega
         have hK6 := hB6.on (hK3.set1 _) (by omega)
         have hH6 := hB6.on (hH3.far (by omega) 1 _) (by omega)
         have hL6 : Below w.heap.size w w6 := (below_st hL3 (by simp)).trans (hB6.1.mono (by omega))
         obtain ⟨m0, m1, m2, m3, n0, n1, n2, n3⟩ := four hK6)
      | (go_at_call 9; refine (make_to _ kind 0 [] 0 _ t z _ rfl rfl rfl (by first | exact hnm | simp) HM.out).mono ?_; rintro e w4 ⟨rfl, hb4⟩
         have hR4 := (hR6.far (by omega) 2 _).on hb4
         have hK4 := (hK6.set2 _).on hb4
         have hH4 := (hH6.far (by omega) 2 _).on hb4
         have hL4 : Below w.heap.size w w4 := (below_st hL6 (by simp)).trans (hb4.mono (by first | (simp; done) | (simp; omega)))
         obtain ⟨z0, z1, z2, z3, q0, q1, q2, q3⟩ := four hK4
         obtain ⟨r0, r1, r2, r3, p0, p1, p2, p3⟩ := four hH4)
      | (go_at_call 24; refine (err_any _ s _ 20 _ hR4).mono ?_; rintro e w5 ⟨rfl, rfl⟩))
  all_goals
    refine bodyPost_ret (v := .tuple #[kval zero, .int .i64 81]) (by rw [results_cell_tmp rfl]; unfold kval zero; go_simp; rfl) rfl ⟨rfl, ?_⟩
    repeat (first | exact hL4 | apply below_st (hp := Nat.le_refl _))

set_option maxHeartbeats 1000000 in
theorem parse_shortn120 (s : Bs) (kind : UInt8) (t : Bs) (z : Int) (w : World) (hs : s.length ≤ 140737488351232) (hn : 1 ≤ s.length) (hl : s.length < 9) (h1 : Hid ((s.drop 0).take 1 = [kind])) (k1 : ((kind.toNat : Int) != 110) = true) (k2 : ((kind.toNat : Int) == 112) = false) (k3 : ((kind.toNat : Int) == 100) = false) (k4 : ((kind.toNat : Int) == 120) = true) (HM : Hid (made ⟨kind, 0, [], 0⟩ = (t, z))) :
    Calls Try.prog 13 #[.string (S s)] w fun e w' => e = rval (zero, 81) ∧ Below w.heap.size w w' := by
  have hsz := S_size
  have htl := S_tl
  have hx : (S s).extract s.length s.length = S [] := by rw [S_extract]; simp
  all_goals
    go_enter Try.func13, Try.ntmps13
    go_wp2_with (first
      | (go_at_call 20; refine (read_at s _ (w.heap.size + 1) (by simp)).mono ?_; rintro e w1 ⟨rfl, hR1, hS1, hb1⟩; have hH1 : Blk w1 w.heap.size 23 #[.int .u8 0, .int .i64 0, .string (S []), .int .i64 0] := Blk.on (Blk.new w _ _) hb1; have hL1 : Below w.heap.size w w1 := below_tr (below_al (Below.refl _ _)) hb1)
      | (go_at_call 21; refine (byte_ok _ 0 s kind _ hR1 hs (by omega) h1.out).mono ?_; rintro e w2 ⟨rfl, hR2, hB2⟩; have hS2 : w2.heap.size = w.heap.size + 2 := hB2.2.1.trans hS1; have hH2 := hB2.on hH1 (by omega); have hL2 : Below w.heap.size w w2 := hL1.trans (hB2.1.mono (by omega)))
      | (go_at_call 22; refine (fixed_short _ 1 s _ (hR2.on (below_al (Below.refl _ _))) hs (by omega) (by omega)).mono ?_; rintro e w3 ⟨rfl, hR3, hB3⟩; have hS3 : w3.heap.size = w.heap.size + 3 := by rw [hB3.2.1]; simp; omega
         have hK3 := hB3.on (Blk.new' #[.int .u8 (kind.toNat : Int), .int .i64 0, .string (S []), .int .i64 0] 23 hS2) (by omega); have hH3 := hB3.on (hH2.on (below_al (Below.refl _ _))) (by omega); have hL3 : Below w.heap.size w w3 := (hL2.trans (Below.mono (below_al (Below.refl _ _)) (by omega))).trans (hB3.1.mono (by omega))
         obtain ⟨x0, x1, x2, x3, y0, y1, y2, y3⟩ := four hK3)
      | (go_at_call 23; refine (left_to _ s _ 20 0 _ (hR3.far (by omega) 1 _) hs (by omega) (by omega) (by simp)).mono ?_; rintro e w6 ⟨rfl, hR6, hB6⟩
         have hS6 : w6.heap.size = w.heap.size + 3 := by rw [hB6.2.1]; simp; omega
         have hK6 := hB6.on (hK3.set1 _) (by omega)
         have hH6 := hB6.on (hH3.far (by omega) 1 _) (by omega)
         have hL6 : Below w.heap.size w w6 := (below_st hL3 (by simp)).trans (hB6.1.mono (by omega))
         obtain ⟨m0, m1, m2, m3, n0, n1, n2, n3⟩ := four hK6)
      | (go_at_call 9; refine (make_to _ kind 0 [] 0 _ t z _ rfl rfl rfl (by first | exact hnm | simp) HM.out).mono ?_; rintro e w4 ⟨rfl, hb4⟩
         have hR4 := (hR6.far (by omega) 2 _).on hb4
         have hK4 := (hK6.set2 _).on hb4
         have hH4 := (hH6.far (by omega) 2 _).on hb4
         have hL4 : Below w.heap.size w w4 := (below_st hL6 (by simp)).trans (hb4.mono (by first | (simp; done) | (simp; omega)))
         obtain ⟨z0, z1, z2, z3, q0, q1, q2, q3⟩ := four hK4
         obtain ⟨r0, r1, r2, r3, p0, p1, p2, p3⟩ := four hH4)
      | (go_at_call 24; refine (err_any _ s _ 20 _ hR4).mono ?_; rintro e w5 ⟨rfl, rfl⟩))
  all_goals
    refine bodyPost_ret (v := .tuple #[kval zero, .int .i64 81]) (by rw [results_cell_tmp rfl]; unfold kval zero; go_simp; rfl) rfl ⟨rfl, ?_⟩
    repeat (first | exact hL4 | apply below_st (hp := Nat.le_refl _))

set_option maxHeartbeats 1000000 in
theorem parse_shortp (s : Bs) (kind : UInt8) (t : Bs) (z : Int) (w : World) (hs : s.length ≤ 140737488351232) (hn : 1 ≤ s.length) (hl : s.length < 9) (h1 : Hid ((s.drop 0).take 1 = [kind])) (k1 : ((kind.toNat : Int) != 110) = true) (k2 : ((kind.toNat : Int) == 112) = true) (HM : Hid (made ⟨kind, 0, [], 0⟩ = (t, z))) :
    Calls Try.prog 13 #[.string (S s)] w fun e w' => e = rval (zero, 81) ∧ Below w.heap.size w w' := by
  have hsz := S_size
  have htl := S_tl
  all_goals
    go_enter Try.func13, Try.ntmps13
    go_wp2_with (first
      | (go_at_call 20; refine (read_at s _ (w.heap.size + 1) (by simp)).mono ?_; rintro e w1 ⟨rfl, hR1, hS1, hb1⟩; have hH1 : Blk w1 w.heap.size 23 #[.int .u8 0, .int .i64 0, .string (S []), .int .i64 0] := Blk.on (Blk.new w _ _) hb1; have hL1 : Below w.heap.size w w1 := below_tr (below_al (Below.refl _ _)) hb1)
      | (go_at_call 21; refine (byte_ok _ 0 s kind _ hR1 hs (by omega) h1.out).mono ?_; rintro e w2 ⟨rfl, hR2, hB2⟩; have hS2 : w2.heap.size = w.heap.size + 2 := hB2.2.1.trans hS1; have hH2 := hB2.on hH1 (by omega); have hL2 : Below w.heap.size w w2 := hL1.trans (hB2.1.mono (by omega)))
      | (go_at_call 22; have hRX := hR3.far (b := w.heap.size + 2) (by omega) 1 (.int .i64 0); refine (fixed_fail' _ _ 20 s _ hRX rfl).mono ?_; rintro e w6 ⟨rfl, hR6, hB6⟩
         have hS6 : w6.heap.size = w.heap.size + 3 := by rw [hB6.2.1]; simp; omega
         have hK6 := hB6.on (hK3.set1 _) (by omega)
         have hH6 := hB6.on (hH3.far (by omega) 1 _) (by omega)
         have hL6 : Below w.heap.size w w6 := (below_st hL3 (by simp)).trans (hB6.1.mono (by omega))
         obtain ⟨m0, m1, m2, m3, n0, n1, n2, n3⟩ := four hK6)
      | (go_at_call 22; refine (fixed_short _ 1 s _ (hR2.on (below_al (Below.refl _ _))) hs (by omega) (by omega)).mono ?_; rintro e w3 ⟨rfl, hR3, hB3⟩; have hS3 : w3.heap.size = w.heap.size + 3 := by rw [hB3.2.1]; simp; omega
         have hK3 := hB3.on (Blk.new' #[.int .u8 (kind.toNat : Int), .int .i64 0, .string (S []), .int .i64 0] 23 hS2) (by omega); have hH3 := hB3.on (hH2.on (below_al (Below.refl _ _))) (by omega); have hL3 : Below w.heap.size w w3 := (hL2.trans (Below.mono (below_al (Below.refl _ _)) (by omega))).trans (hB3.1.mono (by omega))
         obtain ⟨x0, x1, x2, x3, y0, y1, y2, y3⟩ := four hK3)
      | (go_at_call 9; refine (make_to _ kind 0 [] 0 _ t z _ rfl rfl rfl (by first | exact hnm | simp) HM.out).mono ?_; rintro e w4 ⟨rfl, hb4⟩
         have hR4 := (hR6.far (by omega) 3 _).on hb4
         have hK4 := (hK6.set3 _).on hb4
         have hH4 := (hH6.far (by omega) 3 _).on hb4
         have hL4 : Below w.heap.size w w4 := (below_st hL6 (by simp)).trans (hb4.mono (by first | (simp; done) | (simp; omega)))
         obtain ⟨z0, z1, z2, z3, q0, q1, q2, q3⟩ := four hK4
         obtain ⟨r0, r1, r2, r3, p0, p1, p2, p3⟩ := four hH4)
      | (go_at_call 24; refine (err_any _ s _ 20 _ hR4).mono ?_; rintro e w5 ⟨rfl, rfl⟩))
  all_goals
    refine bodyPost_ret (v := .tuple #[kval zero, .int .i64 81]) (by rw [results_cell_tmp rfl]; unfold kval zero; go_simp; rfl) rfl ⟨rfl, ?_⟩
    repeat (first | exact hL4 | apply below_st (hp := Nat.le_refl _))

set_option maxHeartbeats 1000000 in
theorem parse_shortq (s : Bs) (kind : UInt8) (u : Bs) (t : Bs) (z : Int) (w : World) (hs : s.length ≤ 140737488351232) (hn : 9 ≤ s.length) (hl : s.length < 17) (h1 : Hid ((s.drop 0).take 1 = [kind])) (hu : Hid ((s.drop 1).take 8 = u)) (k1 : ((kind.toNat : Int) != 110) = true) (k2 : ((kind.toNat : Int) == 112) = true) (HM : Hid (made ⟨kind, wrap64 (val u), [], 0⟩ = (t, z))) :
    Calls Try.prog 13 #[.string (S s)] w fun e w' => e = rval (zero, 81) ∧ Below w.heap.size w w' := by
  have hsz := S_size
  have htl := S_tl
  all_goals
    go_enter Try.func13, Try.ntmps13
    go_wp2_with (first
      | (go_at_call 20; refine (read_at s _ (w.heap.size + 1) (by simp)).mono ?_; rintro e w1 ⟨rfl, hR1, hS1, hb1⟩; have hH1 : Blk w1 w.heap.size 23 #[.int .u8 0, .int .i64 0, .string (S []), .int .i64 0] := Blk.on (Blk.new w _ _) hb1; have hL1 : Below w.heap.size w w1 := below_tr (below_al (Below.refl _ _)) hb1)
      | (go_at_call 21; refine (byte_ok _ 0 s kind _ hR1 hs (by omega) h1.out).mono ?_; rintro e w2 ⟨rfl, hR2, hB2⟩; have hS2 : w2.heap.size = w.heap.size + 2 := hB2.2.1.trans hS1; have hH2 := hB2.on hH1 (by omega); have hL2 : Below w.heap.size w w2 := hL1.trans (hB2.1.mono (by omega)))
      | (go_at_call 22; refine (fixed_short _ 9 s _ (hR3.far (by omega) 1 _) hs (by omega) (by omega)).mono ?_; rintro e w6 ⟨rfl, hR6, hB6⟩
         have hS6 : w6.heap.size = w.heap.size + 3 := by rw [hB6.2.1]; simp; omega
         have hK6 := hB6.on (hK3.set1 _) (by omega)
         have hH6 := hB6.on (hH3.far (by omega) 1 _) (by omega)
         have hL6 : Below w.heap.size w w6 := (below_st hL3 (by simp)).trans (hB6.1.mono (by omega))
         obtain ⟨m0, m1, m2, m3, n0, n1, n2, n3⟩ := four hK6)
      | (go_at_call 22; refine (fixed_ok _ 1 s u _ (hR2.on (below_al (Below.refl _ _))) hs (by omega) hu.out).mono ?_; rintro e w3 ⟨rfl, hR3, hB3⟩; have hS3 : w3.heap.size = w.heap.size + 3 := by rw [hB3.2.1]; simp; omega
         have hK3 := hB3.on (Blk.new' #[.int .u8 (kind.toNat : Int), .int .i64 0, .string (S []), .int .i64 0] 23 hS2) (by omega); have hH3 := hB3.on (hH2.on (below_al (Below.refl _ _))) (by omega); have hL3 : Below w.heap.size w w3 := (hL2.trans (Below.mono (below_al (Below.refl _ _)) (by omega))).trans (hB3.1.mono (by omega))
         obtain ⟨x0, x1, x2, x3, y0, y1, y2, y3⟩ := four hK3)
      | (go_at_call 9; refine (make_to _ kind (wrap64 (val u)) [] 0 _ t z _ rfl rfl rfl (by first | exact hnm | simp) HM.out).mono ?_; rintro e w4 ⟨rfl, hb4⟩
         have hR4 := (hR6.far (by omega) 3 _).on hb4
         have hK4 := (hK6.set3 _).on hb4
         have hH4 := (hH6.far (by omega) 3 _).on hb4
         have hL4 : Below w.heap.size w w4 := (below_st hL6 (by simp)).trans (hb4.mono (by first | (simp; done) | (simp; omega)))
         obtain ⟨z0, z1, z2, z3, q0, q1, q2, q3⟩ := four hK4
         obtain ⟨r0, r1, r2, r3, p0, p1, p2, p3⟩ := four hH4)
      | (go_at_call 24; refine (err_any _ s _ 20 _ hR4).mono ?_; rintro e w5 ⟨rfl, rfl⟩))
  all_goals
    refine bodyPost_ret (v := .tuple #[kval zero, .int .i64 81]) (by rw [results_cell_tmp rfl]; unfold kval zero; go_simp; rfl) rfl ⟨rfl, ?_⟩
    repeat (first | exact hL4 | apply below_st (hp := Nat.le_refl _))

set_option maxHeartbeats 1000000 in
theorem parse_empty (t : Bs) (z : Int) (w : World) (HM : Hid (made ⟨0, 0, [], 0⟩ = (t, z))) :
    Calls Try.prog 13 #[.string (S [])] w fun e w' => e = rval (zero, 81) ∧ Below w.heap.size w w' := by
  have hsz := S_size
  have htl := S_tl
  all_goals
    go_enter Try.func13, Try.ntmps13
    go_wp2_with (first
      | (go_at_call 20; refine (read_at [] _ (w.heap.size + 1) (by simp)).mono ?_; rintro e w1 ⟨rfl, hR1, hS1, hb1⟩; have hH1 : Blk w1 w.heap.size 23 #[.int .u8 0, .int .i64 0, .string (S []), .int .i64 0] := Blk.on (Blk.new w _ _) hb1; have hL1 : Below w.heap.size w w1 := below_tr (below_al (Below.refl _ _)) hb1)
      | (go_at_call 21; refine (byte_short _ _ hR1).mono ?_; rintro e w2 ⟨rfl, hR2, hB2⟩; have hS2 : w2.heap.size = w.heap.size + 2 := hB2.2.1.trans hS1; have hH2 := hB2.on hH1 (by omega); have hL2 : Below w.heap.size w w2 := hL1.trans (hB2.1.mono (by omega)))
      | (go_at_call 22; have hRX := hR2.on (below_al (o := .cells #[.int .u8 0, .int .i64 0, .string (S []), .int .i64 0] 23 (0, 0)) (Below.refl _ _)); refine (fixed_fail _ 0 20 [] _ hRX rfl).mono ?_; rintro e w3 ⟨rfl, rfl⟩)
      | (go_at_call 9; refine (make_to _ 0 0 [] 0 _ t z _ rfl rfl rfl (by first | exact hnm | simp) HM.out).mono ?_; rintro e w4 ⟨rfl, hb4⟩
         have hR4 := (hR2.on (below_al (Below.refl _ _))).on hb4
         have hK4 := (Blk.new' #[.int .u8 0, .int .i64 0, .string (S []), .int .i64 0] 23 hS2).on hb4
         have hH4 := (hH2.on (below_al (Below.refl _ _))).on hb4
         have hL4 : Below w.heap.size w w4 := (hL2.trans (Below.mono (below_al (Below.refl _ _)) (by omega))).trans (hb4.mono (by first | (simp; done) | (simp; omega)))
         obtain ⟨z0, z1, z2, z3, q0, q1, q2, q3⟩ := four hK4
         obtain ⟨r0, r1, r2, r3, p0, p1, p2, p3⟩ := four hH4)
      | (go_at_call 24; refine (err_any _ [] _ 20 _ hR4).mono ?_; rintro e w5 ⟨rfl, rfl⟩))
  all_goals
    refine bodyPost_ret (v := .tuple #[kval zero, .int .i64 81]) (by rw [results_cell_tmp rfl]; unfold kval zero; go_simp; rfl) rfl ⟨rfl, ?_⟩
    repeat (first | exact hL4 | apply below_st (hp := Nat.le_refl _))

end Go.Proofs.Ytankjbppjabcoaa
