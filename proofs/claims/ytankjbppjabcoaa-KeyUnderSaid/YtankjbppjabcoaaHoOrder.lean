import Derived.Test.YtankjbppjabcoaaFrame
import Derived.Test.YtankjbppjabcoaaWkF
import Derived.Test.YtankjbppjabcoaaPlain2
namespace Go.Proofs.Ytankjbppjabcoaa
open Go.RowKit Ky

theorem toNat_ne {a b : UInt8} (h : ¬ a = b) : ¬ ((a.toNat : Int) = (b.toNat : Int)) := fun e => h (UInt8.toNat_inj.1 (by omega))
set_option maxHeartbeats 2000000 in
theorem order_kind (ak bk : UInt8) (ai bi ax bx : Int) (an bn' : Bs) (ta tb : Bs) (w : World) (ha : an.length ≤ 140737488351232) (hb : bn'.length ≤ 140737488351232) (HA : Hid (made ⟨ak, ai, an, ax⟩ = (ta, 0))) (HB : Hid (made ⟨bk, bi, bn', bx⟩ = (tb, 0))) (nk : ¬ (ak.toNat : Int) = (bk.toNat : Int)) (nk' : ((ak.toNat : Int) != (bk.toNat : Int)) = true) (hL : Op.bytesLess ta tb = decide (ak.toNat < bk.toNat)) (hE : (ta == tb) = false) :
    Calls Try.prog 4 #[.agg #[.int .u8 (ak.toNat : Int), .int .i64 ai, .string (S an), .int .i64 ax], .agg #[.int .u8 (bk.toNat : Int), .int .i64 bi, .string (S bn'), .int .i64 bx]] w fun e w' => e = .returned (.bool true) ∧ Below w.heap.size w w' := by
  have hsz := S_size
  have htl := S_tl
  go_enter Try.func4, Try.ntmps4
  go_wp2_with (first
    | (go_at_call 8; refine (awake_any _).mono ?_; rintro e w1 ⟨rfl, hb1⟩; have q0 := bcell hb1 w.heap.size 0 (by simp; omega); have q1 := bcell hb1 w.heap.size 1 (by simp; omega); have q2 := bcell hb1 w.heap.size 2 (by simp; omega); have q3 := bcell hb1 w.heap.size 3 (by simp; omega); have z0 := bcell hb1 (w.heap.size + 1) 0 (by simp); have z1 := bcell hb1 (w.heap.size + 1) 1 (by simp); have z2 := bcell hb1 (w.heap.size + 1) 2 (by simp); have z3 := bcell hb1 (w.heap.size + 1) 3 (by simp); have hl1 : w.heap.size + 1 < w1.heap.size := Nat.lt_of_lt_of_le (by simp) hb1.size)
    | (go_at_call 9; have hq2 := hl2; refine (make_to _ bk bi bn' bx _ tb 0 _ rfl rfl rfl hb HB.out).mono ?_; rintro e w3 ⟨rfl, hb3⟩; have u0 := bcell hb3 w.heap.size 0 (by omega); have u1 := bcell hb3 w.heap.size 1 (by omega); have u2 := bcell hb3 w.heap.size 2 (by omega); have u3 := bcell hb3 w.heap.size 3 (by omega); have v0 := bcell hb3 (w.heap.size + 1) 0 (by omega); have v1 := bcell hb3 (w.heap.size + 1) 1 (by omega); have v2 := bcell hb3 (w.heap.size + 1) 2 (by omega); have v3 := bcell hb3 (w.heap.size + 1) 3 (by omega))
    | (go_at_call 9; refine (make_to _ ak ai an ax _ ta 0 _ rfl rfl rfl ha HA.out).mono ?_; rintro e w2 ⟨rfl, hb2⟩; have r0 := bcell hb2 w.heap.size 0 (by omega); have r1 := bcell hb2 w.heap.size 1 (by omega); have r2 := bcell hb2 w.heap.size 2 (by omega); have r3 := bcell hb2 w.heap.size 3 (by omega); have y0 := bcell hb2 (w.heap.size + 1) 0 (by omega); have y1 := bcell hb2 (w.heap.size + 1) 1 (by omega); have y2 := bcell hb2 (w.heap.size + 1) 2 (by omega); have y3 := bcell hb2 (w.heap.size + 1) 3 (by omega); have hl2 : w.heap.size + 1 < w2.heap.size := Nat.lt_of_lt_of_le hl1 hb2.size))
  all_goals
    go_ret
    refine ⟨by simp, ?_⟩
    repeat (first | exact Below.refl _ _ | apply below_al | (refine below_tr ?_ hb3) | (refine below_tr ?_ hb2) | (refine below_tr ?_ hb1))

set_option maxHeartbeats 2000000 in
theorem order_ino (ak bk : UInt8) (ai bi ax bx : Int) (an bn' : Bs) (ta tb : Bs) (w : World) (ha : an.length ≤ 140737488351232) (hb : bn'.length ≤ 140737488351232) (HA : Hid (made ⟨ak, ai, an, ax⟩ = (ta, 0))) (HB : Hid (made ⟨bk, bi, bn', bx⟩ = (tb, 0))) (hk : ak = bk) (ni : ¬ ai = bi) (ni' : (ai != bi) = true) (hL : Op.bytesLess ta tb = decide (ai < bi)) (hE : (ta == tb) = false) :
    Calls Try.prog 4 #[.agg #[.int .u8 (ak.toNat : Int), .int .i64 ai, .string (S an), .int .i64 ax], .agg #[.int .u8 (bk.toNat : Int), .int .i64 bi, .string (S bn'), .int .i64 bx]] w fun e w' => e = .returned (.bool true) ∧ Below w.heap.size w w' := by
  subst hk
  have hsz := S_size
  have htl := S_tl
  go_enter Try.func4, Try.ntmps4
  go_wp2_with (first
    | (go_at_call 8; refine (awake_any _).mono ?_; rintro e w1 ⟨rfl, hb1⟩; have q0 := bcell hb1 w.heap.size 0 (by simp; omega); have q1 := bcell hb1 w.heap.size 1 (by simp; omega); have q2 := bcell hb1 w.heap.size 2 (by simp; omega); have q3 := bcell hb1 w.heap.size 3 (by simp; omega); have z0 := bcell hb1 (w.heap.size + 1) 0 (by simp); have z1 := bcell hb1 (w.heap.size + 1) 1 (by simp); have z2 := bcell hb1 (w.heap.size + 1) 2 (by simp); have z3 := bcell hb1 (w.heap.size + 1) 3 (by simp); have hl1 : w.heap.size + 1 < w1.heap.size := Nat.lt_of_lt_of_le (by simp) hb1.size)
    | (go_at_call 9; have hq2 := hl2; refine (make_to _ ak bi bn' bx _ tb 0 _ rfl rfl rfl hb HB.out).mono ?_; rintro e w3 ⟨rfl, hb3⟩; have u0 := bcell hb3 w.heap.size 0 (by omega); have u1 := bcell hb3 w.heap.size 1 (by omega); have u2 := bcell hb3 w.heap.size 2 (by omega); have u3 := bcell hb3 w.heap.size 3 (by omega); have v0 := bcell hb3 (w.heap.size + 1) 0 (by omega); have v1 := bcell hb3 (w.heap.size + 1) 1 (by omega); have v2 := bcell hb3 (w.heap.size + 1) 2 (by omega); have v3 := bcell hb3 (w.heap.size + 1) 3 (by omega))
    | (go_at_call 9; refine (make_to _ ak ai an ax _ ta 0 _ rfl rfl rfl ha HA.out).mono ?_; rintro e w2 ⟨rfl, hb2⟩; have r0 := bcell hb2 w.heap.size 0 (by omega); have r1 := bcell hb2 w.heap.size 1 (by omega); have r2 := bcell hb2 w.heap.size 2 (by omega); have r3 := bcell hb2 w.heap.size 3 (by omega); have y0 := bcell hb2 (w.heap.size + 1) 0 (by omega); have y1 := bcell hb2 (w.heap.size + 1) 1 (by omega); have y2 := bcell hb2 (w.heap.size + 1) 2 (by omega); have y3 := bcell hb2 (w.heap.size + 1) 3 (by omega); have hl2 : w.heap.size + 1 < w2.heap.size := Nat.lt_of_lt_of_le hl1 hb2.size))
  all_goals
    go_ret
    refine ⟨by simp, ?_⟩
    repeat (first | exact Below.refl _ _ | apply below_al | (refine below_tr ?_ hb3) | (refine below_tr ?_ hb2) | (refine below_tr ?_ hb1))

set_option maxHeartbeats 2000000 in
theorem order_name (ak bk : UInt8) (ai bi ax bx : Int) (an bn' : Bs) (ta tb : Bs) (w : World) (ha : an.length ≤ 140737488351232) (hb : bn'.length ≤ 140737488351232) (HA : Hid (made ⟨ak, ai, an, ax⟩ = (ta, 0))) (HB : Hid (made ⟨bk, bi, bn', bx⟩ = (tb, 0))) (hk : ak = bk) (hi : ai = bi) (_nn : ¬ an = bn') (nn' : (an == bn') = false) (hL : Op.bytesLess ta tb = Op.bytesLess an bn') (hE : (ta == tb) = false) :
    Calls Try.prog 4 #[.agg #[.int .u8 (ak.toNat : Int), .int .i64 ai, .string (S an), .int .i64 ax], .agg #[.int .u8 (bk.toNat : Int), .int .i64 bi, .string (S bn'), .int .i64 bx]] w fun e w' => e = .returned (.bool true) ∧ Below w.heap.size w w' := by
  subst hk
  subst hi
  have hsz := S_size
  have htl := S_tl
  go_enter Try.func4, Try.ntmps4
  go_wp2_with (first
    | (go_at_call 8; refine (awake_any _).mono ?_; rintro e w1 ⟨rfl, hb1⟩; have q0 := bcell hb1 w.heap.size 0 (by simp; omega); have q1 := bcell hb1 w.heap.size 1 (by simp; omega); have q2 := bcell hb1 w.heap.size 2 (by simp; omega); have q3 := bcell hb1 w.heap.size 3 (by simp; omega); have z0 := bcell hb1 (w.heap.size + 1) 0 (by simp); have z1 := bcell hb1 (w.heap.size + 1) 1 (by simp); have z2 := bcell hb1 (w.heap.size + 1) 2 (by simp); have z3 := bcell hb1 (w.heap.size + 1) 3 (by simp); have hl1 : w.heap.size + 1 < w1.heap.size := Nat.lt_of_lt_of_le (by simp) hb1.size)
    | (go_at_call 9; have hq2 := hl2; refine (make_to _ ak ai bn' bx _ tb 0 _ rfl rfl rfl hb HB.out).mono ?_; rintro e w3 ⟨rfl, hb3⟩; have u0 := bcell hb3 w.heap.size 0 (by omega); have u1 := bcell hb3 w.heap.size 1 (by omega); have u2 := bcell hb3 w.heap.size 2 (by omega); have u3 := bcell hb3 w.heap.size 3 (by omega); have v0 := bcell hb3 (w.heap.size + 1) 0 (by omega); have v1 := bcell hb3 (w.heap.size + 1) 1 (by omega); have v2 := bcell hb3 (w.heap.size + 1) 2 (by omega); have v3 := bcell hb3 (w.heap.size + 1) 3 (by omega))
    | (go_at_call 9; refine (make_to _ ak ai an ax _ ta 0 _ rfl rfl rfl ha HA.out).mono ?_; rintro e w2 ⟨rfl, hb2⟩; have r0 := bcell hb2 w.heap.size 0 (by omega); have r1 := bcell hb2 w.heap.size 1 (by omega); have r2 := bcell hb2 w.heap.size 2 (by omega); have r3 := bcell hb2 w.heap.size 3 (by omega); have y0 := bcell hb2 (w.heap.size + 1) 0 (by omega); have y1 := bcell hb2 (w.heap.size + 1) 1 (by omega); have y2 := bcell hb2 (w.heap.size + 1) 2 (by omega); have y3 := bcell hb2 (w.heap.size + 1) 3 (by omega); have hl2 : w.heap.size + 1 < w2.heap.size := Nat.lt_of_lt_of_le hl1 hb2.size))
  all_goals
    go_ret
    refine ⟨by simp, ?_⟩
    repeat (first | exact Below.refl _ _ | apply below_al | (refine below_tr ?_ hb3) | (refine below_tr ?_ hb2) | (refine below_tr ?_ hb1))

set_option maxHeartbeats 2000000 in
theorem order_index (ak bk : UInt8) (ai bi ax bx : Int) (an bn' : Bs) (ta tb : Bs) (w : World) (ha : an.length ≤ 140737488351232) (hb : bn'.length ≤ 140737488351232) (HA : Hid (made ⟨ak, ai, an, ax⟩ = (ta, 0))) (HB : Hid (made ⟨bk, bi, bn', bx⟩ = (tb, 0))) (hk : ak = bk) (hi : ai = bi) (hn : an = bn') (nx : ¬ ax = bx) (hL : Op.bytesLess ta tb = decide (ax < bx)) (hE : (ta == tb) = false) :
    Calls Try.prog 4 #[.agg #[.int .u8 (ak.toNat : Int), .int .i64 ai, .string (S an), .int .i64 ax], .agg #[.int .u8 (bk.toNat : Int), .int .i64 bi, .string (S bn'), .int .i64 bx]] w fun e w' => e = .returned (.bool true) ∧ Below w.heap.size w w' := by
  subst hk
  subst hi
  subst hn
  have hsz := S_size
  have htl := S_tl
  go_enter Try.func4, Try.ntmps4
  go_wp2_with (first
    | (go_at_call 8; refine (awake_any _).mono ?_; rintro e w1 ⟨rfl, hb1⟩; have q0 := bcell hb1 w.heap.size 0 (by simp; omega); have q1 := bcell hb1 w.heap.size 1 (by simp; omega); have q2 := bcell hb1 w.heap.size 2 (by simp; omega); have q3 := bcell hb1 w.heap.size 3 (by simp; omega); have z0 := bcell hb1 (w.heap.size + 1) 0 (by simp); have z1 := bcell hb1 (w.heap.size + 1) 1 (by simp); have z2 := bcell hb1 (w.heap.size + 1) 2 (by simp); have z3 := bcell hb1 (w.heap.size + 1) 3 (by simp); have hl1 : w.heap.size + 1 < w1.heap.size := Nat.lt_of_lt_of_le (by simp) hb1.size)
    | (go_at_call 9; have hq2 := hl2; refine (make_to _ ak ai an bx _ tb 0 _ rfl rfl rfl hb HB.out).mono ?_; rintro e w3 ⟨rfl, hb3⟩; have u0 := bcell hb3 w.heap.size 0 (by omega); have u1 := bcell hb3 w.heap.size 1 (by omega); have u2 := bcell hb3 w.heap.size 2 (by omega); have u3 := bcell hb3 w.heap.size 3 (by omega); have v0 := bcell hb3 (w.heap.size + 1) 0 (by omega); have v1 := bcell hb3 (w.heap.size + 1) 1 (by omega); have v2 := bcell hb3 (w.heap.size + 1) 2 (by omega); have v3 := bcell hb3 (w.heap.size + 1) 3 (by omega))
    | (go_at_call 9; refine (make_to _ ak ai an ax _ ta 0 _ rfl rfl rfl ha HA.out).mono ?_; rintro e w2 ⟨rfl, hb2⟩; have r0 := bcell hb2 w.heap.size 0 (by omega); have r1 := bcell hb2 w.heap.size 1 (by omega); have r2 := bcell hb2 w.heap.size 2 (by omega); have r3 := bcell hb2 w.heap.size 3 (by omega); have y0 := bcell hb2 (w.heap.size + 1) 0 (by omega); have y1 := bcell hb2 (w.heap.size + 1) 1 (by omega); have y2 := bcell hb2 (w.heap.size + 1) 2 (by omega); have y3 := bcell hb2 (w.heap.size + 1) 3 (by omega); have hl2 : w.heap.size + 1 < w2.heap.size := Nat.lt_of_lt_of_le hl1 hb2.size))
  all_goals
    go_ret
    refine ⟨by simp, ?_⟩
    repeat (first | exact Below.refl _ _ | apply below_al | (refine below_tr ?_ hb3) | (refine below_tr ?_ hb2) | (refine below_tr ?_ hb1))

set_option maxHeartbeats 2000000 in
theorem order_same (ak bk : UInt8) (ai bi ax bx : Int) (an bn' : Bs) (ta tb : Bs) (w : World) (ha : an.length ≤ 140737488351232) (hb : bn'.length ≤ 140737488351232) (HA : Hid (made ⟨ak, ai, an, ax⟩ = (ta, 0))) (HB : Hid (made ⟨bk, bi, bn', bx⟩ = (tb, 0))) (hk : ak = bk) (hi : ai = bi) (hn : an = bn') (hx : ax = bx) (ht : ta = tb) (hL : Op.bytesLess ta ta = false) :
    Calls Try.prog 4 #[.agg #[.int .u8 (ak.toNat : Int), .int .i64 ai, .string (S an), .int .i64 ax], .agg #[.int .u8 (bk.toNat : Int), .int .i64 bi, .string (S bn'), .int .i64 bx]] w fun e w' => e = .returned (.bool true) ∧ Below w.heap.size w w' := by
  subst hk
  subst hi
  subst hn
  subst hx
  subst ht
  have hsz := S_size
  have htl := S_tl
  go_enter Try.func4, Try.ntmps4
  go_wp2_with (first
    | (go_at_call 8; refine (awake_any _).mono ?_; rintro e w1 ⟨rfl, hb1⟩; have q0 := bcell hb1 w.heap.size 0 (by simp; omega); have q1 := bcell hb1 w.heap.size 1 (by simp; omega); have q2 := bcell hb1 w.heap.size 2 (by simp; omega); have q3 := bcell hb1 w.heap.size 3 (by simp; omega); have z0 := bcell hb1 (w.heap.size + 1) 0 (by simp); have z1 := bcell hb1 (w.heap.size + 1) 1 (by simp); have z2 := bcell hb1 (w.heap.size + 1) 2 (by simp); have z3 := bcell hb1 (w.heap.size + 1) 3 (by simp); have hl1 : w.heap.size + 1 < w1.heap.size := Nat.lt_of_lt_of_le (by simp) hb1.size)
    | (go_at_call 9; have hq2 := hl2; refine (make_to _ ak ai an ax _ ta 0 _ rfl rfl rfl hb HB.out).mono ?_; rintro e w3 ⟨rfl, hb3⟩; have u0 := bcell hb3 w.heap.size 0 (by omega); have u1 := bcell hb3 w.heap.size 1 (by omega); have u2 := bcell hb3 w.heap.size 2 (by omega); have u3 := bcell hb3 w.heap.size 3 (by omega); have v0 := bcell hb3 (w.heap.size + 1) 0 (by omega); have v1 := bcell hb3 (w.heap.size + 1) 1 (by omega); have v2 := bcell hb3 (w.heap.size + 1) 2 (by omega); have v3 := bcell hb3 (w.heap.size + 1) 3 (by omega))
    | (go_at_call 9; refine (make_to _ ak ai an ax _ ta 0 _ rfl rfl rfl ha HA.out).mono ?_; rintro e w2 ⟨rfl, hb2⟩; have r0 := bcell hb2 w.heap.size 0 (by omega); have r1 := bcell hb2 w.heap.size 1 (by omega); have r2 := bcell hb2 w.heap.size 2 (by omega); have r3 := bcell hb2 w.heap.size 3 (by omega); have y0 := bcell hb2 (w.heap.size + 1) 0 (by omega); have y1 := bcell hb2 (w.heap.size + 1) 1 (by omega); have y2 := bcell hb2 (w.heap.size + 1) 2 (by omega); have y3 := bcell hb2 (w.heap.size + 1) 3 (by omega); have hl2 : w.heap.size + 1 < w2.heap.size := Nat.lt_of_lt_of_le hl1 hb2.size))
  all_goals
    go_ret
    refine ⟨by simp, ?_⟩
    repeat (first | exact Below.refl _ _ | apply below_al | (refine below_tr ?_ hb3) | (refine below_tr ?_ hb2) | (refine below_tr ?_ hb1))


theorem made_zero (k : K) : ∃ t z, made k = (t, z) ∧ ((z == 0) = true ↔ right k) := by
  by_cases h : right k
  · exact ⟨text k, 0, by unfold made; rw [if_pos h], by simp [h]⟩
  · exact ⟨[], 81, by unfold made; rw [if_neg h], by simp [h]⟩
set_option maxHeartbeats 2000000 in
theorem keyOrder_no (a b : K) (w : World) (ha : a.name.length ≤ 140737488351232) (hb : b.name.length ≤ 140737488351232) (h : ¬ right a ∨ ¬ right b) :
    Calls Try.prog 4 #[kv a, kv b] w fun e w' => e = .returned (.bool true) ∧ Below w.heap.size w w' := by
  obtain ⟨ta, za, ma, ea⟩ := made_zero a
  obtain ⟨tb, zb, mb, eb⟩ := made_zero b
  have hz : (za == 0) = false ∨ ((za == 0) = true ∧ (zb == 0) = false) := by
    by_cases h1 : right a
    · have h2 : ¬ right b := h.resolve_left (fun f => f h1)
      exact .inr ⟨ea.2 h1, Bool.eq_false_iff.2 fun e => h2 (eb.1 e)⟩
    · exact .inl (Bool.eq_false_iff.2 fun e => h1 (ea.1 e))
  have HA := Lib.hid ma
  have HB := Lib.hid mb
  clear ma mb ea eb h
  obtain ⟨ak, ai, an, ax⟩ := a
  obtain ⟨bk, bi, bn', bx⟩ := b
  unfold kv
  rcases hz with hz | ⟨hz, hz2⟩
  · have hz' : (za != 0) = true := by rw [bne, hz]; rfl
    go_enter Try.func4, Try.ntmps4
    go_wp2_with (first
      | (go_at_call 8; refine (awake_any _).mono ?_; rintro e w1 ⟨rfl, hb1⟩; have q0 := bcell hb1 w.heap.size 0 (by simp; omega); have q1 := bcell hb1 w.heap.size 1 (by simp; omega); have q2 := bcell hb1 w.heap.size 2 (by simp; omega); have q3 := bcell hb1 w.heap.size 3 (by simp; omega); have z0 := bcell hb1 (w.heap.size + 1) 0 (by simp); have z1 := bcell hb1 (w.heap.size + 1) 1 (by simp); have z2 := bcell hb1 (w.heap.size + 1) 2 (by simp); have z3 := bcell hb1 (w.heap.size + 1) 3 (by simp); have hl1 : w.heap.size + 1 < w1.heap.size := Nat.lt_of_lt_of_le (by simp) hb1.size)
      | (go_at_call 9; have hq2 := hl2; refine (make_to _ bk bi bn' bx _ tb zb _ rfl rfl rfl hb HB.out).mono ?_; rintro e w3 ⟨rfl, hb3⟩)
      | (go_at_call 9; refine (make_to _ ak ai an ax _ ta za _ rfl rfl rfl ha HA.out).mono ?_; rintro e w2 ⟨rfl, hb2⟩; have y0 := bcell hb2 (w.heap.size + 1) 0 hl1; have y1 := bcell hb2 (w.heap.size + 1) 1 hl1; have y2 := bcell hb2 (w.heap.size + 1) 2 hl1; have y3 := bcell hb2 (w.heap.size + 1) 3 hl1; have hl2 : w.heap.size + 1 < w2.heap.size := Nat.lt_of_lt_of_le hl1 hb2.size))
    all_goals
      go_ret
      refine ⟨by simp, ?_⟩
      repeat (first | exact Below.refl _ _ | apply below_al | (refine below_tr ?_ hb3) | (refine below_tr ?_ hb2) | (refine below_tr ?_ hb1))
  · have hz' : (za != 0) = false := by rw [bne, hz]; rfl
    have hz2' : (zb != 0) = true := by rw [bne, hz2]; rfl
    go_enter Try.func4, Try.ntmps4
    go_wp2_with (first
      | (go_at_call 8; refine (awake_any _).mono ?_; rintro e w1 ⟨rfl, hb1⟩; have q0 := bcell hb1 w.heap.size 0 (by simp; omega); have q1 := bcell hb1 w.heap.size 1 (by simp; omega); have q2 := bcell hb1 w.heap.size 2 (by simp; omega); have q3 := bcell hb1 w.heap.size 3 (by simp; omega); have z0 := bcell hb1 (w.heap.size + 1) 0 (by simp); have z1 := bcell hb1 (w.heap.size + 1) 1 (by simp); have z2 := bcell hb1 (w.heap.size + 1) 2 (by simp); have z3 := bcell hb1 (w.heap.size + 1) 3 (by simp); have hl1 : w.heap.size + 1 < w1.heap.size := Nat.lt_of_lt_of_le (by simp) hb1.size)
      | (go_at_call 9; have hq2 := hl2; refine (make_to _ bk bi bn' bx _ tb zb _ rfl rfl rfl hb HB.out).mono ?_; rintro e w3 ⟨rfl, hb3⟩)
      | (go_at_call 9; refine (make_to _ ak ai an ax _ ta za _ rfl rfl rfl ha HA.out).mono ?_; rintro e w2 ⟨rfl, hb2⟩; have y0 := bcell hb2 (w.heap.size + 1) 0 hl1; have y1 := bcell hb2 (w.heap.size + 1) 1 hl1; have y2 := bcell hb2 (w.heap.size + 1) 2 hl1; have y3 := bcell hb2 (w.heap.size + 1) 3 hl1; have hl2 : w.heap.size + 1 < w2.heap.size := Nat.lt_of_lt_of_le hl1 hb2.size))
    all_goals
      go_ret
      refine ⟨by simp, ?_⟩
      repeat (first | exact Below.refl _ _ | apply below_al | (refine below_tr ?_ hb3) | (refine below_tr ?_ hb2) | (refine below_tr ?_ hb1))

theorem keyOrder_yes (a b : K) (w : World) (ha : a.name.length ≤ 140737488351232) (hb : b.name.length ≤ 140737488351232) (ra : right a) (rb : right b) :
    Calls Try.prog 4 #[kv a, kv b] w fun e w' => e = .returned (.bool true) ∧ Below w.heap.size w w' := by
  have ma : Hid (made a = (text a, 0)) := by show made a = _; unfold made; rw [if_pos ra]
  have mb : Hid (made b = (text b, 0)) := by show made b = _; unfold made; rw [if_pos rb]
  by_cases hk : a.kind = b.kind
  · by_cases hi : a.ino = b.ino
    · by_cases hn : a.name = b.name
      · by_cases hx : a.index = b.index
        · have e : a = b := by cases a; cases b; simp_all
          exact order_same _ _ _ _ _ _ _ _ _ _ w ha hb ma mb hk hi hn hx (by rw [e]) (less_self _)
        · exact order_index _ _ _ _ _ _ _ _ _ _ w ha hb ma mb hk hi hn hx (less_index ra rb hk hi hn) (by rw [beq_eq_false_iff_ne]; exact fun e => hx (text_inj ra rb e).2.2.2)
      · exact order_name _ _ _ _ _ _ _ _ _ _ w ha hb ma mb hk hi hn (by rw [beq_eq_false_iff_ne]; exact hn) (less_name ra rb hk hi hn) (by rw [beq_eq_false_iff_ne]; exact fun e => hn (text_inj ra rb e).2.2.1)
    · exact order_ino _ _ _ _ _ _ _ _ _ _ w ha hb ma mb hk hi (by rw [bne_iff_ne]; exact hi) (less_ino ra rb hk hi) (by rw [beq_eq_false_iff_ne]; exact fun e => hi (text_inj ra rb e).2.1)
  · exact order_kind _ _ _ _ _ _ _ _ _ _ w ha hb ma mb (toNat_ne hk) (by rw [bne_iff_ne]; exact toNat_ne hk) (less_kind hk) (by rw [beq_eq_false_iff_ne]; exact fun e => hk (text_inj ra rb e).1)
theorem keyOrder_hole (a b : K) (w : World) (sa : a.name.length ≤ 140737488351232) (_ : I64 a.ino) (_ : I64 a.index) (sb : b.name.length ≤ 140737488351232) (_ : I64 b.ino) (_ : I64 b.index) :
    Calls Try.prog 4 #[kv a, kv b] w fun e w' => e = .returned (.bool true) ∧ Below w.heap.size w w' := by
  by_cases ra : right a
  · by_cases rb : right b
    · exact keyOrder_yes a b w sa sb ra rb
    · exact keyOrder_no a b w sa sb (.inr rb)
  · exact keyOrder_no a b w sa sb (.inl ra)
end Go.Proofs.Ytankjbppjabcoaa
