import Derived.Test.YtankjbppjabcoaaWkD
namespace Go.Proofs.Ytankjbppjabcoaa
open Go.RowKit Ky

set_option maxHeartbeats 4000000 in
theorem rmake_any (k : K) (w : World) (hnm : k.name.length ≤ 140737488351232) :
    Calls Try.prog 10 #[.agg #[.int .u8 (k.kind.toNat : Int), .int .i64 k.ino, .string (S k.name), .int .i64 k.index]] w fun e w' => e = .returned (.tuple #[.string (S (made k).1), .int .i64 (made k).2]) ∧ Below w.heap.size w w' := by
  obtain ⟨kind, ino, nm, ix⟩ := k
  replace hnm : nm.length ≤ 140737488351232 := hnm
  by_cases hr : right ⟨kind, ino, nm, ix⟩
  · have hm : made ⟨kind, ino, nm, ix⟩ = (text ⟨kind, ino, nm, ix⟩, 0) := by unfold made; rw [if_pos hr]
    have hd : decide (right ⟨kind, ino, nm, ix⟩) = true := decide_eq_true hr
    have HM := Lib.hid hm
    have hw := un_wrap ino
    have hwx := un_wrap ix
    have hcv := conv_cell kind
    have hap := S_app
    have hsz := S_size
    have hfl := fx_length
    clear hr hm
    by_cases hk : kind = 110
    · have k110 : ((kind.toNat : Int) != 110) = false := by rw [hk]; rfl
      have k112 : ((kind.toNat : Int) == 112) = false := by rw [hk]; rfl
      have HT := Lib.hid (show text ⟨kind, ino, nm, ix⟩ = kind :: nm by unfold text; simp [hk])
      clear hk
      go_enter Try.func10, Try.ntmps10
      go_wp2_with (go_at_call 17; refine (right_any ⟨kind, ino, nm, ix⟩ _).mono ?_; rintro e w1 ⟨rfl, hb2⟩; have q0 := bcell hb2 w.heap.size 0 (by simp); have q2 := bcell hb2 w.heap.size 2 (by simp); have hl1 : w.heap.size < w1.heap.size := Nat.lt_of_lt_of_le (by simp) hb2.size)
      go_ret2
      refine ⟨by rw [HM.out, HT.out]; rfl, ?_⟩
      repeat (first | exact Below.refl _ _ | apply below_al | (refine below_tr ?_ hb2))
    · have k110 : ((kind.toNat : Int) != 110) = true := by
        have := kind_ne hk
        rw [bne, show ((kind.toNat : Int) == 110) = false from this]; rfl
      by_cases h112 : kind = 112
      · have k112 : ((kind.toNat : Int) == 112) = true := by rw [h112]; rfl
        have HT := Lib.hid (show text ⟨kind, ino, nm, ix⟩ = kind :: (fx (un ino) ++ (fx (un ix) ++ nm)) by unfold text; simp [h112])
        clear hk h112
        go_enter Try.func10, Try.ntmps10
        go_wp2_with (first
          | (go_at_call 17; refine (right_any ⟨kind, ino, nm, ix⟩ _).mono ?_; rintro e w1 ⟨rfl, hb2⟩; have q0 := bcell hb2 w.heap.size 0 (by simp); have q1 := bcell hb2 w.heap.size 1 (by simp); have q2 := bcell hb2 w.heap.size 2 (by simp); have q3 := bcell hb2 w.heap.size 3 (by simp); have hl1 : w.heap.size < w1.heap.size := Nat.lt_of_lt_of_le (by simp) hb2.size)
          | (go_at_call_of 18 (Value.int IntKind.u64 (un ino : Int)); refine (rfixed_any (un ino) _ (un_lt ino)).mono ?_; rintro e w2 ⟨rfl, hb3⟩; have r0 := bcell hb3 w.heap.size 0 (by first | assumption | (simp; omega)); have r2 := bcell hb3 w.heap.size 2 (by first | assumption | (simp; omega)); have r3 := bcell hb3 w.heap.size 3 (by first | assumption | (simp; omega)); have hl2 : w.heap.size < w2.heap.size := Nat.lt_of_lt_of_le (by first | assumption | (simp; omega)) hb3.size)
          | (go_at_call_of 18 (Value.int IntKind.u64 (un ix : Int)); refine (rfixed_any (un ix) _ (un_lt ix)).mono ?_; rintro e w3 ⟨rfl, hb4⟩; have t2 := bcell hb4 w.heap.size 2 (by first | assumption | (simp; omega))))
        go_ret2
        refine ⟨by rw [HM.out, HT.out]; simp, ?_⟩
        repeat (first | exact Below.refl _ _ | apply below_al | (refine below_tr ?_ hb4) | (refine below_tr ?_ hb3) | (refine below_tr ?_ hb2))
      · have k112 : ((kind.toNat : Int) == 112) = false := kind_ne h112
        have HT := Lib.hid (show text ⟨kind, ino, nm, ix⟩ = kind :: (fx (un ino) ++ nm) by unfold text; simp [hk, h112])
        clear hk h112
        go_enter Try.func10, Try.ntmps10
        go_wp2_with (first
          | (go_at_call 17; refine (right_any ⟨kind, ino, nm, ix⟩ _).mono ?_; rintro e w1 ⟨rfl, hb2⟩; have q0 := bcell hb2 w.heap.size 0 (by simp); have q1 := bcell hb2 w.heap.size 1 (by simp); have q2 := bcell hb2 w.heap.size 2 (by simp); have hl1 : w.heap.size < w1.heap.size := Nat.lt_of_lt_of_le (by simp) hb2.size)
          | (go_at_call 18; refine (rfixed_any (un ino) _ (un_lt ino)).mono ?_; rintro e w2 ⟨rfl, hb3⟩; have r0 := bcell hb3 w.heap.size 0 (by first | assumption | (simp; omega)); have r2 := bcell hb3 w.heap.size 2 (by first | assumption | (simp; omega))))
        go_ret2
        refine ⟨by rw [HM.out, HT.out]; simp, ?_⟩
        repeat (first | exact Below.refl _ _ | apply below_al | (refine below_tr ?_ hb3) | (refine below_tr ?_ hb2))
  · have hm : made ⟨kind, ino, nm, ix⟩ = ([], 81) := by unfold made; rw [if_neg hr]
    have hd : decide (right ⟨kind, ino, nm, ix⟩) = false := decide_eq_false hr
    have HM := Lib.hid hm
    clear hr hm
    go_enter Try.func10, Try.ntmps10
    go_wp2_with (go_at_call 17; refine (right_any ⟨kind, ino, nm, ix⟩ _).mono ?_; rintro e w1 ⟨rfl, hb2⟩)
    go_ret2
    exact ⟨by rw [HM.out]; rfl, below_tr (below_al (Below.refl _ _)) hb2⟩
end Go.Proofs.Ytankjbppjabcoaa
