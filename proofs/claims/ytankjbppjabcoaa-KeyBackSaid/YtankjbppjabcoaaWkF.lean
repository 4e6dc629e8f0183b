import Derived.Test.YtankjbppjabcoaaWkE
namespace Go.Proofs.Ytankjbppjabcoaa
open Go.RowKit Ky

theorem made_a : made ⟨100, 1, [97], 0⟩ = ([100, 0, 0, 0, 0, 0, 0, 0, 1, 97], 0) := by decide +kernel
theorem made_n : made ⟨110, 0, [], 0⟩ = ([110], 0) := by decide +kernel
/-- Make's contract with its answer written out. -/
theorem make_to {kd : Int} (k : K) (kind : UInt8) (ino : Int) (nm : Bs) (ix : Int) (s : ByteArray) (t : Bs) (z : Int) (w : World) (hk : k = ⟨kind, ino, nm, ix⟩) (hkd : (kind.toNat : Int) = kd) (hs : S nm = s) (hnm : nm.length ≤ 140737488351232) (hm : made k = (t, z)) :
    Calls Try.prog 9 #[.agg #[.int .u8 kd, .int .i64 ino, .string s, .int .i64 ix]] w fun e w' => e = .returned (.tuple #[.string (S t), .int .i64 z]) ∧ Below w.heap.size w w' := by
  subst hk; subst hs; subst hkd
  have := make_any ⟨kind, ino, nm, ix⟩ w hnm
  rw [hm] at this
  exact this
theorem awake_any (w : World) : Calls Try.prog 8 #[] w fun e w' => e = .returned (.bool true) ∧ Below w.heap.size w w' := by
  have htl := S_tl
  go_enter Try.func8, Try.ntmps8
  go_wp2_with (first
    | (go_at_call_of 9 (Value.agg #[Value.int IntKind.u8 100, Value.int IntKind.i64 1, Value.string { data := #[97] }, Value.int IntKind.i64 0]); refine (make_to _ 100 1 [97] 0 _ _ _ _ rfl rfl rfl (by decide) made_a).mono ?_; rintro e w1 ⟨rfl, hb1⟩)
    | (go_at_call 9; refine (make_to _ 110 0 [] 0 _ _ _ _ rfl rfl rfl (by decide) made_n).mono ?_; rintro e w2 ⟨rfl, hb2⟩))
  go_ret
  exact ⟨rfl, below_tr hb1 hb2⟩

/-- The four cells of a box behind a call. -/
theorem box_on {w w1 : World} {g : Nat} {cs : Array Value} {t : TypeId} (h : Blk w g t cs) (hb : Below w.heap.size w w1) : Blk w1 g t cs := h.on hb

set_option maxHeartbeats 2000000 in
theorem keyMakes_walk (k : K) (w : World) (hnm : k.name.length ≤ 140737488351232) :
    Calls Try.prog 3 #[.agg #[.int .u8 (k.kind.toNat : Int), .int .i64 k.ino, .string (S k.name), .int .i64 k.index]] w fun e w' => e = .returned (.bool true) ∧ Below w.heap.size w w' := by
  obtain ⟨kind, ino, nm, ix⟩ := k
  have hsz := S_size
  obtain ⟨t, z, hm⟩ : ∃ t z, made ⟨kind, ino, nm, ix⟩ = (t, z) := ⟨_, _, rfl⟩
  have HM := Lib.hid hm
  clear hm
  go_enter Try.func3, Try.ntmps3
  go_wp2_with (first
    | (go_at_call 8; refine (awake_any _).mono ?_; rintro e w1 ⟨rfl, hb1⟩; have q0 := bcell hb1 w.heap.size 0 (by simp); have q1 := bcell hb1 w.heap.size 1 (by simp); have q2 := bcell hb1 w.heap.size 2 (by simp); have q3 := bcell hb1 w.heap.size 3 (by simp); have hl1 : w.heap.size < w1.heap.size := Nat.lt_of_lt_of_le (by simp) hb1.size)
    | (go_at_call 9; refine (make_to _ kind ino nm ix _ t z _ rfl rfl rfl hnm HM.out).mono ?_; rintro e w2 ⟨rfl, hb2⟩; have r0 := bcell hb2 w.heap.size 0 hl1; have r1 := bcell hb2 w.heap.size 1 hl1; have r2 := bcell hb2 w.heap.size 2 hl1; have r3 := bcell hb2 w.heap.size 3 hl1)
    | (go_at_call 10; refine (rmake_any ⟨kind, ino, nm, ix⟩ _ hnm).mono ?_; rw [HM.out]; rintro e w3 ⟨rfl, hb3⟩))
  all_goals
    go_ret
    refine ⟨by simp, ?_⟩
    repeat (first | exact Below.refl _ _ | apply below_al | (refine below_tr ?_ hb3) | (refine below_tr ?_ hb2) | (refine below_tr ?_ hb1))
end Go.Proofs.Ytankjbppjabcoaa
