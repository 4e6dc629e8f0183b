import Derived.Test.YtankjbppjabcoaaWkO
namespace Go.Proofs.Ytankjbppjabcoaa
open Go.RowKit Ky

set_option maxHeartbeats 1000000 in
theorem keyParses_hole (s : Bs) (w : World) :
    Calls Try.prog 6 #[.string (S s)] w fun e w' => e = .returned (.bool true) ∧ Below w.heap.size w w' := by
  have hsz := S_size
  have htl := S_tl
  by_cases hl : 4096 < s.length
  · go_enter Try.func6, Try.ntmps6
    go_wp2_with (go_at_call 8; refine (awake_any _).mono ?_; rintro e w1 ⟨rfl, hb1⟩)
    go_ret
    exact ⟨rfl, hb1⟩
  · have hs : s.length ≤ 140737488351232 := by omega
    obtain ⟨kind, ino, nm, ix, z, hr⟩ : ∃ kind ino nm ix z, Hid (res (cand s) s = (⟨kind, ino, nm, ix⟩, z)) := ⟨_, _, _, _, _, rfl⟩
    go_enter Try.func6, Try.ntmps6
    go_wp2_with (first
      | (go_at_call 8; refine (awake_any _).mono ?_; rintro e w1 ⟨rfl, hb1⟩)
      | (go_at_call 13; refine (parse_to s kind ino nm ix z _ hs hr.out).mono ?_; rintro e w2 ⟨rfl, hb2⟩)
      | (go_at_call 14; refine (rparse_to s kind ino nm ix z _ hs hr.out).mono ?_; rintro e w3 ⟨rfl, hb3⟩
         have hK := (Blk.new w2 #[.int .u8 (kind.toNat : Int), .int .i64 ino, .string (S nm), .int .i64 ix] 23).on hb3
         have hl3 : w2.heap.size < w3.heap.size := Nat.lt_of_lt_of_le (by simp) hb3.size
         obtain ⟨x0, x1, x2, x3, y0, y1, y2, y3⟩ := four hK))
    go_ret
    refine ⟨by simp, ?_⟩
    repeat (first | exact Below.refl _ _ | apply below_al | (refine below_tr ?_ hb3) | (refine below_tr ?_ hb2) | (refine below_tr ?_ hb1))
end Go.Proofs.Ytankjbppjabcoaa
