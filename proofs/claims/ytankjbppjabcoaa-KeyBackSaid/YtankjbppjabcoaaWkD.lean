import Derived.Test.YtankjbppjabcoaaWkC
namespace Go.Proofs.Ytankjbppjabcoaa
open Go.RowKit Ky

theorem named_any (kind : UInt8) (w : World) : Calls Try.prog 19 #[.int .u8 (kind.toNat : Int)] w fun e w' => e = .returned (.bool (decide (kind = 100 ∨ kind = 120))) ∧ w = w' := by
  by_cases h1 : kind = 100
  · subst h1
    go_enter Try.func19, Try.ntmps19
    go_wp2
    go_ret
    exact ⟨rfl, rfl⟩
  · have k1 : ((kind.toNat : Int) == 100) = false := kind_ne h1
    by_cases h2 : kind = 120
    · subst h2
      clear h1 k1
      go_enter Try.func19, Try.ntmps19
      go_wp2
      go_ret
      exact ⟨rfl, rfl⟩
    · have k2 : ((kind.toNat : Int) == 120) = false := kind_ne h2
      have hd := Lib.hid (show decide (kind = 100 ∨ kind = 120) = false by simp [h1, h2])
      clear h1 h2
      go_enter Try.func19, Try.ntmps19
      go_wp2
      go_ret
      exact ⟨by rw [hd.out]; rfl, rfl⟩

theorem named_lit {n : Int} {b : Bool} (kind : UInt8) (hn : (kind.toNat : Int) = n) (hb : decide (kind = 100 ∨ kind = 120) = b) (w : World) : Calls Try.prog 19 #[.int .u8 n] w fun e w' => e = .returned (.bool b) ∧ w = w' := by
  subst hn; subst hb
  exact named_any kind w
theorem right_of {k : K} {b : Bool} (h : (b = true ↔ right k)) : Ending.returned (.bool b) = .returned (.bool (decide (right k))) := by
  have : b = decide (right k) := by rw [Bool.eq_iff_iff, h]; simp
  rw [this]

set_option maxHeartbeats 4000000 in
theorem right_any (k : K) (w : World) :
    Calls Try.prog 17 #[.agg #[.int .u8 (k.kind.toNat : Int), .int .i64 k.ino, .string (S k.name), .int .i64 k.index]] w fun e w' => e = .returned (.bool (decide (right k))) ∧ Below w.heap.size w w' := by
  obtain ⟨kind, ino, nm, ix⟩ := k
  have htl := S_tl
  have hsz := S_size
  by_cases hk : kind = 110
  · subst hk
    go_enter Try.func17, Try.ntmps17
    go_wp2_with (go_at_call 19; refine (named_any _ _).mono ?_; rintro e w' ⟨rfl, rfl⟩)
    all_goals
      go_ret
      refine ⟨right_of ?_, ?_⟩
      · rcases Classical.em (nm = []) with hn | hn
        · subst hn
          simp_all [right, rightI]
          try omega
        · have hn0 := List.length_pos_iff.2 hn
          simp_all [right, rightI]
          try omega
      · repeat (first | exact Below.refl _ _ | apply below_al)
  · have k110 : ((kind.toNat : Int) == 110) = false := kind_ne hk
    by_cases h100 : kind = 100
    · subst h100
      go_enter Try.func17, Try.ntmps17
      go_wp2_with (go_at_call 19; (with_reducible refine (named_lit (n := 100) (b := true) 100 rfl rfl _).mono ?_); rintro e w' ⟨rfl, rfl⟩)
      all_goals
        go_ret
        refine ⟨right_of ?_, ?_⟩
        · rcases Classical.em (nm = []) with hn | hn
          · subst hn
            simp_all [right, rightI]
            try omega
          · have hn0 := List.length_pos_iff.2 hn
            simp_all [right, rightI]
            try omega
        · repeat (first | exact Below.refl _ _ | apply below_al)
    · have k100 : ((kind.toNat : Int) == 100) = false := kind_ne h100
      by_cases h120 : kind = 120
      · subst h120
        go_enter Try.func17, Try.ntmps17
        go_wp2_with (go_at_call 19; (with_reducible refine (named_lit (n := 120) (b := true) 120 rfl rfl _).mono ?_); rintro e w' ⟨rfl, rfl⟩)
        all_goals
          go_ret
          refine ⟨right_of ?_, ?_⟩
          · rcases Classical.em (nm = []) with hn | hn
            · subst hn
              simp_all [right, rightI]
              try omega
            · have hn0 := List.length_pos_iff.2 hn
              simp_all [right, rightI]
              try omega
          · repeat (first | exact Below.refl _ _ | apply below_al)
      · by_cases h112 : kind = 112
        · subst h112
          go_enter Try.func17, Try.ntmps17
          go_wp2_with (go_at_call 19; (with_reducible refine (named_lit (n := 112) (b := false) 112 rfl rfl _).mono ?_); rintro e w' ⟨rfl, rfl⟩)
          all_goals
            go_ret
            refine ⟨right_of ?_, ?_⟩
            · rcases Classical.em (nm = []) with hn | hn
              · subst hn
                simp_all [right, rightI]
                try omega
              · have hn0 := List.length_pos_iff.2 hn
                simp_all [right, rightI]
                try omega
            · repeat (first | exact Below.refl _ _ | apply below_al)
        · have k112 : ((kind.toNat : Int) == 112) = false := kind_ne h112
          by_cases h105 : kind = 105
          · subst h105
            go_enter Try.func17, Try.ntmps17
            go_wp2_with (go_at_call 19; (with_reducible refine (named_lit (n := 105) (b := false) 105 rfl rfl _).mono ?_); rintro e w' ⟨rfl, rfl⟩)
            all_goals
              go_ret
              refine ⟨right_of ?_, ?_⟩
              · rcases Classical.em (nm = []) with hn | hn
                · subst hn
                  simp_all [right, rightI]
                  try omega
                · have hn0 := List.length_pos_iff.2 hn
                  simp_all [right, rightI]
                  try omega
              · repeat (first | exact Below.refl _ _ | apply below_al)
          · have k105 : ((kind.toNat : Int) == 105) = false := kind_ne h105
            go_enter Try.func17, Try.ntmps17
            go_wp2_with (go_at_call 19; refine (named_any _ _).mono ?_; rintro e w' ⟨rfl, rfl⟩)
            all_goals
              go_ret
              refine ⟨right_of ?_, ?_⟩
              · rcases Classical.em (nm = []) with hn | hn
                · subst hn
                  simp_all [right, rightI]
                  try omega
                · have hn0 := List.length_pos_iff.2 hn
                  simp_all [right, rightI]
                  try omega
              · repeat (first | exact Below.refl _ _ | apply below_al)
end Go.Proofs.Ytankjbppjabcoaa
