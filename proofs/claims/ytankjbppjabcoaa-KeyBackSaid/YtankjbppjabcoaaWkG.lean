import Derived.Test.YtankjbppjabcoaaWkF
namespace Go.Proofs.Ytankjbppjabcoaa
open Go.RowKit Ky

/-- Of which kinds there is a stretch. -/
def okU (kind : UInt8) (ino : Int) : Prop := (1 ≤ ino ∧ ino ≤ 1099511627776) ∧ (kind = 105 ∨ kind = 100 ∨ kind = 112 ∨ kind = 120)
instance (kind : UInt8) (ino : Int) : Decidable (okU kind ino) := by unfold okU; infer_instance
def lowU (kind : UInt8) (ino : Int) : Bs := if okU kind ino then kind :: fx (un ino) else []
def highU (kind : UInt8) (ino : Int) : Bs := if okU kind ino then kind :: fx (un (ino + 1)) else []
theorem under_of {kind : UInt8} {ino : Int} {l h : Bs} (H : (okU kind ino ∧ l = kind :: fx (un ino) ∧ h = kind :: fx (un (ino + 1))) ∨ (¬ okU kind ino ∧ l = [] ∧ h = [])) :
    Ending.returned (.tuple #[.string (S l), .string (S h)]) = .returned (.tuple #[.string (S (lowU kind ino)), .string (S (highU kind ino))]) := by
  unfold lowU highU
  rcases H with ⟨h, rfl, rfl⟩ | ⟨h, rfl, rfl⟩
  · rw [if_pos h, if_pos h]
  · rw [if_neg h, if_neg h]

theorem kinds_of {kind : UInt8} (h : kind = 105 ∨ kind = 100 ∨ kind = 112 ∨ kind = 120) : ((kind.toNat : Int) == 105) = true ∨ ((kind.toNat : Int) == 105) = false ∧ ((kind.toNat : Int) == 100) = true ∨ ((kind.toNat : Int) == 105) = false ∧ ((kind.toNat : Int) == 100) = false ∧ ((kind.toNat : Int) == 112) = true ∨ ((kind.toNat : Int) == 105) = false ∧ ((kind.toNat : Int) == 100) = false ∧ ((kind.toNat : Int) == 112) = false ∧ ((kind.toNat : Int) == 120) = true := by
  rcases h with rfl | rfl | rfl | rfl <;> decide
theorem rkinds_of {kind : UInt8} (h : kind = 105 ∨ kind = 100 ∨ kind = 112 ∨ kind = 120) : ((kind.toNat : Int) != 105) = false ∨ ((kind.toNat : Int) != 105) = true ∧ ((kind.toNat : Int) != 112) = false ∨ ((kind.toNat : Int) != 105) = true ∧ ((kind.toNat : Int) != 112) = true ∧ (decide (kind = 100 ∨ kind = 120)) = true := by
  rcases h with rfl | rfl | rfl | rfl <;> decide
theorem akinds_of (kind : UInt8) : ((kind.toNat : Int) != 105) = false ∨ ((kind.toNat : Int) != 105) = true ∧ ((kind.toNat : Int) != 112) = false ∨ ((kind.toNat : Int) != 105) = true ∧ ((kind.toNat : Int) != 112) = true ∧ (decide (kind = 100 ∨ kind = 120)) = true ∨ ((kind.toNat : Int) != 105) = true ∧ ((kind.toNat : Int) != 112) = true ∧ (decide (kind = 100 ∨ kind = 120)) = false := by
  cases ((kind.toNat : Int) != 105) <;> cases ((kind.toNat : Int) != 112) <;> cases (decide (kind = 100 ∨ kind = 120)) <;> simp
theorem named_to {b : Bool} (kind : UInt8) (w : World) (h : decide (kind = 100 ∨ kind = 120) = b) : Calls Try.prog 19 #[.int .u8 (kind.toNat : Int)] w fun e w' => e = .returned (.bool b) ∧ w = w' := h ▸ named_any kind w

set_option maxHeartbeats 1000000 in
theorem under_any (kind : UInt8) (ino : Int) (w : World) (hi : -9223372036854775808 ≤ ino ∧ ino ≤ 9223372036854775807) :
    Calls Try.prog 11 #[.int .u8 (kind.toNat : Int), .int .i64 ino] w fun e w' => e = .returned (.tuple #[.string (S (lowU kind ino)), .string (S (highU kind ino))]) ∧ Below w.heap.size w w' := by
  by_cases hr : 1 ≤ ino ∧ ino ≤ 1099511627776
  · have h1 : ¬ ino < 1 := by omega
    have h2 : ¬ 1099511627776 < ino := by omega
    have hw : IntKind.i64.wrap (ino + 1) = ino + 1 := by
      simp only [IntKind.wrap, IntKind.bits, IntKind.signed]; simp; omega
    by_cases hk : kind = 105 ∨ kind = 100 ∨ kind = 112 ∨ kind = 120
    · have HT := Lib.hid (⟨hr, hk⟩ : okU kind ino)
      have hks := kinds_of hk
      clear hr hk
      rcases hks with k1 | ⟨k1, k2⟩ | ⟨k1, k2, k3⟩ | ⟨k1, k2, k3, k4⟩
      all_goals
        go_enter Try.func11, Try.ntmps11
        go_wp2_with (first
          | (go_at_call 15; have hq := hf1; refine (numbered_any kind (ino + 1) _).mono ?_; rintro e w2 ⟨rfl, hb2⟩)
          | (go_at_call 15; refine (numbered_any kind ino _).mono ?_; rintro e w1 ⟨rfl, hb1⟩; have hf1 : True := trivial))
        go_ret2
        refine ⟨under_of (.inl ⟨HT.out, rfl, rfl⟩), ?_⟩
        repeat (first | exact Below.refl _ _ | (refine below_tr ?_ hb2) | (refine below_tr ?_ hb1))
    · have HT := Lib.hid (show ¬ okU kind ino from fun h => hk h.2)
      have k1 : ((kind.toNat : Int) == 105) = false := kind_ne (a := kind) (b := 105) (fun e => hk (.inl e))
      have k2 : ((kind.toNat : Int) == 100) = false := kind_ne (a := kind) (b := 100) (fun e => hk (.inr (.inl e)))
      have k3 : ((kind.toNat : Int) == 112) = false := kind_ne (a := kind) (b := 112) (fun e => hk (.inr (.inr (.inl e))))
      have k4 : ((kind.toNat : Int) == 120) = false := kind_ne (a := kind) (b := 120) (fun e => hk (.inr (.inr (.inr e))))
      clear hk hr
      go_enter Try.func11, Try.ntmps11
      go_wp2_with fail
      go_ret2
      exact ⟨under_of (l := []) (h := []) (.inr ⟨HT.out, rfl, rfl⟩), Below.refl _ _⟩
  · have HT := Lib.hid (show ¬ okU kind ino from fun h => hr h.1)
    by_cases h1 : ino < 1
    · go_enter Try.func11, Try.ntmps11
      go_wp2_with fail
      go_ret2
      exact ⟨under_of (l := []) (h := []) (.inr ⟨HT.out, rfl, rfl⟩), Below.refl _ _⟩
    · have h2 : 1099511627776 < ino := by omega
      go_enter Try.func11, Try.ntmps11
      go_wp2_with fail
      go_ret2
      exact ⟨under_of (l := []) (h := []) (.inr ⟨HT.out, rfl, rfl⟩), Below.refl _ _⟩

set_option maxHeartbeats 1000000 in
theorem runder_any (kind : UInt8) (ino : Int) (w : World) (hi : -9223372036854775808 ≤ ino ∧ ino ≤ 9223372036854775807) :
    Calls Try.prog 12 #[.int .u8 (kind.toNat : Int), .int .i64 ino] w fun e w' => e = .returned (.tuple #[.string (S (lowU kind ino)), .string (S (highU kind ino))]) ∧ Below w.heap.size w w' := by
  by_cases hr : 1 ≤ ino ∧ ino ≤ 1099511627776
  · have h1 : ¬ ino < 1 := by omega
    have h2 : ¬ 1099511627776 < ino := by omega
    have hw := un_wrap ino
    have hw2 : IntKind.u64.wrap ((un ino : Int) + 1) = (un (ino + 1) : Int) := by
      have := un_pos (z := ino) (by omega) (by omega)
      have := un_pos (z := ino + 1) (by omega) (by omega)
      simp only [IntKind.wrap, IntKind.bits, IntKind.signed]; simp; omega
    have hcv := conv_cell kind
    have hap := S_app
    have hsz := S_size
    have hfl := fx_length
    by_cases hk : kind = 105 ∨ kind = 100 ∨ kind = 112 ∨ kind = 120
    · have HT := Lib.hid (⟨hr, hk⟩ : okU kind ino)
      have hks := rkinds_of hk
      clear hr hk
      rcases hks with k1 | ⟨k1, k2⟩ | ⟨k1, k2, k3⟩
      all_goals
        go_enter Try.func12, Try.ntmps12
        go_wp2_with (first
          | (go_at_call 19; refine (named_to kind _ k3).mono ?_; rintro e w3 ⟨rfl, rfl⟩)
          | (go_at_call 18; have hq := hf1; refine (rfixed_any (un (ino + 1)) _ (un_lt _)).mono ?_; rintro e w2 ⟨rfl, hb2⟩)
          | (go_at_call 18; refine (rfixed_any (un ino) _ (un_lt _)).mono ?_; rintro e w1 ⟨rfl, hb1⟩; have hf1 : True := trivial))
        go_ret2
        refine ⟨under_of (.inl ⟨HT.out, rfl, rfl⟩), ?_⟩
        repeat (first | exact Below.refl _ _ | apply below_al | apply below_dr | (refine below_tr ?_ hb2) | (refine below_tr ?_ hb1))
    · have HT := Lib.hid (show ¬ okU kind ino from fun h => hk h.2)
      have hd : decide (kind = 100 ∨ kind = 120) = false := decide_eq_false fun h => h.elim (fun e => hk (.inr (.inl e))) (fun e => hk (.inr (.inr (.inr e))))
      have k1 : ((kind.toNat : Int) != 105) = true := by
        rw [bne, show ((kind.toNat : Int) == 105) = false from kind_ne (a := kind) (b := 105) (fun e => hk (.inl e))]; rfl
      have k2 : ((kind.toNat : Int) != 112) = true := by
        rw [bne, show ((kind.toNat : Int) == 112) = false from kind_ne (a := kind) (b := 112) (fun e => hk (.inr (.inr (.inl e))))]; rfl
      clear hk hr
      go_enter Try.func12, Try.ntmps12
      go_wp2_with (go_at_call 19; refine (named_to kind _ hd).mono ?_; rintro e w3 ⟨rfl, rfl⟩)
      go_ret2
      exact ⟨under_of (l := []) (h := []) (.inr ⟨HT.out, rfl, rfl⟩), Below.refl _ _⟩
  · have HT := Lib.hid (show ¬ okU kind ino from fun h => hr h.1)
    have hks := akinds_of kind
    by_cases h1 : ino < 1
    · rcases hks with k1 | ⟨k1, k2⟩ | ⟨k1, k2, k3⟩ | ⟨k1, k2, k3⟩
      all_goals
        clear hr
        go_enter Try.func12, Try.ntmps12
        go_wp2_with (go_at_call 19; refine (named_to kind _ k3).mono ?_; rintro e w3 ⟨rfl, rfl⟩)
        go_ret2
        exact ⟨under_of (l := []) (h := []) (.inr ⟨HT.out, rfl, rfl⟩), Below.refl _ _⟩
    · have h2 : 1099511627776 < ino := by omega
      rcases hks with k1 | ⟨k1, k2⟩ | ⟨k1, k2, k3⟩ | ⟨k1, k2, k3⟩
      all_goals
        clear hr
        go_enter Try.func12, Try.ntmps12
        go_wp2_with (go_at_call 19; refine (named_to kind _ k3).mono ?_; rintro e w3 ⟨rfl, rfl⟩)
        go_ret2
        exact ⟨under_of (l := []) (h := []) (.inr ⟨HT.out, rfl, rfl⟩), Below.refl _ _⟩
end Go.Proofs.Ytankjbppjabcoaa
