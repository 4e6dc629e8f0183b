import Derived.Test.YtkddijipdldinaaDoorWkB
namespace Go.Proofs.YtkddijipdldinaaDoor
open Go.RowKit Crc

/-- j bits' steps. -/
def bsn : Nat → BitVec 32 → BitVec 32
  | 0, c => c
  | j + 1, c => bs (bsn j c)
theorem bsn_up (c : BitVec 32) (b : UInt8) : bsn 8 (c ^^^ ext b) = up c b := rfl
theorem and1_v (c : BitVec 32) : bits .and .u32 (v c) 1 = if c.getLsbD 0 then 1 else 0 := by
  unfold v bits
  have ha : BitVec.ofInt IntKind.u32.bits (c.toNat : Int) = c := by
    show BitVec.ofInt 32 _ = c
    rw [BitVec.ofInt_natCast, BitVec.ofNat_toNat]; simp
  simp only [ha]
  show IntKind.u32.wrap (((c &&& BitVec.ofInt 32 1) : BitVec 32).toNat : Int) = _
  have e : BitVec.ofInt 32 1 = 1#32 := by decide
  rw [IntKind.wrap_u32, e, BitVec.toNat_and]
  have h1 := Nat.and_two_pow_sub_one_eq_mod c.toNat 1
  have e1 : (2 ^ 1 - 1 : Nat) = (1#32).toNat := by decide
  rw [e1] at h1
  rw [h1]
  have h2 : c.getLsbD 0 = decide (c.toNat % 2 = 1) := by
    unfold BitVec.getLsbD
    rw [Nat.testBit_zero]
  rw [h2]
  by_cases h : c.toNat % 2 = 1 <;> simp [h]
  omega
theorem shr1_v (c : BitVec 32) : v c / (2 : Int) = v (c >>> (1 : Nat)) := by
  unfold v
  rw [BitVec.toNat_ushiftRight, Nat.shiftRight_eq_div_pow]
  omega
theorem P_v : (2197175160 : Int) = v P := by decide
theorem bs_one {c : BitVec 32} (h : c.getLsbD 0 = true) : bits .xor .u32 (v (c >>> (1 : Nat))) 2197175160 = v (bs c) := by
  rw [P_v, bits_xor_v]; unfold bs; rw [h]; rfl
theorem bs_none {c : BitVec 32} (h : c.getLsbD 0 = false) : v (c >>> (1 : Nat)) = v (bs c) := by rw [bs_even h]

theorem ref_any (c : BitVec 32) (s : ByteArray) (w : World) (hs : s.size ≤ maxLen) :
    Calls Tryd.prog 14 #[.int .u32 (v c), .string s] w fun e w' => e = .returned (.int .u32 (v (more c s.data.toList))) ∧ w = w' := by
  unfold maxLen at hs
  have hn := not_v c
  go_enter Tryd.func14, Tryd.ntmps14
  go_wp2
  go_loop [0, 5, 7] (fun cv i _ => ∃ k : Nat, k ≤ s.size ∧ i = .int .i64 k ∧ cv = .int .u32 (v (run (~~~c) (s.data.toList.take k)))) (fun _ i _ => s.size - (intOf i).toNat)
  case atStart => exact ⟨0, Nat.zero_le _, rfl, rfl⟩
  case round =>
    obtain ⟨k, hk, rfl, rfl⟩ := hrel
    by_cases hlt : k < s.size
    · have hS := run_snoc (~~~c) s.data.toList k (by simpa using hlt)
      have hg : s.data.toList[k]'(by simpa using hlt) = s[k] := rfl
      rw [hg, ← bsn_up] at hS
      have HS := Lib.hid hS
      clear hS hg
      have hx : bits .xor .u32 (v (run (~~~c) (s.data.toList.take k))) ((s[k].toNat : Int) % 4294967296) = v (run (~~~c) (s.data.toList.take k) ^^^ ext s[k]) := by
        have := s[k].toNat_lt
        rw [show (s[k].toNat : Int) % 4294967296 = v (ext s[k]) by rw [v_ext]; omega, bits_xor_v]
      go_wp2
      go_loop [0, 6, 7] (fun cv i _ => ∃ j : Nat, j ≤ 8 ∧ i = .int .i64 j ∧ cv = .int .u32 (v (bsn j (run (~~~c) (s.data.toList.take k) ^^^ ext s[k])))) (fun _ i _ => 8 - (intOf i).toNat)
      case atStart => exact ⟨0, Nat.zero_le _, rfl, rfl⟩
      case round =>
        obtain ⟨j, hj, rfl, rfl⟩ := hrel
        obtain ⟨d, hd⟩ : ∃ d, d = bsn j (run (~~~c) (s.data.toList.take k) ^^^ ext s[k]) := ⟨_, rfl⟩
        rw [← hd]
        by_cases hlj : j < 8
        · have hd1 : bsn (j + 1) (run (~~~c) (s.data.toList.take k) ^^^ ext s[k]) = bs d := by rw [hd]; rfl
          have HD := Lib.hid hd1
          clear hd hd1 hx
          have ha := and1_v d
          have hsh := shr1_v d
          cases hb : d.getLsbD 0 with
          | true =>
            rw [hb, if_pos rfl] at ha
            have hbs := bs_one hb
            clear hb
            go_wp2
            go_round
            case rel => exact ⟨j + 1, by omega, by go_num, by rw [HD.out]⟩
            case measure => simp [intOf]; omega
          | false =>
            rw [hb, if_neg (by simp)] at ha
            have HB := Lib.hid (bs_none hb)
            clear hb
            go_wp2
            go_round
            case rel => exact ⟨j + 1, by omega, by go_num, by rw [HD.out, HB.out]⟩
            case measure => simp [intOf]; omega
        · have e : j = 8 := by omega
          subst e
          have HD := Lib.hid hd
          clear hd hx
          go_wp2
          go_round
          case rel => exact ⟨k + 1, by omega, by go_num, by rw [HS.out, HD.out]⟩
          case measure => simp [intOf]; omega
    · have hn2 := not_v (run (~~~c) (s.data.toList.take k))
      go_wp2
      go_ret
      have e : k = s.size := by omega
      subst e
      exact ⟨by rw [List.take_of_length_le (by simp)]; rfl, rfl⟩
theorem refsum_any (s : ByteArray) (w : World) (hs : s.size ≤ maxLen) :
    Calls Tryd.prog 9 #[.string s] w fun e w' => e = .returned (.int .u32 (v (sum s.data.toList))) ∧ w = w' := by
  have h0 : (0 : Int) = v 0#32 := by decide
  have H := ref_any 0#32 s w hs
  rw [← h0] at H
  clear h0
  go_enter Tryd.func9, Tryd.ntmps9
  go_wp2_with (go_at_call 14; refine H.mono ?_; rintro e w' ⟨rfl, rfl⟩)
  go_ret
  exact ⟨rfl, rfl⟩
theorem sum_awake : v (sum [49, 50, 51, 52, 53, 54, 55, 56, 57]) = 3808858755 := by decide +kernel
theorem awake_any (w : World) (hT : Tab w) : Calls Tryd.prog 8 #[] w fun e w' => e = .returned (.bool true) ∧ w = w' := by
  obtain ⟨z, hz⟩ : ∃ z, z = v (sum [49, 50, 51, 52, 53, 54, 55, 56, 57]) := ⟨_, rfl⟩
  have hb : (z == 3808858755) = true := by rw [hz, sum_awake]; rfl
  have H := text_any { data := #[49, 50, 51, 52, 53, 54, 55, 56, 57] } w hT (by decide)
  rw [← hz] at H
  clear hz
  go_enter Tryd.func8, Tryd.ntmps8
  go_wp2_with (go_at_call 12; refine H.mono ?_; rintro e w' ⟨rfl, rfl⟩)
  go_ret
  exact ⟨rfl, rfl⟩
end Go.Proofs.YtkddijipdldinaaDoor
