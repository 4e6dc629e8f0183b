import Derived.Test.YtankjbppjabcoaaHoOrder
import Derived.Test.YtankjbppjabcoaaWkG
namespace Go.Proofs.Ytankjbppjabcoaa
open Go.RowKit Ky

theorem under_to (kind : UInt8) (ino : Int) (w : World) (la ha : Bs) (hi : I64 ino) (hl : lowU kind ino = la) (hh : highU kind ino = ha) :
    Calls Try.prog 11 #[.int .u8 (kind.toNat : Int), .int .i64 ino] w fun e w' => e = .returned (.tuple #[.string (S la), .string (S ha)]) ∧ Below w.heap.size w w' := by
  subst hl; subst hh; exact under_any kind ino w hi
theorem runder_to (kind : UInt8) (ino : Int) (w : World) (la ha : Bs) (hi : I64 ino) (hl : lowU kind ino = la) (hh : highU kind ino = ha) :
    Calls Try.prog 12 #[.int .u8 (kind.toNat : Int), .int .i64 ino] w fun e w' => e = .returned (.tuple #[.string (S la), .string (S ha)]) ∧ Below w.heap.size w w' := by
  subst hl; subst hh; exact runder_any kind ino w hi

set_option maxHeartbeats 2000000 in
theorem under_skip (ak : UInt8) (ai ax : Int) (an : Bs) (kind : UInt8) (ino : Int) (la ha t : Bs) (z : Int) (w : World) (hnm : an.length ≤ 140737488351232) (hino : I64 ino)
    (HL : Hid (lowU kind ino = la)) (HH : Hid (highU kind ino = ha)) (HM : Hid (made ⟨ak, ai, an, ax⟩ = (t, z))) (hz : (z != 0) = true ∨ (z != 0) = false ∧ ((ak.toNat : Int) == 110) = true) :
    Calls Try.prog 5 #[.agg #[.int .u8 (ak.toNat : Int), .int .i64 ai, .string (S an), .int .i64 ax], .int .u8 (kind.toNat : Int), .int .i64 ino] w fun e w' => e = .returned (.bool true) ∧ Below w.heap.size w w' := by
  have hsz := S_size
  have htl := S_tl
  rcases hz with hz | ⟨hz, hk⟩
  all_goals
    go_enter Try.func5, Try.ntmps5
    go_wp2_with (first
      | (go_at_call 8; refine (awake_any _).mono ?_; rintro e w1 ⟨rfl, hb1⟩; have q0 := bcell hb1 w.heap.size 0 (by first | assumption | (simp; done) | (simp; omega) | omega); have q1 := bcell hb1 w.heap.size 1 (by first | assumption | (simp; done) | (simp; omega) | omega); have q2 := bcell hb1 w.heap.size 2 (by first | assumption | (simp; done) | (simp; omega) | omega); have q3 := bcell hb1 w.heap.size 3 (by first | assumption | (simp; done) | (simp; omega) | omega); have hl1 : w.heap.size < w1.heap.size := Nat.lt_of_lt_of_le (by first | assumption | (simp; done) | (simp; omega) | omega) hb1.size)
      | (go_at_call 12; refine (runder_to kind ino _ la ha hino HL.out HH.out).mono ?_; rintro e w3 ⟨rfl, hb3⟩; have s0 := bcell hb3 w.heap.size 0 (by first | assumption | (simp; done) | (simp; omega) | omega); have s1 := bcell hb3 w.heap.size 1 (by first | assumption | (simp; done) | (simp; omega) | omega); have s2 := bcell hb3 w.heap.size 2 (by first | assumption | (simp; done) | (simp; omega) | omega); have s3 := bcell hb3 w.heap.size 3 (by first | assumption | (simp; done) | (simp; omega) | omega); have hl3 : w.heap.size < w3.heap.size := Nat.lt_of_lt_of_le (by first | assumption | (simp; done) | (simp; omega) | omega) hb3.size)
      | (go_at_call 9; refine (make_to _ ak ai an ax _ t z _ rfl rfl rfl hnm HM.out).mono ?_; rintro e w4 ⟨rfl, hb4⟩; have u0 := bcell hb4 w.heap.size 0 (by first | assumption | (simp; done) | (simp; omega) | omega); have u1 := bcell hb4 w.heap.size 1 (by first | assumption | (simp; done) | (simp; omega) | omega); have u2 := bcell hb4 w.heap.size 2 (by first | assumption | (simp; done) | (simp; omega) | omega); have u3 := bcell hb4 w.heap.size 3 (by first | assumption | (simp; done) | (simp; omega) | omega); have hl4 : w.heap.size < w4.heap.size := Nat.lt_of_lt_of_le (by first | assumption | (simp; done) | (simp; omega) | omega) hb4.size)
      | (go_at_call 11; refine (under_to kind ino _ la ha hino HL.out HH.out).mono ?_; rintro e w2 ⟨rfl, hb2⟩; have r0 := bcell hb2 w.heap.size 0 (by first | assumption | (simp; done) | (simp; omega) | omega); have r1 := bcell hb2 w.heap.size 1 (by first | assumption | (simp; done) | (simp; omega) | omega); have r2 := bcell hb2 w.heap.size 2 (by first | assumption | (simp; done) | (simp; omega) | omega); have r3 := bcell hb2 w.heap.size 3 (by first | assumption | (simp; done) | (simp; omega) | omega); have hl2 : w.heap.size < w2.heap.size := Nat.lt_of_lt_of_le (by first | assumption | (simp; done) | (simp; omega) | omega) hb2.size))
    go_ret
    refine ⟨by simp, ?_⟩
    repeat (first | exact Below.refl _ _ | apply below_al | (refine below_tr ?_ hb5) | (refine below_tr ?_ hb4) | (refine below_tr ?_ hb3) | (refine below_tr ?_ hb2) | (refine below_tr ?_ hb1))

set_option maxHeartbeats 2000000 in
theorem under_walk (ak : UInt8) (ai ax : Int) (an : Bs) (kind : UInt8) (ino : Int) (la ha t l2 h2 : Bs) (z : Int) (w : World) (hnm : an.length ≤ 140737488351232) (hino : I64 ino) (hai : I64 ai)
    (HL : Hid (lowU kind ino = la)) (HH : Hid (highU kind ino = ha)) (HL2 : Hid (lowU ak ai = l2)) (HH2 : Hid (highU ak ai = h2)) (HM : Hid (made ⟨ak, ai, an, ax⟩ = (t, z))) (hz : (z != 0) = false) (hk : ((ak.toNat : Int) == 110) = false) (y1 : Op.bytesLess t l2 = false) (y2 : Op.bytesLess t h2 = true)
    (hc : (la == []) = true ∨ (la == []) = false ∧ (Op.bytesLess t la = false ∧ Op.bytesLess t ha = true ∧ ((ak.toNat : Int) == (kind.toNat : Int)) = true ∧ (ai == ino) = true ∨
      Op.bytesLess t la = true ∧ ((ak.toNat : Int) == (kind.toNat : Int)) = false ∨ Op.bytesLess t la = true ∧ ((ak.toNat : Int) == (kind.toNat : Int)) = true ∧ (ai == ino) = false ∨
      Op.bytesLess t la = false ∧ Op.bytesLess t ha = false ∧ ((ak.toNat : Int) == (kind.toNat : Int)) = false ∨ Op.bytesLess t la = false ∧ Op.bytesLess t ha = false ∧ ((ak.toNat : Int) == (kind.toNat : Int)) = true ∧ (ai == ino) = false)) :
    Calls Try.prog 5 #[.agg #[.int .u8 (ak.toNat : Int), .int .i64 ai, .string (S an), .int .i64 ax], .int .u8 (kind.toNat : Int), .int .i64 ino] w fun e w' => e = .returned (.bool true) ∧ Below w.heap.size w w' := by
  have hsz := S_size
  have htl := S_tl
  rcases hc with hc | ⟨hc, ⟨c1, c2, c3, c4⟩ | ⟨c1, c3⟩ | ⟨c1, c3, c4⟩ | ⟨c1, c2, c3⟩ | ⟨c1, c2, c3, c4⟩⟩
  all_goals
    go_enter Try.func5, Try.ntmps5
    go_wp2_with (first
      | (go_at_call 8; refine (awake_any _).mono ?_; rintro e w1 ⟨rfl, hb1⟩; have q0 := bcell hb1 w.heap.size 0 (by first | assumption | (simp; done) | (simp; omega) | omega); have q1 := bcell hb1 w.heap.size 1 (by first | assumption | (simp; done) | (simp; omega) | omega); have q2 := bcell hb1 w.heap.size 2 (by first | assumption | (simp; done) | (simp; omega) | omega); have q3 := bcell hb1 w.heap.size 3 (by first | assumption | (simp; done) | (simp; omega) | omega); have hl1 : w.heap.size < w1.heap.size := Nat.lt_of_lt_of_le (by first | assumption | (simp; done) | (simp; omega) | omega) hb1.size)
      | (go_at_call 12; refine (runder_to kind ino _ la ha hino HL.out HH.out).mono ?_; rintro e w3 ⟨rfl, hb3⟩; have s0 := bcell hb3 w.heap.size 0 (by first | assumption | (simp; done) | (simp; omega) | omega); have s1 := bcell hb3 w.heap.size 1 (by first | assumption | (simp; done) | (simp; omega) | omega); have s2 := bcell hb3 w.heap.size 2 (by first | assumption | (simp; done) | (simp; omega) | omega); have s3 := bcell hb3 w.heap.size 3 (by first | assumption | (simp; done) | (simp; omega) | omega); have hl3 : w.heap.size < w3.heap.size := Nat.lt_of_lt_of_le (by first | assumption | (simp; done) | (simp; omega) | omega) hb3.size)
      | (go_at_call 9; refine (make_to _ ak ai an ax _ t z _ rfl rfl rfl hnm HM.out).mono ?_; rintro e w4 ⟨rfl, hb4⟩; have u0 := bcell hb4 w.heap.size 0 (by first | assumption | (simp; done) | (simp; omega) | omega); have u1 := bcell hb4 w.heap.size 1 (by first | assumption | (simp; done) | (simp; omega) | omega); have u2 := bcell hb4 w.heap.size 2 (by first | assumption | (simp; done) | (simp; omega) | omega); have u3 := bcell hb4 w.heap.size 3 (by first | assumption | (simp; done) | (simp; omega) | omega); have hl4 : w.heap.size < w4.heap.size := Nat.lt_of_lt_of_le (by first | assumption | (simp; done) | (simp; omega) | omega) hb4.size)
      | (go_at_call 11; have hq := hl2; refine (under_to ak ai _ l2 h2 hai HL2.out HH2.out).mono ?_; rintro e w5 ⟨rfl, hb5⟩; have v0 := bcell hb5 w.heap.size 0 (by first | assumption | (simp; done) | (simp; omega) | omega); have v1 := bcell hb5 w.heap.size 1 (by first | assumption | (simp; done) | (simp; omega) | omega); have v2 := bcell hb5 w.heap.size 2 (by first | assumption | (simp; done) | (simp; omega) | omega); have v3 := bcell hb5 w.heap.size 3 (by first | assumption | (simp; done) | (simp; omega) | omega); have hl5 : w.heap.size < w5.heap.size := Nat.lt_of_lt_of_le (by first | assumption | (simp; done) | (simp; omega) | omega) hb5.size)
      | (go_at_call 11; refine (under_to kind ino _ la ha hino HL.out HH.out).mono ?_; rintro e w2 ⟨rfl, hb2⟩; have r0 := bcell hb2 w.heap.size 0 (by first | assumption | (simp; done) | (simp; omega) | omega); have r1 := bcell hb2 w.heap.size 1 (by first | assumption | (simp; done) | (simp; omega) | omega); have r2 := bcell hb2 w.heap.size 2 (by first | assumption | (simp; done) | (simp; omega) | omega); have r3 := bcell hb2 w.heap.size 3 (by first | assumption | (simp; done) | (simp; omega) | omega); have hl2 : w.heap.size < w2.heap.size := Nat.lt_of_lt_of_le (by first | assumption | (simp; done) | (simp; omega) | omega) hb2.size))
    go_ret
    refine ⟨by simp, ?_⟩
    repeat (first | exact Below.refl _ _ | apply below_al | (refine below_tr ?_ hb5) | (refine below_tr ?_ hb4) | (refine below_tr ?_ hb3) | (refine below_tr ?_ hb2) | (refine below_tr ?_ hb1))

theorem less_nil (l : Bs) : Op.bytesLess l [] = false := by cases l <;> rfl
theorem okU_of {k : K} (r : right k) (h : k.kind ≠ 110) : okU k.kind k.ino := by
  rcases r with ⟨h1, _⟩ | ⟨⟨h1, h2⟩, (⟨h3 | h3, _⟩ | ⟨h3, _⟩ | ⟨h3, _⟩)⟩
  · exact absurd h1 h
  · exact ⟨⟨by omega, h2⟩, .inr (.inl h3)⟩
  · exact ⟨⟨by omega, h2⟩, .inr (.inr (.inr h3))⟩
  · exact ⟨⟨by omega, h2⟩, .inr (.inr (.inl h3))⟩
  · exact ⟨⟨by omega, h2⟩, .inl h3⟩
theorem less_fx_self (n : Nat) (l : Bs) : Op.bytesLess (fx n ++ l) (fx n) = false := by
  have := less_pre (fx n) l []
  rw [List.append_nil] at this
  rw [this, less_nil]
theorem less_fx_to (n m : Nat) (l : Bs) (hn : n < 18446744073709551616) (hm : m < 18446744073709551616) (h : n ≠ m) : Op.bytesLess (fx n ++ l) (fx m) = decide (n < m) := by
  have := less_fx n m l [] hn hm h
  rwa [List.append_nil] at this
theorem under_plain {k : K} (r : right k) (h : k.kind ≠ 110) (kind : UInt8) (ino : Int) :
    ((lowU kind ino == []) = true ∨ (lowU kind ino == []) = false ∧ (Op.bytesLess (text k) (lowU kind ino) = false ∧ Op.bytesLess (text k) (highU kind ino) = true ∧ ((k.kind.toNat : Int) == (kind.toNat : Int)) = true ∧ (k.ino == ino) = true ∨
      Op.bytesLess (text k) (lowU kind ino) = true ∧ ((k.kind.toNat : Int) == (kind.toNat : Int)) = false ∨ Op.bytesLess (text k) (lowU kind ino) = true ∧ ((k.kind.toNat : Int) == (kind.toNat : Int)) = true ∧ (k.ino == ino) = false ∨
      Op.bytesLess (text k) (lowU kind ino) = false ∧ Op.bytesLess (text k) (highU kind ino) = false ∧ ((k.kind.toNat : Int) == (kind.toNat : Int)) = false ∨ Op.bytesLess (text k) (lowU kind ino) = false ∧ Op.bytesLess (text k) (highU kind ino) = false ∧ ((k.kind.toNat : Int) == (kind.toNat : Int)) = true ∧ (k.ino == ino) = false)) := by
  by_cases hok : okU kind ino
  · right
    have hl : lowU kind ino = kind :: fx (un ino) := by unfold lowU; rw [if_pos hok]
    have hh : highU kind ino = kind :: fx (un (ino + 1)) := by unfold highU; rw [if_pos hok]
    obtain ⟨ht, k0, k1⟩ := text_o h r
    rw [hl, hh, ht]
    refine ⟨rfl, ?_⟩
    by_cases hk : k.kind = kind
    · have hkk : ((k.kind.toNat : Int) == (kind.toNat : Int)) = true := by rw [hk, beq_self_eq_true]
      obtain ⟨⟨o0, o1⟩, _⟩ := hok
      have u1 := un_pos (z := k.ino) (by omega) (by omega)
      have u2 := un_pos (z := ino) (by omega) (by omega)
      have u3 := un_pos (z := ino + 1) (by omega) (by omega)
      have l1 := un_lt k.ino
      have l2 := un_lt ino
      have l3 := un_lt (ino + 1)
      subst hk
      rw [less_eq, less_eq]
      rcases Int.lt_trichotomy k.ino ino with hi | hi | hi
      · exact .inr (.inr (.inl ⟨by rw [less_fx_to _ _ _ l1 l2 (by omega)]; exact decide_eq_true (by omega), hkk, by rw [beq_eq_false_iff_ne]; omega⟩))
      · refine .inl ⟨?_, ?_, hkk, by rw [hi, beq_self_eq_true]⟩
        · rw [hi, less_fx_self]
        · rw [less_fx_to _ _ _ l1 l3 (by omega)]; exact decide_eq_true (by omega)
      · refine .inr (.inr (.inr (.inr ⟨?_, ?_, hkk, by rw [beq_eq_false_iff_ne]; omega⟩)))
        · rw [less_fx_to _ _ _ l1 l2 (by omega)]; exact decide_eq_false (by omega)
        · by_cases e : k.ino = ino + 1
          · rw [e, less_fx_self]
          · rw [less_fx_to _ _ _ l1 l3 (by omega)]; exact decide_eq_false (by omega)
    · have hkk : ((k.kind.toNat : Int) == (kind.toNat : Int)) = false := kind_ne hk
      rw [less_ne _ _ hk, less_ne _ _ hk]
      by_cases hlt : k.kind.toNat < kind.toNat
      · exact .inr (.inl ⟨decide_eq_true hlt, hkk⟩)
      · exact .inr (.inr (.inr (.inl ⟨decide_eq_false hlt, decide_eq_false hlt, hkk⟩)))
  · left
    unfold lowU
    rw [if_neg hok]; rfl

theorem keyUnder_main (k : K) (kind : UInt8) (ino : Int) (w : World) (sa : k.name.length ≤ 140737488351232) (ha : I64 k.ino) (hi : I64 ino) :
    Calls Try.prog 5 #[kv k, .int .u8 (kind.toNat : Int), .int .i64 ino] w fun e w' => e = .returned (.bool true) ∧ Below w.heap.size w w' := by
  obtain ⟨t, z, m, e⟩ := made_zero k
  by_cases r : right k
  · have hz : (z != 0) = false := by rw [bne, e.2 r]; rfl
    have hm : made k = (text k, 0) := by unfold made; rw [if_pos r]
    have hz0 : z = 0 := by simpa using hz
    have ht : t = text k := by rw [m] at hm; exact congrArg Prod.fst hm
    subst hz0; subst ht
    by_cases h110 : k.kind = 110
    · exact under_skip _ _ _ _ kind ino _ _ _ _ w sa hi rfl rfl m (.inr ⟨rfl, by rw [h110]; rfl⟩)
    · have hok := okU_of r h110
      obtain ⟨ht, k0, k1⟩ := text_o h110 r
      refine under_walk _ _ _ _ kind ino _ _ _ _ _ _ w sa hi ha rfl rfl rfl rfl m rfl (kind_ne h110) ?_ ?_ (under_plain r h110 kind ino)
      · unfold lowU; rw [if_pos hok, ht, less_eq, less_fx_self]
      · have u1 := un_pos (z := k.ino) (by omega) (by omega)
        have u3 := un_pos (z := k.ino + 1) (by omega) (by omega)
        unfold highU; rw [if_pos hok, ht, less_eq, less_fx_to _ _ _ (un_lt _) (un_lt _) (by omega)]
        exact decide_eq_true (by omega)
  · have hz : (z != 0) = true := by
      rw [bne, Bool.eq_false_iff.2 fun h => r (e.1 h)]; rfl
    exact under_skip _ _ _ _ kind ino _ _ _ _ w sa hi rfl rfl m (.inl hz)
theorem keyUnder_hole (k : K) (kind : UInt8) (ino : Int) (w : World) (sa : k.name.length ≤ 140737488351232) (ha : I64 k.ino) (_ : I64 k.index) (hi : I64 ino) :
    Calls Try.prog 5 #[kv k, .int .u8 (kind.toNat : Int), .int .i64 ino] w fun e w' => e = .returned (.bool true) ∧ Below w.heap.size w w' := keyUnder_main k kind ino w sa ha hi
end Go.Proofs.Ytankjbppjabcoaa
