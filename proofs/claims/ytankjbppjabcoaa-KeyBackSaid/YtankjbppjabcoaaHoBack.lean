import Derived.Test.YtankjbppjabcoaaWkO
import Derived.Test.YtankjbppjabcoaaFrame
namespace Go.Proofs.Ytankjbppjabcoaa
open Go.RowKit Ky

theorem wrap_un {z : Int} (h0 : 0 ≤ z) (h1 : z < 9223372036854775808) : wrap64 ((un z : Nat) : Int) = z := by
  rw [wrap_id (by rw [un_pos h0 (by omega)]; omega), un_pos h0 (by omega)]
  omega
theorem take_fx (n : Nat) (l : Bs) : (fx n ++ l).take 8 = fx n := by
  rw [List.take_append_of_le_length (by simp [fx_length]), List.take_of_length_le (by simp [fx_length])]
theorem drop_fx (n : Nat) (l : Bs) : (fx n ++ l).drop 8 = l := by
  rw [List.drop_append_of_le_length (by simp [fx_length]), List.drop_of_length_le (by simp [fx_length])]
  rfl
theorem cand_text {k : K} (r : right k) : cand (text k) = k := by
  by_cases hk : k.kind = 110
  · obtain ⟨ht, h1, h2, h3⟩ := text_n hk r
    rw [ht, cand_n rfl]
    cases k
    simp_all
  · obtain ⟨ht, h0, h1⟩ := text_o hk r
    have hd1 : ((k.kind :: (fx (un k.ino) ++ tail k)).drop 1).take 8 = fx (un k.ino) := take_fx (un k.ino) (tail k)
    have hd9 : (k.kind :: (fx (un k.ino) ++ tail k)).drop 9 = tail k := drop_fx (un k.ino) (tail k)
    rw [ht, cand_o hk, hd1, hd9, val_fx _ (un_lt _), wrap_un (by omega) (by omega)]
    rcases tail_of hk r with ⟨k1, t1, n1, i1, j1⟩ | ⟨k1, t1, x1⟩
    · have n2 : ¬ (k.kind = 100 ∨ k.kind = 120) := by rw [k1]; decide
      have ht8 : (tail k).take 8 = fx (un k.index) := by rw [t1]; rfl
      rw [if_neg n2, if_pos k1, ht8, val_fx _ (un_lt _), wrap_un i1 (by omega)]
      cases k
      simp_all
    · rw [if_neg k1, t1]
      by_cases n2 : k.kind = 100 ∨ k.kind = 120
      · rw [if_pos n2]
        cases k
        simp_all
      · rw [if_neg n2]
        have hn : k.name = [] := by
          rcases r with ⟨h, _⟩ | ⟨_, (⟨h, _⟩ | ⟨_, h, _⟩ | ⟨_, h, _⟩)⟩
          · exact absurd h hk
          · exact absurd h n2
          · exact h
          · exact h
        cases k
        simp_all
theorem made_right {k : K} (r : right k) : made k = (text k, 0) := by unfold made; rw [if_pos r]
theorem made_wrong {k : K} (r : ¬ right k) : made k = ([], 81) := by unfold made; rw [if_neg r]
theorem res_text {k : K} (r : right k) : res (cand (text k)) (text k) = (k, 0) := by
  rw [cand_text r]
  exact res_yes (made_right r) rfl (by simp)
theorem res_nil : res (cand []) [] = (zero, 81) := cand_bad_short (by decide) rfl
theorem res_cases (s : Bs) : (∃ k, res (cand s) s = (k, 0) ∧ made k = (s, 0)) ∨ res (cand s) s = (zero, 81) := by
  unfold res
  by_cases h : (made (cand s)).2 = 0 ∧ (made (cand s)).1 = s
  · rw [if_pos h]
    exact .inl ⟨cand s, rfl, Prod.ext h.2 h.1⟩
  · rw [if_neg h]
    exact .inr rfl
theorem made_name {k : K} {t : Bs} (h : made k = (t, 0)) : k.name.length ≤ 255 := by
  by_cases r : right k
  · rcases r with ⟨_, _, h, _⟩ | ⟨_, (⟨_, _, h, _⟩ | ⟨_, h, _⟩ | ⟨_, h, _⟩)⟩
    · rw [h]; decide
    · exact h
    · rw [h]; decide
    · rw [h]; decide
  · rw [made_wrong r] at h
    exact absurd (show (81 : Int) = 0 from congrArg Prod.snd h) (by decide)
theorem text_len_le (k : K) : (text k).length ≤ 272 + k.name.length := by
  unfold text
  simp only [List.length_cons, List.length_append]
  split <;> split <;> simp [fx_length] <;> omega

set_option maxHeartbeats 1000000 in
theorem back_long (ak : UInt8) (ai ax : Int) (an : Bs) (s : Bs) (w : World) (h : 4096 < an.length ∨ ¬ 4096 < an.length ∧ 4096 < s.length) :
    Calls Try.prog 7 #[.agg #[.int .u8 (ak.toNat : Int), .int .i64 ai, .string (S an), .int .i64 ax], .string (S s)] w fun e w' => e = .returned (.bool true) ∧ Below w.heap.size w w' := by
  have hsz := S_size
  have htl := S_tl
  rcases h with h | ⟨h, h2⟩
  all_goals
    go_enter Try.func7, Try.ntmps7
    go_wp2_with (go_at_call 8; refine (awake_any _).mono ?_; rintro e w1 ⟨rfl, hb1⟩; have q0 := bcell hb1 w.heap.size 0 (by first | assumption | (simp; done) | (simp; omega) | omega); have q1 := bcell hb1 w.heap.size 1 (by first | assumption | (simp; done) | (simp; omega) | omega); have q2 := bcell hb1 w.heap.size 2 (by first | assumption | (simp; done) | (simp; omega) | omega); have q3 := bcell hb1 w.heap.size 3 (by first | assumption | (simp; done) | (simp; omega) | omega); have hl1 : w.heap.size < w1.heap.size := Nat.lt_of_lt_of_le (by first | assumption | (simp; done) | (simp; omega) | omega) hb1.size)
    go_ret
    refine ⟨by simp, ?_⟩
    repeat (first | exact Below.refl _ _ | apply below_al | (refine below_tr ?_ hb1))

set_option maxHeartbeats 2000000 in
theorem back_walk (ak : UInt8) (ai ax : Int) (an : Bs) (s : Bs) (t : Bs) (z : Int) (jk : UInt8) (ji jx : Int) (jn : Bs) (z2 : Int) (kk : UInt8) (ki kx : Int) (kn : Bs) (z3 : Int) (t3 : Bs) (e3 : Int) (w : World) (hnm : an.length ≤ 4096) (hsl : s.length ≤ 4096) (htl' : t.length ≤ 140737488351232)
    (HM : Hid (made ⟨ak, ai, an, ax⟩ = (t, z))) (HR : Hid (res (cand t) t = (⟨jk, ji, jn, jx⟩, z2))) (HP : Hid (res (cand s) s = (⟨kk, ki, kn, kx⟩, z3))) (hkn : kn.length ≤ 140737488351232) (HM3 : Hid (made ⟨kk, ki, kn, kx⟩ = (t3, e3)))
    (hA : (z == 0) = true ∧ (z != 0) = false ∧ (z2 != 0) = false ∧ ak = jk ∧ ai = ji ∧ an = jn ∧ ax = jx ∨ (z == 0) = false ∧ (z != 0) = true ∧ (t == []) = true)
    (hB : (z3 != 0) = true ∨ (z3 != 0) = false ∧ (e3 == 0) = true ∧ (t3 == s) = true) :
    Calls Try.prog 7 #[.agg #[.int .u8 (ak.toNat : Int), .int .i64 ai, .string (S an), .int .i64 ax], .string (S s)] w fun e w' => e = .returned (.bool true) ∧ Below w.heap.size w w' := by
  have hsz := S_size
  have htl := S_tl
  have n1 : ¬ 4096 < an.length := by omega
  have n2 : ¬ 4096 < s.length := by omega
  have hs : s.length ≤ 140737488351232 := by omega
  replace hnm : an.length ≤ 140737488351232 := by omega
  rcases hA with ⟨hz, hz', hz2, rfl, rfl, rfl, rfl⟩ | ⟨hz, hz', ht⟩ <;> rcases hB with h3 | ⟨h3, h4, h5⟩
  all_goals
    go_enter Try.func7, Try.ntmps7
    go_wp2_with (first
      | (go_at_call 8; refine (awake_any _).mono ?_; rintro e w1 ⟨rfl, hb1⟩; have q0 := bcell hb1 w.heap.size 0 (by first | assumption | (simp; done) | (simp; omega) | omega); have q1 := bcell hb1 w.heap.size 1 (by first | assumption | (simp; done) | (simp; omega) | omega); have q2 := bcell hb1 w.heap.size 2 (by first | assumption | (simp; done) | (simp; omega) | omega); have q3 := bcell hb1 w.heap.size 3 (by first | assumption | (simp; done) | (simp; omega) | omega); have hl1 : w.heap.size < w1.heap.size := Nat.lt_of_lt_of_le (by first | assumption | (simp; done) | (simp; omega) | omega) hb1.size)
      | (go_at_call 13; have hq := hl3; refine (parse_to s kk ki kn kx z3 _ hs HP.out).mono ?_; rintro e w4 ⟨rfl, hb4⟩; have hl4 : w.heap.size < w4.heap.size := Nat.lt_of_lt_of_le (by simp; omega) hb4.size)
      | (go_at_call 13; refine (parse_to t _ _ _ _ z2 _ htl' HR.out).mono ?_; rintro e w3 ⟨rfl, hb3⟩; have s0 := bcell hb3 w.heap.size 0 (by first | assumption | (simp; done) | (simp; omega) | omega); have s1 := bcell hb3 w.heap.size 1 (by first | assumption | (simp; done) | (simp; omega) | omega); have s2 := bcell hb3 w.heap.size 2 (by first | assumption | (simp; done) | (simp; omega) | omega); have s3 := bcell hb3 w.heap.size 3 (by first | assumption | (simp; done) | (simp; omega) | omega); have hl3 : w.heap.size < w3.heap.size := Nat.lt_of_lt_of_le (by first | assumption | (simp; done) | (simp; omega) | omega) hb3.size)
      | (go_at_call 9; have hq := hl4; refine (make_to _ kk ki kn kx _ t3 e3 _ rfl rfl rfl hkn HM3.out).mono ?_; rintro e w5 ⟨rfl, hb5⟩)
      | (go_at_call 9; refine (make_to _ ak ai an ax _ t z _ rfl rfl rfl hnm HM.out).mono ?_; rintro e w2 ⟨rfl, hb2⟩; have r0 := bcell hb2 w.heap.size 0 (by first | assumption | (simp; done) | (simp; omega) | omega); have r1 := bcell hb2 w.heap.size 1 (by first | assumption | (simp; done) | (simp; omega) | omega); have r2 := bcell hb2 w.heap.size 2 (by first | assumption | (simp; done) | (simp; omega) | omega); have r3 := bcell hb2 w.heap.size 3 (by first | assumption | (simp; done) | (simp; omega) | omega); have hl2 : w.heap.size < w2.heap.size := Nat.lt_of_lt_of_le (by first | assumption | (simp; done) | (simp; omega) | omega) hb2.size))
    go_ret
    refine ⟨by simp, ?_⟩
    repeat (first | exact Below.refl _ _ | apply below_al | (refine below_tr ?_ hb5) | (refine below_tr ?_ hb4) | (refine below_tr ?_ hb3) | (refine below_tr ?_ hb2) | (refine below_tr ?_ hb1))
theorem keyBack_hole (k : K) (s : Bs) (w : World) (_ : k.name.length ≤ 140737488351232) (_ : I64 k.ino) (_ : I64 k.index) :
    Calls Try.prog 7 #[kv k, .string (S s)] w fun e w' => e = .returned (.bool true) ∧ Below w.heap.size w w' := by
  obtain ⟨ak, ai, an, ax⟩ := k
  by_cases h1 : 4096 < an.length
  · exact back_long ak ai ax an s w (.inl h1)
  · by_cases h2 : 4096 < s.length
    · exact back_long ak ai ax an s w (.inr ⟨h1, h2⟩)
    · have hB : ∃ kk ki kn kx z3 t3 e3, res (cand s) s = (⟨kk, ki, kn, kx⟩, z3) ∧ kn.length ≤ 140737488351232 ∧ made ⟨kk, ki, kn, kx⟩ = (t3, e3) ∧ ((z3 != 0) = true ∨ (z3 != 0) = false ∧ (e3 == 0) = true ∧ (t3 == s) = true) := by
        rcases res_cases s with ⟨⟨kk, ki, kn, kx⟩, hr, hm⟩ | hr
        · have := made_name hm
          exact ⟨kk, ki, kn, kx, 0, s, 0, hr, Nat.le_trans this (by decide), hm, .inr ⟨rfl, rfl, by simp⟩⟩
        · exact ⟨0, 0, [], 0, 81, _, _, hr, by decide, rfl, .inl rfl⟩
      obtain ⟨kk, ki, kn, kx, z3, t3, e3, hr, hkn, hm3, hB⟩ := hB
      by_cases r : right ⟨ak, ai, an, ax⟩
      · have hlen := text_len_le ⟨ak, ai, an, ax⟩
        exact back_walk ak ai ax an s _ 0 ak ai ax an 0 kk ki kx kn z3 t3 e3 w (by omega) (by omega) (by have : (K.name ⟨ak, ai, an, ax⟩) = an := rfl; rw [this] at hlen; omega) (made_right r) (res_text r) hr hkn hm3 (.inl ⟨rfl, rfl, rfl, rfl, rfl, rfl, rfl⟩) hB
      · exact back_walk ak ai ax an s [] 81 0 0 0 [] 81 kk ki kx kn z3 t3 e3 w (by omega) (by omega) (by decide) (made_wrong r) res_nil hr hkn hm3 (.inr ⟨rfl, rfl, rfl⟩) hB
end Go.Proofs.Ytankjbppjabcoaa
