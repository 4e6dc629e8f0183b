/- Both parsers, joined. -/
import Derived.Test.YtankjbppjabcoaaWkL
import Derived.Test.YtankjbppjabcoaaWkN
import Derived.Test.YtankjbppjabcoaaPlain3
namespace Go.Proofs.Ytankjbppjabcoaa
open Go.RowKit Ky

theorem bne_of {a b : UInt8} (h : ¬ a = b) : ((a.toNat : Int) != (b.toNat : Int)) = true := by
  rw [bne, kind_ne h]; rfl
theorem beq_of {a b : UInt8} (h : a = b) : ((a.toNat : Int) == (b.toNat : Int)) = true := by rw [h]; simp
theorem made_ex (k : K) : ∃ t z, made k = (t, z) := ⟨_, _, rfl⟩

theorem parse_any (s : Bs) (w : World) (hs : s.length ≤ 140737488351232) :
    Calls Try.prog 13 #[.string (S s)] w fun e w' => e = rval (res (cand s) s) ∧ Below w.heap.size w w' := by
  cases s with
  | nil =>
    obtain ⟨t, z, hm⟩ := made_ex ⟨0, 0, [], 0⟩
    exact (parse_empty t z w hm).mono fun e w' h => ⟨h.1.trans (by rw [cand_bad_short (by decide) rfl]), h.2⟩
  | cons kind l =>
    have h1 : ((kind :: l).drop 0).take 1 = [kind] := rfl
    have hn : 1 ≤ (kind :: l).length := by simp
    by_cases hk : kind = 110
    · obtain ⟨t, z, hm⟩ := made_ex ⟨kind, 0, [], 0⟩
      rw [cand_n hk]
      exact parse_next _ kind t z w hs hn h1 (by rw [hk]; rfl) (by rw [hk]; rfl) (by rw [hk]; rfl) (by rw [hk]; rfl) hm
    · have k1 : ((kind.toNat : Int) != 110) = true := bne_of hk
      have hbad : (kind :: l).length < 9 → res (cand (kind :: l)) (kind :: l) = (zero, 81) := fun h => cand_bad_short h (by rw [beq_eq_false_iff_ne]; intro e; exact hk (List.cons.inj e).1)
      by_cases h112 : kind = 112
      · have k2 : ((kind.toNat : Int) == 112) = true := beq_of h112
        have n1 : ¬ (kind = 100 ∨ kind = 120) := by rw [h112]; decide
        by_cases h9 : 9 ≤ (kind :: l).length
        · by_cases h17 : 17 ≤ (kind :: l).length
          · obtain ⟨t, z, hm⟩ := made_ex ⟨kind, wrap64 (val (((kind :: l).drop 1).take 8)), [], wrap64 (val (((kind :: l).drop 9).take 8))⟩
            rw [cand_o hk, if_neg n1, if_pos h112]
            exact parse_piece _ kind _ _ t z w hs h17 h1 rfl rfl k1 k2 hm
          · obtain ⟨t, z, hm⟩ := made_ex ⟨kind, wrap64 (val (((kind :: l).drop 1).take 8)), [], 0⟩
            rw [cand_bad_piece h112 (by omega)]
            exact parse_shortq _ kind _ t z w hs h9 (by omega) h1 rfl k1 k2 hm
        · obtain ⟨t, z, hm⟩ := made_ex ⟨kind, 0, [], 0⟩
          rw [hbad (by omega)]
          exact parse_shortp _ kind t z w hs hn (by omega) h1 k1 k2 hm
      · have k2 : ((kind.toNat : Int) == 112) = false := kind_ne h112
        by_cases h100 : kind = 100
        · have k3 : ((kind.toNat : Int) == 100) = true := beq_of h100
          by_cases h9 : 9 ≤ (kind :: l).length
          · obtain ⟨t, z, hm⟩ := made_ex ⟨kind, wrap64 (val (((kind :: l).drop 1).take 8)), (kind :: l).drop 9, 0⟩
            rw [cand_o hk, if_pos (.inl h100), if_neg h112]
            exact parse_named100 _ kind _ t z w hs h9 h1 rfl k1 k2 k3 hm
          · obtain ⟨t, z, hm⟩ := made_ex ⟨kind, 0, [], 0⟩
            rw [hbad (by omega)]
            exact parse_shortn100 _ kind t z w hs hn (by omega) h1 k1 k2 k3 hm
        · have k3 : ((kind.toNat : Int) == 100) = false := kind_ne h100
          by_cases h120 : kind = 120
          · have k4 : ((kind.toNat : Int) == 120) = true := beq_of h120
            by_cases h9 : 9 ≤ (kind :: l).length
            · obtain ⟨t, z, hm⟩ := made_ex ⟨kind, wrap64 (val (((kind :: l).drop 1).take 8)), (kind :: l).drop 9, 0⟩
              rw [cand_o hk, if_pos (.inr h120), if_neg h112]
              exact parse_named120 _ kind _ t z w hs h9 h1 rfl k1 k2 k3 k4 hm
            · obtain ⟨t, z, hm⟩ := made_ex ⟨kind, 0, [], 0⟩
              rw [hbad (by omega)]
              exact parse_shortn120 _ kind t z w hs hn (by omega) h1 k1 k2 k3 k4 hm
          · have k4 : ((kind.toNat : Int) == 120) = false := kind_ne h120
            have n1 : ¬ (kind = 100 ∨ kind = 120) := fun h => h.elim h100 h120
            by_cases h9 : 9 ≤ (kind :: l).length
            · obtain ⟨t, z, hm⟩ := made_ex ⟨kind, wrap64 (val (((kind :: l).drop 1).take 8)), [], 0⟩
              rw [cand_o hk, if_neg n1, if_neg h112]
              exact parse_other _ kind _ t z w hs h9 h1 rfl k1 k2 k3 k4 hm
            · obtain ⟨t, z, hm⟩ := made_ex ⟨kind, 0, [], 0⟩
              rw [hbad (by omega)]
              exact parse_short _ kind t z w hs hn (by omega) h1 k1 k2 k3 k4 hm

theorem rparse_any (s : Bs) (w : World) (hs : s.length ≤ 140737488351232) :
    Calls Try.prog 14 #[.string (S s)] w fun e w' => e = rval (res (cand s) s) ∧ Below w.heap.size w w' := by
  by_cases hN : s = [110]
  · subst hN
    exact (rparse_next w).mono fun e w' h => ⟨h.1.trans (by rw [show res (cand [110]) [110] = (⟨110, 0, [], 0⟩, 0) from by rw [cand_n rfl]; exact res_yes made_n rfl rfl]), h.2⟩
  · have hb : (s == [110]) = false := by rw [beq_eq_false_iff_ne]; exact hN
    by_cases h9 : 9 ≤ s.length
    · cases s with
      | nil => exact absurd h9 (by decide)
      | cons kind l =>
        have h1 : ((kind :: l).drop 0).take 1 = [kind] := rfl
        by_cases hv : (val (((kind :: l).drop 1).take 8) : Int) ≤ 1099511627776
        · have hw := wrap_id (n := val (((kind :: l).drop 1).take 8)) (by omega)
          by_cases h112 : kind = 112
          · have hk : ¬ kind = 110 := by rw [h112]; decide
            have n1 : ¬ (kind = 100 ∨ kind = 120) := by rw [h112]; decide
            have k2 : ((kind.toNat : Int) == 112) = true := beq_of h112
            by_cases h17 : 17 ≤ (kind :: l).length
            · by_cases hv2 : 72057594037927936 ≤ (val (((kind :: l).drop 9).take 8) : Int)
              · rw [cand_bad_farq h112 hv2]
                exact rparse_farq _ kind _ _ w hs h9 h1 rfl h17 rfl hv hv2 (decide_eq_false n1) k2
              · obtain ⟨t, z, hm⟩ := made_ex ⟨kind, (val (((kind :: l).drop 1).take 8) : Int), [], wrap64 (val (((kind :: l).drop 9).take 8))⟩
                rw [cand_o hk, if_neg n1, if_pos h112, hw]
                exact rparse_piece _ kind _ _ t z w hs h9 h1 rfl h17 rfl hv (decide_eq_false hv2) (decide_eq_false n1) k2 hm
            · rw [cand_bad_piece h112 (by omega)]
              exact rparse_shortq _ kind _ w hs h9 h1 rfl (by omega) hv (decide_eq_false n1) k2
          · have k2 : ((kind.toNat : Int) == 112) = false := kind_ne h112
            by_cases n1 : kind = 100 ∨ kind = 120
            · have hk : ¬ kind = 110 := by rcases n1 with h | h <;> rw [h] <;> decide
              obtain ⟨t, z, hm⟩ := made_ex ⟨kind, (val (((kind :: l).drop 1).take 8) : Int), (kind :: l).drop 9, 0⟩
              rw [cand_o hk, if_pos n1, if_neg h112, hw]
              exact rparse_named _ kind _ t z w hs h9 h1 rfl hv (decide_eq_true n1) k2 hm
            · obtain ⟨t, z, hm⟩ := made_ex ⟨kind, (val (((kind :: l).drop 1).take 8) : Int), [], 0⟩
              have := rparse_other _ kind _ t z w hs h9 h1 rfl hv (decide_eq_false n1) k2 hm
              by_cases hk : kind = 110
              · rw [bad_next hk rfl h9] at this
                rw [cand_n hk, bad_next hk rfl h9]
                exact this
              · rw [cand_o hk, if_neg n1, if_neg h112, hw]
                exact this
        · rw [cand_bad_far h9 (by omega)]
          exact rparse_far _ kind _ w hs h9 h1 rfl (by omega)
    · rw [cand_bad_short (by omega) hb]
      exact rparse_small s w hb (by omega)
theorem parse_to (s : Bs) (kind : UInt8) (ino : Int) (nm : Bs) (ix z : Int) (w : World) (hs : s.length ≤ 140737488351232) (h : res (cand s) s = (⟨kind, ino, nm, ix⟩, z)) :
    Calls Try.prog 13 #[.string (S s)] w fun e w' => e = .returned (.tuple #[.agg #[.int .u8 (kind.toNat : Int), .int .i64 ino, .string (S nm), .int .i64 ix], .int .i64 z]) ∧ Below w.heap.size w w' := by
  have := parse_any s w hs
  rw [h] at this
  exact this
theorem rparse_to (s : Bs) (kind : UInt8) (ino : Int) (nm : Bs) (ix z : Int) (w : World) (hs : s.length ≤ 140737488351232) (h : res (cand s) s = (⟨kind, ino, nm, ix⟩, z)) :
    Calls Try.prog 14 #[.string (S s)] w fun e w' => e = .returned (.tuple #[.agg #[.int .u8 (kind.toNat : Int), .int .i64 ino, .string (S nm), .int .i64 ix], .int .i64 z]) ∧ Below w.heap.size w w' := by
  have := rparse_any s w hs
  rw [h] at this
  exact this
end Go.Proofs.Ytankjbppjabcoaa
