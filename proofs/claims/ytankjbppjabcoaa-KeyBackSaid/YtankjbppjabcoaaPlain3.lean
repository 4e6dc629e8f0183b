/- What a text's candidate key is, and when the candidate's text is the text. -/
import Derived.Test.YtankjbppjabcoaaWkK
namespace Go.Proofs.Ytankjbppjabcoaa
open Go.RowKit Ky

def cand : Bs → K
  | [] => zero
  | kind :: r => if kind = 110 then ⟨kind, 0, [], 0⟩ else
    ⟨kind, wrap64 (val (((kind :: r).drop 1).take 8)), if kind = 100 ∨ kind = 120 then (kind :: r).drop 9 else [], if kind = 112 then wrap64 (val (((kind :: r).drop 9).take 8)) else 0⟩
theorem cand_n {kind : UInt8} {r : Bs} (h : kind = 110) : cand (kind :: r) = ⟨kind, 0, [], 0⟩ := if_pos h
theorem cand_o {kind : UInt8} {r : Bs} (h : ¬ kind = 110) : cand (kind :: r) = ⟨kind, wrap64 (val (((kind :: r).drop 1).take 8)), if kind = 100 ∨ kind = 120 then (kind :: r).drop 9 else [], if kind = 112 then wrap64 (val (((kind :: r).drop 9).take 8)) else 0⟩ := if_neg h
theorem res_bad {k : K} {s : Bs} (h : right k → text k = s → False) : res k s = (zero, 81) := by
  unfold res
  rw [if_neg]
  intro e
  by_cases r : right k
  · refine h r ?_
    have := e.2
    unfold made at this
    rwa [if_pos r] at this
  · have := e.1
    unfold made at this
    rw [if_neg r] at this
    exact absurd this (by decide)
theorem text_len {k : K} (h : k.kind ≠ 110) (r : right k) : 9 ≤ (text k).length := by
  rw [(text_o h r).1]
  simp [fx_length]
theorem text_len2 {k : K} (h : k.kind = 112) (r : right k) : 17 ≤ (text k).length := by
  have h110 : k.kind ≠ 110 := by rw [h]; decide
  rw [(text_o h110 r).1]
  unfold tail
  rw [if_pos h]
  simp [fx_length]
  omega
theorem text_next {k : K} (h : k.kind = 110) (hn : k.name = []) : text k = [110] := by
  unfold text
  rw [h, hn]
  simp
theorem cand_bad_short {s : Bs} (h : s.length < 9) (hne : (s == [110]) = false) : res (cand s) s = (zero, 81) := by
  refine res_bad fun r e => ?_
  cases s with
  | nil => exact absurd e (by unfold text; simp)
  | cons kind l =>
    by_cases hk : kind = 110
    · rw [cand_n hk, text_next hk rfl] at e
      rw [← e] at hne
      exact absurd hne (by decide)
    · have hk' : (cand (kind :: l)).kind ≠ 110 := by rw [cand_o hk]; exact hk
      have := text_len hk' r
      rw [e] at this
      omega
theorem cand_bad_piece {kind : UInt8} {l : Bs} (hk : kind = 112) (h : (kind :: l).length < 17) : res (cand (kind :: l)) (kind :: l) = (zero, 81) := by
  refine res_bad fun r e => ?_
  have hk' : (cand (kind :: l)).kind = 112 := by
    rw [cand_o (by rw [hk]; decide)]; exact hk
  have := text_len2 hk' r
  rw [e] at this
  omega
theorem bad_next {k : K} {s : Bs} (h : k.kind = 110) (hn : k.name = []) (hs : 9 ≤ s.length) : res k s = (zero, 81) := by
  refine res_bad fun r e => ?_
  rw [text_next h hn] at e
  rw [← e] at hs
  exact absurd hs (by decide)
theorem val8_lt (u : Bs) (h : u.length ≤ 8) : val u < 18446744073709551616 := by
  have h1 := val_lt u
  have h2 : 256 ^ u.length ≤ 256 ^ 8 := Nat.pow_le_pow_right (by omega) h
  have h3 : 256 ^ 8 = 18446744073709551616 := rfl
  omega
theorem take8_len (l : Bs) : (l.take 8).length ≤ 8 := by rw [List.length_take]; omega
theorem wrap_id {n : Nat} (h : (n : Int) < 9223372036854775808) : wrap64 (n : Int) = n := by
  unfold wrap64; omega
theorem wrap_high {n : Nat} {m : Int} (hm : 0 ≤ m ∧ m < 9223372036854775808) (h : n < 18446744073709551616) (hb : m < n) : ¬ (0 ≤ wrap64 (n : Int) ∧ wrap64 (n : Int) ≤ m) := by
  unfold wrap64; omega
theorem cand_bad_far {s : Bs} (h : 9 ≤ s.length) (hv : 1099511627776 < (val ((s.drop 1).take 8) : Int)) : res (cand s) s = (zero, 81) := by
  cases s with
  | nil => exact absurd h (by decide)
  | cons kind l =>
    by_cases hk : kind = 110
    · refine bad_next ?_ ?_ h
      · rw [cand_n hk]; exact hk
      · rw [cand_n hk]
    · refine res_bad fun r e => ?_
      have hw := wrap_high (m := 1099511627776) (by omega) (val8_lt _ (take8_len ((kind :: l).drop 1))) hv
      have hk' : (cand (kind :: l)).kind ≠ 110 := by rw [cand_o hk]; exact hk
      have hi := (text_o hk' r).2
      have hc : (cand (kind :: l)).ino = wrap64 (val (((kind :: l).drop 1).take 8)) := by rw [cand_o hk]
      rw [hc] at hi
      exact hw ⟨by omega, hi.2⟩
theorem cand_bad_farq {kind : UInt8} {l : Bs} (hk : kind = 112) (hv : 72057594037927936 ≤ (val (((kind :: l).drop 9).take 8) : Int)) : res (cand (kind :: l)) (kind :: l) = (zero, 81) := by
  have hk0 : kind ≠ 110 := by rw [hk]; decide
  refine res_bad fun r e => ?_
  have hw := wrap_high (m := 72057594037927935) (by omega) (val8_lt _ (take8_len ((kind :: l).drop 9))) (by omega)
  have hk' : (cand (kind :: l)).kind = 112 := by rw [cand_o hk0]; exact hk
  have hc : (cand (kind :: l)).index = wrap64 (val (((kind :: l).drop 9).take 8)) := by rw [cand_o hk0]; exact if_pos hk
  have h110 : (cand (kind :: l)).kind ≠ 110 := by rw [hk']; decide
  rcases tail_of h110 r with ⟨_, _, _, h1, h2⟩ | ⟨h1, _⟩
  · rw [hc] at h1 h2
    exact hw ⟨h1, by omega⟩
  · exact h1 hk'
end Go.Proofs.Ytankjbppjabcoaa
