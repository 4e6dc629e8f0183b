import Derived.Test.YtkddijipdldinaaDoorFrame
import Derived.Test.YtkddijipdldinaaDoorWkF
namespace Go.Proofs.YtkddijipdldinaaDoor
open Go.RowKit Crc

theorem crcPieces_long (A1 A2 A3 : Option Addr) (n1 n2 n3 c1 c2 c3 : Nat) (w : World) (hT : Tab w) (hl : 8192 < n1 ∨ 8192 < n2 ∨ 8192 < n3) :
    Calls Tryd.prog 4 #[.slice A1 n1 c1, .slice A2 n2 c2, .slice A3 n3 c3] w fun e w' => e = .returned (.bool true) ∧ Below w.heap.size w w' := by
  by_cases h1 : 8192 < (n1 : Int)
  · clear hl
    go_enter Tryd.func4, Tryd.ntmps4
    go_wp2_with (first | (go_at_call 8; refine (awake_any _ hT).mono ?_; rintro e w' ⟨rfl, rfl⟩))
    go_ret
    exact ⟨rfl, Below.refl _ _⟩
  · by_cases h2 : 8192 < (n2 : Int)
    · clear hl
      go_enter Tryd.func4, Tryd.ntmps4
      go_wp2_with (first | (go_at_call 8; refine (awake_any _ hT).mono ?_; rintro e w' ⟨rfl, rfl⟩))
      go_ret
      exact ⟨rfl, Below.refl _ _⟩
    · have h3 : 8192 < (n3 : Int) := by omega
      clear hl
      go_enter Tryd.func4, Tryd.ntmps4
      go_wp2_with (first | (go_at_call 8; refine (awake_any _ hT).mono ?_; rintro e w' ⟨rfl, rfl⟩))
      go_ret
      exact ⟨rfl, Below.refl _ _⟩

theorem sums3 (a b c : List UInt8) : sums 0#32 [a, b, c] = sum (a ++ b ++ c) := by
  show more (more (more 0#32 a) b) c = _
  rw [more_app, more_app, ← List.append_assoc]; rfl
theorem sums2 (a b : List UInt8) : sums 0#32 [a, b] = sum (a ++ b) := by
  show more (more 0#32 a) b = _
  rw [more_app]; rfl
theorem sum_app (a b : List UInt8) : more (sum a) b = sum (a ++ b) := more_app _ _ _
theorem conv_in {w wx : World} {A : Option Addr} {l : List UInt8} (hb : Bytes w A l) (cap : Nat) (hx : Below w.heap.size w wx) :
    Below w.heap.size w wx ∧ (convert 23 9 (.slice A l.length cap)).run Tryd.prog wx = .ok (.string ⟨l.toArray⟩) wx := ⟨hx, conv_any cap (hb.later hx)⟩

set_option maxHeartbeats 4000000 in
set_option maxRecDepth 100000 in
theorem crcPieces_walk (A1 A2 A3 : Option Addr) (l1 l2 l3 : List UInt8) (k1 k2 k3 : Nat) (w : World) (hT : Tab w) (hb1 : Bytes w A1 l1) (hb2 : Bytes w A2 l2) (hb3 : Bytes w A3 l3)
    (hl1 : l1.length ≤ 8192) (hl2 : l2.length ≤ 8192) (hl3 : l3.length ≤ 8192) :
    Calls Tryd.prog 4 #[.slice A1 l1.length k1, .slice A2 l2.length k2, .slice A3 l3.length k3] w fun e w' => e = .returned (.bool true) ∧ Below w.heap.size w w' := by
  have hcv1 := conv_any k1 hb1
  have hcv2 := conv_any k2 hb2
  have hcv3 := conv_any k3 hb3
  have g1 : ¬ (8192 < (l1.length : Int)) := by omega
  have g2 : ¬ (8192 < (l2.length : Int)) := by omega
  have g3 : ¬ (8192 < (l3.length : Int)) := by omega
  go_enter Tryd.func4, Tryd.ntmps4
  go_wp2_with (first
    | (go_at_call 8; refine (awake_any _ hT).mono ?_; rintro e w' ⟨rfl, rfl⟩)
    | (go_at_call 9; refine (refsum_to _ (l1 ++ l2 ++ l3) _ ?_ ?_).mono ?_; (focus simp); (focus (simp; omega)); rintro e w' ⟨rfl, rfl⟩)
    | (go_at_call_of 11 (Value.slice A1 l1.length k1); refine (own_is k1 _ hb1 (by omega) ?_).mono ?_; (focus (first | assumption | exact Below.refl _ _ | exact Below.alloc (by assumption) (Below.size (by assumption)) _)); rintro e w1 ⟨B1, d1, rfl, hy1, hx1, hs1, ho1⟩)
    | (go_at_call_of 11 (Value.slice A2 l2.length k2); refine (own_is k2 _ hb2 (by omega) ?_).mono ?_; (focus (first | assumption | exact Below.refl _ _ | exact Below.alloc (by assumption) (Below.size (by assumption)) _)); rintro e w2 ⟨B2, d2, rfl, hy2, hx2, hs2, ho2⟩)
    | (go_at_call_of 11 (Value.slice A3 l3.length k3); refine (own_is k3 _ hb3 (by omega) ?_).mono ?_; (focus (first | assumption | exact Below.refl _ _ | exact Below.alloc (by assumption) (Below.size (by assumption)) _)); rintro e w3 ⟨B3, d3, rfl, hy3, hx3, hs3, ho3⟩; have hcw := conv_any k1 (hb1.later hx3))
    | (go_at_call 10; (with_reducible refine (sum_parts [l1, l2, l3] 3 3 rfl _ (sums3 l1 l2 l3) (hT.later (hx3.alloc hx3.size _)) (parts_three ((hy1.later hs2).later hs3) (hy2.later hs3) hy3)).mono ?_); rintro e w4 ⟨rfl, rfl⟩)
    | (go_at_call 10; (with_reducible refine (sum_parts [l1, l2] 2 2 rfl _ (sums2 l1 l2) (hT.later (hx2.alloc hx2.size _)) (parts_two (hy1.later hs2) hy2)).mono ?_); rintro e w4 ⟨rfl, rfl⟩)
    | (go_at_call 12; refine (text_to _ l1 _ (hT.later hx3) ?_ ?_).mono ?_; (focus simp); (focus omega); rintro e w4 ⟨rfl, rfl⟩)
    | (at_builtin; refine wpList_app (by rfl) (.tmp 60) (.tmp 61) rfl _ (.slice B2 l2.length d2) l2 l3 rfl ho2 A3 k3 rfl (hb3.later hx2) (by omega) (by omega) hs2.size ?_; intro B4 d4 w4 ho4 hg4)
    | (go_at_call 13; (with_reducible refine (more_to (sum (l1 ++ l2)) (sum (l1 ++ l2 ++ l3)) B3 l3.length l3 d3 _ rfl (sum_app _ _) (hT.later hx3) hy3).mono ?_); rintro e w5 ⟨rfl, rfl⟩)
    | (go_at_call 13; (with_reducible refine (more_to (sum l1) (sum (l1 ++ l2 ++ l3)) B4 (l2.length + l3.length) (l2 ++ l3) d4 _ (by simp) ((sum_app _ _).trans (by rw [List.append_assoc])) (hT.later (app_below hx2 ho2 hx3.size hg4)) (bytes_n ho4 (by simp; omega)).2).mono ?_); rintro e w5 ⟨rfl, rfl⟩))
  go_ret
  exact ⟨rfl, app_below hx2 ho2 hx3.size hg4⟩

theorem crcPieces_hole (a0 : Option Addr) (len0 cap0 : Nat) (z0 : List Int) (a1 : Option Addr) (len1 cap1 : Nat) (z1 : List Int) (a2 : Option Addr) (len2 cap2 : Nat) (z2 : List Int) (w : World) (hL : Laid w)
    (w0 : IsRow .u8 w a0 len0 cap0 z0) (w1 : IsRow .u8 w a1 len1 cap1 z1) (w2 : IsRow .u8 w a2 len2 cap2 z2) :
    Calls Tryd.prog 4 #[.slice a0 len0 cap0, .slice a1 len1 cap1, .slice a2 len2 cap2] w fun e w' => e = .returned (.bool true) ∧ Below w.heap.size w w' := by
  obtain ⟨l0, rfl, hb0⟩ := bytes_of_row w0
  obtain ⟨l1, rfl, hb1⟩ := bytes_of_row w1
  obtain ⟨l2, rfl, hb2⟩ := bytes_of_row w2
  by_cases h : l0.length ≤ 8192 ∧ l1.length ≤ 8192 ∧ l2.length ≤ 8192
  · exact crcPieces_walk a0 a1 a2 l0 l1 l2 cap0 cap1 cap2 w hL hb0 hb1 hb2 h.1 h.2.1 h.2.2
  · exact crcPieces_long a0 a1 a2 _ _ _ cap0 cap1 cap2 w hL (by omega)
end Go.Proofs.YtkddijipdldinaaDoor
