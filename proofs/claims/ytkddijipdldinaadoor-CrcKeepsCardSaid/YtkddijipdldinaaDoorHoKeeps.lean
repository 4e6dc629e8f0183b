import Derived.Test.YtkddijipdldinaaDoorFrame
import Derived.Test.YtkddijipdldinaaDoorHoThrees
namespace Go.Proofs.YtkddijipdldinaaDoor
open Go.RowKit Crc

theorem crcKeeps_long (A1 A2 : Option Addr) (n1 n2 c1 c2 : Nat) (w : World) (hT : Tab w) (hl : 1024 < n1 ∨ 1024 < n2) :
    Calls Tryd.prog 7 #[.slice A1 n1 c1, .slice A2 n2 c2] w fun e w' => e = .returned (.bool true) ∧ Below w.heap.size w w' := by
  by_cases h1 : 1024 < (n1 : Int)
  · clear hl
    go_enter Tryd.func7, Tryd.ntmps7
    go_wp2_with (first | (go_at_call 8; refine (awake_any _ hT).mono ?_; rintro e w' ⟨rfl, rfl⟩))
    go_ret
    exact ⟨rfl, Below.refl _ _⟩
  · have h2 : 1024 < (n2 : Int) := by omega
    clear hl
    go_enter Tryd.func7, Tryd.ntmps7
    go_wp2_with (first | (go_at_call 8; refine (awake_any _ hT).mono ?_; rintro e w' ⟨rfl, rfl⟩))
    go_ret
    exact ⟨rfl, Below.refl _ _⟩

theorem bytes_pre {w : World} {g d m n : Nat} {base : Nat} {l t : List UInt8} (h : w.ownsRow base 5 1 (.slice (some ⟨g, 0, none⟩) m d) m (vals (l ++ t))) (hn : n = l.length) (hl : l.length ≤ 1000000) : Bytes w (some ⟨g, 0, none⟩) l := by
  refine ⟨by omega, fun _ => ⟨g, 0, rfl, fun j hj => ?_⟩⟩
  have hm : m = (l ++ t).length := by have := h.1; rw [vals_length] at this; omega
  have hjm : j < m := by rw [hm]; simp; omega
  rw [Nat.zero_add, bytes_own h j hjm, List.getD_eq_getElem?_getD, List.getD_eq_getElem?_getD, List.getElem?_append_left hj]
theorem cell_suf {w : World} {g d m : Nat} {base : Nat} {l t : List UInt8} (h : w.ownsRow base 5 1 (.slice (some ⟨g, 0, none⟩) m d) m (vals (l ++ t))) (j : Nat) (hj : j < t.length) : w.cell? ⟨g, l.length + j, none⟩ = some (.int .u8 ((t.getD j 0).toNat : Int)) := by
  have hm : m = (l ++ t).length := by have := h.1; rw [vals_length] at this; omega
  rw [bytes_own h (l.length + j) (by rw [hm]; simp; omega), List.getD_eq_getElem?_getD, List.getD_eq_getElem?_getD, List.getElem?_append_right (by omega), Nat.add_sub_cancel_left]
theorem own_cap {w : World} {base m d : Nat} {B : Option Addr} {xs : List Value} (h : w.ownsRow base 5 1 (.slice B m d) m xs) : m ≤ d := by
  rcases h.2 with ⟨hv, hn⟩ | ⟨g, cap, cur, hv, _, _, hc, _⟩
  · injection hv with _ h2 h3; omega
  · injection hv with _ h2 h3; omega
theorem lit3 (w : World) : Bytes (w.alloc (.cells #[.int .u8 7, .int .u8 8, .int .u8 9] 5 (0, 0))) (some ⟨w.heap.size, 0, none⟩) [7, 8, 9] :=
  ⟨by simp, fun _ => ⟨_, _, rfl, fun j hj => by
    have hj' : j < 3 := by simpa using hj
    match j, hj' with
    | 0, _ => exact (World.cell?_alloc_mark _ _ _ _ _).trans rfl
    | 1, _ => exact (World.cell?_alloc_mark _ _ _ _ _).trans rfl
    | 2, _ => exact (World.cell?_alloc_mark _ _ _ _ _).trans rfl⟩⟩

/-- What is known behind the append. -/
theorem keeps_app {w w1 w4 : World} {A1 A2 B1 B4 : Option Addr} {l o : List UInt8} {d1 d4 : Nat} (hT : Tab w) (hb1 : Bytes w A1 l) (hb2 : Bytes w A2 o) (hl1 : l.length ≤ 1024) (hx1 : Below w.heap.size w w1)
    (ho1 : w1.ownsRow w.heap.size 5 1 (.slice B1 l.length d1) l.length (vals l)) {X : Obj} (hg4 : (w1.alloc X).grownBy w4 (Value.slice B1 l.length d1).ownBlock)
    (ho4 : w4.ownsRow w.heap.size 5 1 (.slice B4 (l.length + [(7 : UInt8), 8, 9].length) d4) (l.length + [(7 : UInt8), 8, 9].length) (vals (l ++ [7, 8, 9]))) :
    ∃ g, B4 = some ⟨g, 0, none⟩ ∧ (l.length : Int) ≤ (d4 : Int) ∧ (l.length : Int) + 3 ≤ (d4 : Int) ∧ Below w.heap.size w w4 ∧ Tab w4 ∧ Bytes w4 A1 l ∧ Bytes w4 A2 o ∧ Bytes w4 (some ⟨g, 0, none⟩) l ∧
      w4.cell? ⟨g, l.length, none⟩ = some (.int .u8 7) ∧ w4.cell? ⟨g, l.length + 1, none⟩ = some (.int .u8 8) ∧ w4.cell? ⟨g, l.length + 2, none⟩ = some (.int .u8 9) := by
  obtain ⟨g, rfl⟩ := own_addr ho4 (by simp)
  have hc := own_cap ho4
  have e3 : [(7 : UInt8), 8, 9].length = 3 := rfl
  rw [e3] at hc
  have hx4 := app_below (hx1.alloc hx1.size X) (ho1.alloc X) (Nat.le_refl _) hg4
  exact ⟨g, rfl, by omega, by omega, hx4, hT.later hx4, hb1.later hx4, hb2.later hx4, bytes_pre ho4 rfl (by omega), cell_suf ho4 0 (by decide), cell_suf ho4 1 (by decide), cell_suf ho4 2 (by decide)⟩
theorem cell_on {w w' : World} {a : Addr} {u : Value} (h : w.cell? a = some u) (hb : Below w.heap.size w w') : w'.cell? a = some u := (hb.cell (World.block_lt_of_cell? w a h)).trans h
theorem parts_one_two {w : World} {A1 A2 : Option Addr} {c1 c2 : Nat} {a b : List UInt8} (h1 : Bytes w A1 a) (h2 : Bytes w A2 b) :
    Parts (w.alloc (.cells #[.slice A1 a.length c1, .slice A2 b.length c2] 23 (0, 0))) (some ⟨w.heap.size, 0, none⟩) [a, b] := parts_two h1 h2
set_option maxHeartbeats 4000000 in
set_option maxRecDepth 100000 in
theorem crcKeeps_walk (A1 A2 : Option Addr) (l o : List UInt8) (k1 k2 : Nat) (w : World) (hT : Tab w) (hb1 : Bytes w A1 l) (hb2 : Bytes w A2 o) (hl1 : l.length ≤ 1024) (hl2 : o.length ≤ 1024) :
    Calls Tryd.prog 7 #[.slice A1 l.length k1, .slice A2 o.length k2] w fun e w' => e = .returned (.bool true) ∧ Below w.heap.size w w' := by
  have g1 : ¬ (1024 < (l.length : Int)) := by omega
  have g2 : ¬ (1024 < (o.length : Int)) := by omega
  go_enter Tryd.func7, Tryd.ntmps7
  go_wp2_with (first
    | (go_at_call 8; refine (awake_any _ hT).mono ?_; rintro e w' ⟨rfl, rfl⟩)
    | (go_at_call_of 11 (Value.slice A1 l.length k1); refine (own_is k1 _ hb1 (by omega) (Below.refl _ _)).mono ?_; rintro e w1 ⟨B1, d1, rfl, hy1, hx1, hs1, ho1⟩)
    | (at_builtin; refine wpList_app (by rfl) (.tmp 19) (.tmp 20) rfl _ (.slice B1 l.length d1) l [7, 8, 9] rfl (ho1.alloc _) (some ⟨w1.heap.size, 0, none⟩) 3 rfl (lit3 w1) (by omega) (by decide) (by have := hs1.size; simp; omega) ?_; intro B4 d4 w4 ho4 hg4; obtain ⟨g, hB, hc5, hc6, hx4, hT4, hb14, hb24, hm4, c7, c8, c9⟩ := keeps_app hT hb1 hb2 hl1 hx1 ho1 hg4 ho4; subst hB; clear ho4 hg4 hT hb1 hb2 ho1 hy1)
    | (go_at_call_of 11 (Value.slice A2 o.length k2); refine (own_is (w0 := w4) k2 _ hb24 (by omega) ?_).mono ?_; (focus (repeat (first | exact Below.refl _ _ | assumption | apply below_al))); rintro e w5 ⟨B5, d5, rfl, hy5, hx5, hs5, ho5⟩; have hcm := fun X => conv_any d4 (hm4.later (below_al (o := X) hx5)); have hcb := fun X => conv_any k1 (hb14.later (below_al (o := X) hx5)); have hc7 := fun X => cell_on c7 (below_al (o := X) hx5); have hc8 := fun X => cell_on c8 (below_al (o := X) hx5); have hc9 := fun X => cell_on c9 (below_al (o := X) hx5))
    | (go_at_call 10; (with_reducible refine (sum_one_r (A := some ⟨g, 0, none⟩) (c := d4) (l := l) _ rfl rfl ?_ ?_ ?_).mono ?_); (focus (refine hT4.later ?_; repeat (first | exact Below.refl _ _ | assumption | apply below_al))); (focus (first | exact (World.cell?_alloc_mark _ _ _ _ _).trans rfl | (rw [World.cell?_alloc_at _ _ _ _ (by simp)]; rfl))); (focus (refine hm4.later ?_; repeat (first | exact Below.refl _ _ | assumption | apply below_al))); rintro e w2' ⟨rfl, rfl⟩)
    | (go_at_call 10; (with_reducible refine (sum_parts [o, l] 2 2 rfl _ rfl (hT4.later (below_al hx5)) (parts_two hy5 (hm4.later hx5))).mono ?_); rintro e w2' ⟨rfl, rfl⟩)
    | (go_at_call 13; refine (more_any _ _ o _ _ (hT4.later hx5) hy5).mono ?_; rintro e w2' ⟨rfl, rfl⟩))
  go_ret
  exact ⟨rfl, hx4.trans (Below.mono (below_al hx5) hx4.size)⟩
theorem crcKeeps_hole (a0 : Option Addr) (len0 cap0 : Nat) (z0 : List Int) (a1 : Option Addr) (len1 cap1 : Nat) (z1 : List Int) (w : World) (hL : Laid w) (w0 : IsRow .u8 w a0 len0 cap0 z0) (w1 : IsRow .u8 w a1 len1 cap1 z1) :
    Calls Tryd.prog 7 #[.slice a0 len0 cap0, .slice a1 len1 cap1] w fun e w' => e = .returned (.bool true) ∧ Below w.heap.size w w' := by
  obtain ⟨l0, rfl, hb0⟩ := bytes_of_row w0
  obtain ⟨l1, rfl, hb1⟩ := bytes_of_row w1
  by_cases h : l0.length ≤ 1024 ∧ l1.length ≤ 1024
  · exact crcKeeps_walk a0 a1 l0 l1 cap0 cap1 w hL hb0 hb1 h.1 h.2
  · exact crcKeeps_long a0 a1 _ _ cap0 cap1 w hL (by omega)
end Go.Proofs.YtkddijipdldinaaDoor
