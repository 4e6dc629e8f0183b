import Derived.Test.YtkddijipdldinaaDoorWkD
import Derived.Deep.RegionHeld3
import Derived.Deep.RegionWith
import Derived.Laws.IdiomStrings
namespace Go.Proofs.YtkddijipdldinaaDoor
open Go.RowKit Crc

theorem add_at (b o j : Nat) : (⟨b, o, none⟩ : Addr).add j = ⟨b, o + j, none⟩ := by unfold Addr.add; split <;> simp_all
theorem Tab.pos {w : World} (h : Tab w) : 0 < w.heap.size := World.block_lt_of_cell? w _ (h 0 (by decide))
theorem Tab.later {w w' : World} (h : Tab w) (hb : Below w.heap.size w w') : Tab w' := h.below hb h.pos
theorem Bytes.later {w w' : World} {A : Option Addr} {l : List UInt8} (h : Bytes w A l) (hb : Below w.heap.size w w') : Bytes w' A l := h.below hb (Nat.le_refl _)

theorem bytes_of_own {w : World} {base : Nat} {v : Value} {l : List UInt8} (h : w.ownsRow base 5 1 v l.length (vals l)) (hl : l.length ≤ 1000000) :
    ∃ A cap, v = .slice A l.length cap ∧ Bytes w A l := by
  rcases h.2 with ⟨rfl, hn⟩ | ⟨g, cap, cur, rfl, _, hh, _, _, _, hcur⟩
  · refine ⟨none, 0, by rw [hn], by omega, fun hne => absurd (List.length_eq_zero_iff.1 hn) hne⟩
  · refine ⟨_, cap, rfl, by omega, fun _ => ⟨g, 0, rfl, fun j hj => ?_⟩⟩
    have h1 : (vals l)[j]? = some (.int .u8 ((l.getD j 0).toNat : Int)) := by
      unfold vals
      rw [List.getElem?_map, List.getElem?_eq_getElem hj, List.getD_eq_getElem?_getD, List.getElem?_eq_getElem hj]
      rfl
    have := h.cells (g := g) rfl j _ h1
    rwa [add_at] at this

def OwnIn (w0 wx : World) (l : List UInt8) (e : Ending) (w' : World) : Prop :=
  ∃ A cap, e = .returned (.slice A l.length cap) ∧ Bytes w' A l ∧ Below w0.heap.size w0 w' ∧ Below wx.heap.size wx w'
theorem own_in {w0 : World} {A : Option Addr} {l : List UInt8} (cap : Nat) (wx : World) (hb : Bytes w0 A l) (hl : l.length ≤ 1000000) (hx : Below w0.heap.size w0 wx) :
    Calls Tryd.prog 11 #[.slice A l.length cap] wx (OwnIn w0 wx l) :=
  (own_any A l cap wx (hb.later hx) hl).mono fun _ w' ⟨_, he, hown, hbel⟩ => by
    obtain ⟨A', c', rfl, hby⟩ := bytes_of_own hown hl
    exact ⟨A', c', he, hby, hx.trans (hbel.mono hx.size), hbel⟩

theorem conv_any {w : World} {A : Option Addr} {l : List UInt8} (cap : Nat) (hb : Bytes w A l) :
    (convert 23 9 (.slice A l.length cap)).run Tryd.prog w = .ok (.string ⟨l.toArray⟩) w := by
  by_cases hn : l = []
  · subst hn
    rw [run_convert_bytes_string w 23 9 5 A _ cap Tryd.underlying23 Tryd.underlying5 Tryd.underlying9]
    cases A <;> rfl
  · obtain ⟨b, o, rfl, hc⟩ := hb.2 hn
    refine run_convert_bytes_back w 23 9 5 ⟨b, o, none⟩ cap l Tryd.underlying23 Tryd.underlying5 Tryd.underlying9 fun j hj => ?_
    rw [add_at, hc j hj, List.getD_eq_getElem?_getD, List.getElem?_eq_getElem hj]
    rfl

theorem sum_one {b o : Nat} {A : Option Addr} {l : List UInt8} {c : Nat} {w : World} (hT : Tab w) (hc : w.cell? ⟨b, o, none⟩ = some (.slice A l.length c)) (hb : Bytes w A l) :
    Calls Tryd.prog 10 #[.slice (some ⟨b, o, none⟩) 1 1] w fun e w' => e = .returned (.int .u32 (v (sum l))) ∧ w = w' :=
  sum_any (some ⟨b, o, none⟩) [l] 1 w hT ⟨by simp, fun _ => ⟨b, o, rfl, fun j hj => by
    have : j = 0 := by simpa using hj
    subst this
    exact ⟨A, c, hc, hb⟩⟩⟩

theorem S_mk {w wx : World} {A : Option Addr} {l : List UInt8} (hb : Bytes w A l) (cap : Nat) (hx : Below w.heap.size w wx) :
    Below w.heap.size w wx ∧ (convert 23 9 (.slice A l.length cap)).run Tryd.prog wx = .ok (.string ⟨l.toArray⟩) wx := ⟨hx, conv_any cap (hb.later hx)⟩
set_option maxHeartbeats 2000000 in
set_option maxRecDepth 100000 in
theorem crcSums_walk (c : BitVec 32) (A : Option Addr) (l : List UInt8) (cap : Nat) (w : World) (hT : Tab w) (hb : Bytes w A l) (hl : l.length ≤ 8192) :
    Calls Tryd.prog 3 #[.int .u32 (v c), .slice A l.length cap] w fun e w' => e = .returned (.bool true) ∧ Below w.heap.size w w' := by
  have hcv := conv_any cap hb
  have hle : ¬ (8192 < (l.length : Int)) := by omega
  go_enter Tryd.func3, Tryd.ntmps3
  go_wp2_with (first | (go_at_call 8; refine (awake_any _ hT).mono ?_; rintro e w' ⟨rfl, rfl⟩) | (go_at_call 9; refine (refsum_any _ _ ?_).mono ?_; (unfold maxLen; simp [ByteArray.size]; omega); rintro e w' ⟨rfl, rfl⟩))
  go_region_held3 (fun w' => Below w.heap.size w w' ∧ (convert 23 9 (.slice A l.length cap)).run Tryd.prog w' = .ok (.string ⟨l.toArray⟩) w')
    (first | assumption | exact S_mk hb cap (by first | assumption | exact (Below.refl _ _).drew | exact Below.alloc (by assumption) (Below.size (by assumption)) _))
    (first
      | (go_at_call 11; refine (own_in cap _ hb (by omega) ?_).mono ?_; (go_split_ands; assumption); rintro e w1 ⟨A1, c1, rfl, hby1, hbel1, hst1⟩)
      | (go_at_call 10; refine (sum_one (A := A1) (c := c1) (l := l) ?_ ?_ ?_).mono ?_; (go_split_ands; exact hT.later (by assumption)); (exact (World.cell?_alloc_mark _ _ _ _ _).trans rfl); (exact hby1.later (Below.alloc (Below.refl _ _) (Nat.le_refl _) _)); rintro e w2 ⟨rfl, rfl⟩)
      | (go_at_call 12; refine (text_any _ _ ?_ ?_).mono ?_; (go_split_ands; exact hT.later (by assumption)); (unfold maxLen; simp [ByteArray.size]; omega); rintro e w2 ⟨rfl, rfl⟩)
      | (go_at_call 14; refine (ref_any _ _ _ ?_).mono ?_; (unfold maxLen; simp [ByteArray.size]; omega); rintro e w2 ⟨rfl, rfl⟩)
      | (go_at_call 13; refine (more_any _ _ l _ _ ?_ ?_).mono ?_; (go_split_ands; exact hT.later (by assumption)); (assumption); rintro e w2 ⟨rfl, rfl⟩))
  all_goals
    go_wp2
    go_ret
    go_split_ands
    exact ⟨rfl, by assumption⟩
end Go.Proofs.YtkddijipdldinaaDoor
