import Derived.Test.YtkddijipdldinaaDoorProg
import Derived.Test.YtkddijipdldinaaDoorPlain
import Derived.WalkKit
import Derived.WalkSpells
import Derived.WalkLawsBesides
import Derived.Lib.Hide
namespace Go.Proofs.YtkddijipdldinaaDoor
open Go.RowKit Crc

/-- The table lies in its variable. -/
def Tab (w : World) : Prop := ∀ i, i < 16 → w.cell? ⟨0, i, none⟩ = some (.int .u32 (tv i))
theorem Tab.below {B : Nat} {w w' : World} (h : Tab w) (hb : Below B w w') (hB : 0 < B) : Tab w' := fun i hi => (hb.cell (p := ⟨0, i, none⟩) hB).trans (h i hi)

theorem step_core (c b x1 v1 x2 v2 r : Int) (i1 i2 : Nat) (w : World) (h1 : bits .xor .u32 c (b % 4294967296) = x1)
    (h2 : bits .and .u32 x1 15 = i1) (hi1 : i1 < 16) (hc1 : w.cell? ⟨0, i1, none⟩ = some (.int .u32 v1)) (h3 : bits .xor .u32 v1 (x1 / 16) = x2)
    (h4 : bits .and .u32 x2 15 = i2) (hi2 : i2 < 16) (hc2 : w.cell? ⟨0, i2, none⟩ = some (.int .u32 v2)) (h5 : bits .xor .u32 v2 (x2 / 16) = r) :
    Calls Tryd.prog 15 #[.int .u32 c, .int .u8 b] w fun e w' => e = .returned (.int .u32 r) ∧ w = w' := by
  go_enter Tryd.func15, Tryd.ntmps15
  go_wp2
  go_ret
  exact ⟨rfl, rfl⟩

theorem tv_v (i : Nat) : tv i = v (BitVec.ofNat 32 (tab.getD i 0)) := (v_ofNat _ (tab_lt i)).symm
theorem step_any (c : BitVec 32) (b : UInt8) (w : World) (hT : Tab w) :
    Calls Tryd.prog 15 #[.int .u32 (v c), .int .u8 (b.toNat : Int)] w fun e w' => e = .returned (.int .u32 (v (up c b))) ∧ w = w' := by
  have hb := b.toNat_lt
  have lo : ∀ x : BitVec 32, x.toNat % 16 < 16 := fun x => Nat.mod_lt _ (by decide)
  refine step_core (v c) b.toNat (v (c ^^^ ext b)) (tv ((c ^^^ ext b).toNat % 16)) (v (bs4 (c ^^^ ext b))) (tv ((bs4 (c ^^^ ext b)).toNat % 16)) (v (up c b))
    ((c ^^^ ext b).toNat % 16) ((bs4 (c ^^^ ext b)).toNat % 16) w ?_ (bits_and15_v _) (lo _) (hT _ (lo _)) ?_ (bits_and15_v _) (lo _) (hT _ (lo _)) ?_
  · rw [show (b.toNat : Int) % 4294967296 = v (ext b) by rw [v_ext]; omega, bits_xor_v]
  · rw [tv_v, v_shr4, bits_xor_v, ← bs4_tab]
  · rw [tv_v, v_shr4, bits_xor_v, ← bs4_tab, up]

/-- A slice's bytes. -/
def Bytes (w : World) (A : Option Addr) (l : List UInt8) : Prop :=
  (l.length : Int) ≤ 9223372036854775807 ∧ (l ≠ [] → ∃ b o, A = some ⟨b, o, none⟩ ∧ ∀ j, j < l.length → w.cell? ⟨b, o + j, none⟩ = some (.int .u8 ((l.getD j 0).toNat : Int)))
theorem Bytes.below {B : Nat} {w w' : World} {A : Option Addr} {l : List UInt8} (h : Bytes w A l) (hb : Below B w w') (hB : w.heap.size ≤ B) : Bytes w' A l :=
  ⟨h.1, fun hn => by
    obtain ⟨b, o, e, hc⟩ := h.2 hn
    exact ⟨b, o, e, fun j hj => (hb.cell (p := ⟨b, o + j, none⟩) (Nat.lt_of_lt_of_le (World.block_lt_of_cell? w _ (hc j hj)) hB)).trans (hc j hj)⟩⟩
theorem Bytes.at_ {w : World} {A : Option Addr} {l : List UInt8} (h : Bytes w A l) {k : Nat} (hk : k < l.length) : ∃ b o, A = some ⟨b, o, none⟩ ∧ w.cell? ⟨b, o + k, none⟩ = some (.int .u8 (l[k].toNat : Int)) := by
  obtain ⟨b, o, e, hc⟩ := h.2 (by intro e; subst e; simp at hk)
  refine ⟨b, o, e, ?_⟩
  have := hc k hk
  rwa [List.getD_eq_getElem?_getD, List.getElem?_eq_getElem hk] at this

theorem run_snoc (c : BitVec 32) (l : List UInt8) (k : Nat) (hk : k < l.length) : run c (l.take (k + 1)) = up (run c (l.take k)) l[k] := by
  rw [List.take_succ_eq_append_getElem hk]
  unfold run
  rw [List.foldl_append]
  rfl
theorem not_v (x : BitVec 32) : bits .xor .u32 IntKind.u32.max (v x) = v (~~~ x) := by
  rw [show IntKind.u32.max = v (BitVec.allOnes 32) by decide, bits_xor_v, BitVec.allOnes_xor]

theorem more_any (c : BitVec 32) (A : Option Addr) (l : List UInt8) (cap : Nat) (w : World) (hT : Tab w) (hb : Bytes w A l) :
    Calls Tryd.prog 13 #[.int .u32 (v c), .slice A l.length cap] w fun e w' => e = .returned (.int .u32 (v (more c l))) ∧ w = w' := by
  have hl := hb.1
  have hn := not_v c
  go_enter Tryd.func13, Tryd.ntmps13
  go_wp2
  go_loop [0, 11] (fun cv i => ∃ k : Nat, k ≤ l.length ∧ i = .int .i64 k ∧ cv = .int .u32 (v (run (~~~c) (l.take k)))) (fun _ i => l.length - (intOf i).toNat)
  case atStart => exact ⟨0, Nat.zero_le _, rfl, rfl⟩
  case round =>
    obtain ⟨k, hk, rfl, rfl⟩ := hrel
    by_cases hlt : k < l.length
    · obtain ⟨b, o, rfl, hc⟩ := hb.at_ hlt
      have HS := Lib.hid (run_snoc (~~~c) l k hlt)
      go_wp2_with (go_at_call 15; refine (step_any _ _ _ hT).mono ?_; rintro e w' ⟨rfl, rfl⟩)
      go_round
      case rel => exact ⟨k + 1, by omega, by go_num, by rw [HS.out]⟩
      case measure => simp [intOf]; omega
    · have hn2 := not_v (run (~~~c) (l.take k))
      go_wp2
      go_ret
      have e : k = l.length := by omega
      subst e
      exact ⟨by rw [List.take_length]; rfl, rfl⟩
end Go.Proofs.YtkddijipdldinaaDoor
