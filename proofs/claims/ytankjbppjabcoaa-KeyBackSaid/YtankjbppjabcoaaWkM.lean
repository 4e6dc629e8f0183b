import Derived.Test.YtankjbppjabcoaaWkJ
import Derived.Laws.BitsAllLaws
namespace Go.Proofs.Ytankjbppjabcoaa
open Go.RowKit Ky

abbrev Rr (w : World) (g : Nat) (s : Bs) (err : Int) : Prop := Blk w g 53 #[.string (S s), .int .i64 err]
theorem Blk.two0 {w : World} {g : Nat} {t : TypeId} {a b : Value} (h : Blk w g t #[a, b]) (u : Value) : Blk (w.setCell ⟨g, 0, none⟩ u) g t #[u, b] := h.set 0 u
theorem Blk.two1 {w : World} {g : Nat} {t : TypeId} {a b : Value} (h : Blk w g t #[a, b]) (u : Value) : Blk (w.setCell ⟨g, 1, none⟩ u) g t #[a, u] := h.set 1 u

theorem or_byte (a : Nat) (b : UInt8) (ha : a < 72057594037927936) : bits .or .u64 ((a : Int) * 256) (b.toNat : Int) = ((a * 256 + b.toNat : Nat) : Int) := by
  have hb : b.toNat < 2 ^ 8 := b.toNat_lt
  have e : ((a : Int) * 256) = ((2 ^ 8 * a : Nat) : Int) := by rw [Nat.mul_comm]; simp
  rw [e, u64_or_nat _ _ (by omega) (by omega), ← Nat.two_pow_add_eq_or_of_lt hb, Nat.mul_comm]
theorem rr_fail (g : Nat) (err : Int) (s : Bs) (w : World) (h : Rr w g s err) (he : (err != 0) = true) :
    Calls Try.prog 25 #[.pointer (some ⟨g, 0, none⟩)] w fun e w' => e = .returned (.int .u64 0) ∧ Rr w' g s err ∧ But g w w' := by
  have g1 := h.cell 1
  go_enter Try.func25, Try.ntmps25
  go_wp2
  go_ret
  exact ⟨rfl, h, But.refl _ _⟩
theorem rr_short (g : Nat) (s : Bs) (w : World) (h : Rr w g s 0) (hs : s.length < 8) :
    Calls Try.prog 25 #[.pointer (some ⟨g, 0, none⟩)] w fun e w' => e = .returned (.int .u64 0) ∧ Rr w' g s 20 ∧ But g w w' := by
  have g0 := h.cell 0
  have g1 := h.cell 1
  have f1 := h.free 1
  have hsz := S_size
  go_enter Try.func25, Try.ntmps25
  go_wp2
  go_ret
  exact ⟨rfl, h.two1 _, (But.refl _ _).set _ _⟩
theorem rr_ok (g : Nat) (s u : Bs) (w : World) (h : Rr w g s 0) (hs : s.length ≤ 140737488351232) (hn : 8 ≤ s.length) (hu : s.take 8 = u) :
    Calls Try.prog 25 #[.pointer (some ⟨g, 0, none⟩)] w fun e w' => e = .returned (.int .u64 (val u : Int)) ∧ Rr w' g (s.drop 8) 0 ∧ But g w w' := by
  have hul : u.length = 8 := by rw [← hu]; simp; omega
  have hge : ∀ k (hk : k < 8), (S s)[k]'(by rw [S_size]; omega) = u[k]'(by omega) := by
    intro k hk
    subst hu
    simp only [List.getElem_take]; rfl
  have g0 := h.cell 0
  have g1 := h.cell 1
  have f0 := h.free 0
  have hsz := S_size
  have h8 : ¬ s.length < 8 := by omega
  go_enter Try.func25, Try.ntmps25
  go_wp2
  go_loop [3, 4] (fun cv i => ∃ k : Nat, k ≤ 8 ∧ i = .int .i64 k ∧ cv = .int .u64 (val (u.take k) : Int)) (fun _ i => 8 - (intOf i).toNat)
  case atStart => exact ⟨0, Nat.zero_le _, rfl, by simp [val]⟩
  case round =>
    obtain ⟨k, hk, rfl, rfl⟩ := hrel
    by_cases hlt : k < 8
    · have hlu : k < u.length := by omega
      have hks : k < s.length := by omega
      have hv := Lib.hid (val_take hlu)
      have hv2 := val_take_lt hlu (by omega)
      have hx := u[k].toNat_lt
      have hgk := hge k hlt
      clear hge hu
      go_wp2
      go_round
      case rel => exact ⟨k + 1, by omega, by go_num, by rw [hv.out, or_byte _ _ hv2]⟩
      case measure => simp [intOf]; omega
    · have e : k = 8 := by omega
      subst e
      clear hge hu
      go_wp2
      go_ret
      exact ⟨by rw [List.take_of_length_le (by omega)]; rfl, by rw [S_extract, List.take_of_length_le (by simp)]; exact h.two0 _, (But.refl _ _).set _ _⟩
end Go.Proofs.Ytankjbppjabcoaa
