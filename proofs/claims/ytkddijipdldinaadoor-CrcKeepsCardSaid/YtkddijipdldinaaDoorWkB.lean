import Derived.Test.YtkddijipdldinaaDoorWkA
namespace Go.Proofs.YtkddijipdldinaaDoor
open Go.RowKit Crc

/-- A slice of slices: each its bytes. -/
def Parts (w : World) (A : Option Addr) (L : List (List UInt8)) : Prop :=
  (L.length : Int) ≤ 9223372036854775807 ∧ (L ≠ [] → ∃ b o, A = some ⟨b, o, none⟩ ∧ ∀ j, j < L.length → ∃ Aj cj, w.cell? ⟨b, o + j, none⟩ = some (.slice Aj (L.getD j []).length cj) ∧ Bytes w Aj (L.getD j []))
theorem Parts.at_ {w : World} {A : Option Addr} {L : List (List UInt8)} (h : Parts w A L) {k : Nat} (hk : k < L.length) :
    ∃ b o Aj cj, A = some ⟨b, o, none⟩ ∧ w.cell? ⟨b, o + k, none⟩ = some (.slice Aj (L[k]).length cj) ∧ Bytes w Aj L[k] := by
  obtain ⟨b, o, e, hc⟩ := h.2 (by intro e; subst e; simp at hk)
  obtain ⟨Aj, cj, h1, h2⟩ := hc k hk
  have e2 : L.getD k [] = L[k] := by rw [List.getD_eq_getElem?_getD, List.getElem?_eq_getElem hk]; rfl
  rw [e2] at h1 h2
  exact ⟨b, o, Aj, cj, e, h1, h2⟩

def sums (c : BitVec 32) (L : List (List UInt8)) : BitVec 32 := L.foldl more c
theorem sums_snoc (c : BitVec 32) (L : List (List UInt8)) (k : Nat) (hk : k < L.length) : sums c (L.take (k + 1)) = more (sums c (L.take k)) L[k] := by
  rw [List.take_succ_eq_append_getElem hk]
  unfold sums
  rw [List.foldl_append]
  rfl

theorem sum_any (A : Option Addr) (L : List (List UInt8)) (cap : Nat) (w : World) (hT : Tab w) (hb : Parts w A L) :
    Calls Tryd.prog 10 #[.slice A L.length cap] w fun e w' => e = .returned (.int .u32 (v (sums 0#32 L))) ∧ w = w' := by
  have hl := hb.1
  go_enter Tryd.func10, Tryd.ntmps10
  go_wp2
  go_loop [3, 8] (fun cv i => ∃ k : Nat, k ≤ L.length ∧ i = .int .i64 k ∧ cv = .int .u32 (v (sums 0#32 (L.take k)))) (fun _ i => L.length - (intOf i).toNat)
  case atStart => exact ⟨0, Nat.zero_le _, rfl, rfl⟩
  case round =>
    obtain ⟨k, hk, rfl, rfl⟩ := hrel
    by_cases hlt : k < L.length
    · obtain ⟨b, o, Aj, cj, rfl, hc, hbj⟩ := hb.at_ hlt
      have HS := Lib.hid (sums_snoc 0#32 L k hlt)
      go_wp2_with (go_at_call 13; refine (more_any _ _ _ _ _ hT hbj).mono ?_; rintro e w' ⟨rfl, rfl⟩)
      go_round
      case rel => exact ⟨k + 1, by omega, by go_num, by rw [HS.out]⟩
      case measure => simp [intOf]; omega
    · go_wp2
      go_ret
      have e : k = L.length := by omega
      subst e
      exact ⟨by rw [List.take_length]; rfl, rfl⟩

def full : BitVec 32 := ~~~0#32
theorem text_any (s : ByteArray) (w : World) (hT : Tab w) (hs : s.size ≤ maxLen) :
    Calls Tryd.prog 12 #[.string s] w fun e w' => e = .returned (.int .u32 (v (sum s.data.toList))) ∧ w = w' := by
  unfold maxLen at hs
  have h0 : (4294967295 : Int) = v full := by decide
  go_enter Tryd.func12, Tryd.ntmps12
  go_wp2
  go_loop [3, 7] (fun cv i => ∃ k : Nat, k ≤ s.size ∧ i = .int .i64 k ∧ cv = .int .u32 (v (run full (s.data.toList.take k)))) (fun _ i => s.size - (intOf i).toNat)
  case atStart => exact ⟨0, Nat.zero_le _, rfl, rfl⟩
  case round =>
    obtain ⟨k, hk, rfl, rfl⟩ := hrel
    by_cases hlt : k < s.size
    · have hS := run_snoc full s.data.toList k (by simpa using hlt)
      have hg : s.data.toList[k]'(by simpa using hlt) = s[k] := rfl
      rw [hg] at hS
      have HS := Lib.hid hS
      clear hS hg
      go_wp2_with (go_at_call 15; refine (step_any _ _ _ hT).mono ?_; rintro e w' ⟨rfl, rfl⟩)
      go_round
      case rel => exact ⟨k + 1, by omega, by go_num, by rw [HS.out]⟩
      case measure => simp [intOf]; omega
    · have hn2 := not_v (run full (s.data.toList.take k))
      go_wp2
      go_ret
      have e : k = s.size := by omega
      subst e
      exact ⟨by rw [List.take_of_length_le (by simp)]; rfl, rfl⟩
end Go.Proofs.YtkddijipdldinaaDoor
